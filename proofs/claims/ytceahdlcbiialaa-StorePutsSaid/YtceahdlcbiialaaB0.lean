/- Words with a tag, as numbers: what stands in the lowest three bits, what above. No condition. -/
import Derived.WalkKit
import Derived.WalkLawsBesides
set_option linter.unusedVariables false
set_option linter.unusedSimpArgs false
namespace Go.Proofs.Ytceahdlcbiialaa
open Go.RowKit

def tg (c : Nat) : Nat := c % 8
def vl (c : Nat) : Nat := c / 8
def mkc (t n : Nat) : Nat := n * 8 + t
def u64 (n : Int) : Nat := (n % 18446744073709551616).toNat
def smallOk (n : Int) : Bool := decide (-1152921504606846976 ≤ n) && decide (n ≤ 1152921504606846975)
def small (n : Int) : Nat := (n % 2305843009213693952).toNat * 8 + 3
def sint (c : Nat) : Int := wrap64 c / 8
def fAtom (c : Nat) : Nat := if tg c = 6 then vl c / 256 else 0
def fArity (c : Nat) : Nat := if tg c = 6 then vl c % 256 else 0
def fun6 (a n : Nat) : Nat := mkc 6 (a * 256 + n)

theorem p64 : (2 : Int) ^ 64 = 18446744073709551616 := by decide
theorem wraps_u64 (n : Int) (h₀ : 0 ≤ n) (h₁ : n < 2 ^ 64) : IntKind.u64.wrap n = n := by
  rw [p64] at h₁
  exact IntWalk.u64_in n ⟨h₀, by omega⟩
theorem and7 (c : Nat) (hc : c < 18446744073709551616) : bits .and .u64 (c : Int) 7 = ((c % 8 : Nat) : Int) := by
  have := bits_mask .u64 64 (by decide) wraps_u64 3 (by decide) (c : Int) (by omega) (by rw [p64]; omega)
  simpa using this
theorem or_at (i : Nat) (x t : Nat) (hi : x % 2 ^ i = 0) (ht : t < 2 ^ i) (hx : x < 18446744073709551616) (ht2 : t < 18446744073709551616) : bits .or .u64 (x : Int) (t : Int) = ((x + t : Nat) : Int) := by
  have h := bits_join .u64 64 (by decide) wraps_u64 i (x : Int) (t : Int) (by omega) (by exact_mod_cast hi) (by rw [p64]; omega) (by omega) (by exact_mod_cast ht) (by rw [p64]; omega)
  rw [h]; simp
theorem or_tag (t n : Nat) (ht : t < 8) (hn : n < 2305843009213693952) : bits .or .u64 ((n : Int) * 8) (t : Int) = ((n * 8 + t : Nat) : Int) := by
  have := or_at 3 (n * 8) t (by omega) (by omega) (by omega) (by omega)
  rw [← this]; simp
theorem u64_lt (n : Int) : u64 n < 18446744073709551616 := by unfold u64; omega
theorem small_lt (n : Int) : small n < 18446744073709551616 := by unfold small; omega
theorem u64_wrap (n : Int) : IntKind.u64.wrap n = (u64 n : Int) := by
  have : IntKind.u64.wrap n = n % 18446744073709551616 := by simp [IntKind.wrap, IntKind.bits, IntKind.signed]
  rw [this]; unfold u64; omega
theorem u64_u64 (n : Int) : IntKind.u64.wrap ((u64 n : Int) * 8) = (((n % 2305843009213693952).toNat * 8 : Nat) : Int) := by
  have : ∀ m : Int, IntKind.u64.wrap m = m % 18446744073709551616 := fun m => by simp [IntKind.wrap, IntKind.bits, IntKind.signed]
  rw [this]; unfold u64; omega
theorem tg_lt (c : Nat) : tg c < 8 := by unfold tg; omega
theorem vl_lt (c : Nat) (h : c < 18446744073709551616) : vl c < 2305843009213693952 := by unfold vl; omega
theorem tg_mkc (t n : Nat) (h : t < 8) : tg (mkc t n) = t := by unfold tg mkc; omega
theorem vl_mkc (t n : Nat) (h : t < 8) : vl (mkc t n) = n := by unfold vl mkc; omega
theorem mkc_eta (c : Nat) : mkc (tg c) (vl c) = c := by unfold tg vl mkc; omega
theorem mkc_lt (t n : Nat) (h : t < 8) (hn : n < 2305843009213693952) : mkc t n < 18446744073709551616 := by unfold mkc; omega
end Go.Proofs.Ytceahdlcbiialaa
