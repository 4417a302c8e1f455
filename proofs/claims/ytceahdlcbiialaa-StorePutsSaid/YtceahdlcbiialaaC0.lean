/- What each function on words of package cell and of the reference answers. No condition but the words' own size. -/
import Derived.Test.YtceahdlcbiialaaA0
import Derived.Test.YtceahdlcbiialaaB0
set_option linter.unusedVariables false
set_option linter.unusedSimpArgs false
namespace Go.Proofs.Ytceahdlcbiialaa
open Go.RowKit

theorem ret_i {k : IntKind} {a b : Int} (h : a = b) : Ending.returned (.int k a) = .returned (.int k b) := by rw [h]

set_option maxRecDepth 100000 in
set_option maxHeartbeats 400000 in
theorem tag_spec (c : Nat) (hc : c < 18446744073709551616) (w : World) :
    Calls Try.prog 126 #[.int .u64 c] w fun e w' => e = .returned (.int .i64 (tg c : Nat)) ∧ w' = w := by
  have hb := and7 c hc
  have hl : c % 8 < 8 := by omega
  go_enter Try.func126, Try.ntmps126
  go_wp2
  go_ret
  exact ⟨ret_i (by unfold tg; simp), rfl⟩
set_option maxRecDepth 100000 in
set_option maxHeartbeats 400000 in
theorem rtag_spec (c : Nat) (hc : c < 18446744073709551616) (w : World) :
    Calls Try.prog 133 #[.int .u64 c] w fun e w' => e = .returned (.int .i64 (tg c : Nat)) ∧ w' = w := by
  have hb := and7 c hc
  have hl : c % 8 < 8 := by omega
  go_enter Try.func133, Try.ntmps133
  go_wp2
  go_ret
  exact ⟨ret_i (by unfold tg; simp), rfl⟩
set_option maxRecDepth 100000 in
set_option maxHeartbeats 400000 in
theorem value_spec (c : Nat) (hc : c < 18446744073709551616) (w : World) :
    Calls Try.prog 111 #[.int .u64 c] w fun e w' => e = .returned (.int .u64 (vl c : Nat)) ∧ w' = w := by
  go_enter Try.func111, Try.ntmps111
  go_wp2
  go_ret
  exact ⟨ret_i (by unfold vl; simp), rfl⟩
set_option maxRecDepth 100000 in
set_option maxHeartbeats 400000 in
theorem rvalue_spec (c : Nat) (hc : c < 18446744073709551616) (w : World) :
    Calls Try.prog 132 #[.int .u64 c] w fun e w' => e = .returned (.int .u64 (vl c : Nat)) ∧ w' = w := by
  go_enter Try.func132, Try.ntmps132
  go_wp2
  go_ret
  exact ⟨ret_i (by unfold vl; simp), rfl⟩
set_option maxRecDepth 100000 in
set_option maxHeartbeats 400000 in
theorem make_spec {t' n' : Int} (t n : Nat) (et : t' = t) (en : n' = n) (ht : t ≤ 6) (hn : n < 2305843009213693952) (w : World) :
    Calls Try.prog 118 #[.int .i64 t', .int .u64 n'] w fun e w' => e = .returned (.tuple #[.int .u64 (mkc t n : Nat), .bool true]) ∧ w' = w := by
  subst et en
  have hb := or_tag t n (by omega) hn
  go_enter Try.func118, Try.ntmps118
  go_wp2
  go_ret2
  exact ⟨by simp only [mkc]; rfl, rfl⟩
set_option maxRecDepth 100000 in
set_option maxHeartbeats 400000 in
theorem rmake_spec {t' n' : Int} (t n : Nat) (et : t' = t) (en : n' = n) (ht : t ≤ 7) (hn : n < 2305843009213693952) (w : World) :
    Calls Try.prog 85 #[.int .i64 t', .int .u64 n'] w fun e w' => e = .returned (.int .u64 (mkc t n : Nat)) ∧ w' = w := by
  subst et en
  have hb := or_tag t n (by omega) hn
  go_enter Try.func85, Try.ntmps85
  go_wp2
  go_ret
  exact ⟨by simp only [mkc]; rfl, rfl⟩
set_option maxRecDepth 100000 in
set_option maxHeartbeats 400000 in
theorem int_spec (c : Nat) (hc : c < 18446744073709551616) (w : World) :
    Calls Try.prog 130 #[.int .u64 c] w fun e w' => e = .returned (.int .i64 (sint c)) ∧ w' = w := by
  go_enter Try.func130, Try.ntmps130
  go_wp2
  go_ret
  exact ⟨ret_i rfl, rfl⟩
set_option maxRecDepth 100000 in
set_option maxHeartbeats 400000 in
theorem rint_spec (c : Nat) (hc : c < 18446744073709551616) (w : World) :
    Calls Try.prog 137 #[.int .u64 c] w fun e w' => e = .returned (.int .i64 (sint c)) ∧ w' = w := by
  go_enter Try.func137, Try.ntmps137
  go_wp2
  go_ret
  exact ⟨ret_i rfl, rfl⟩
set_option maxRecDepth 100000 in
set_option maxHeartbeats 400000 in
theorem parts_spec (c : Nat) (hc : c < 18446744073709551616) (w : World) :
    Calls Try.prog 146 #[.int .u64 c] w fun e w' => e = .returned (.tuple #[.int .i64 (fAtom c : Nat), .int .i64 (fArity c : Nat)]) ∧ w' = w := by
  have hv := vl_lt c hc
  have ht := tg_lt c
  have e1 : fAtom c = if tg c = 6 then vl c / 256 else 0 := rfl
  have e2 : fArity c = if tg c = 6 then vl c % 256 else 0 := rfl
  by_cases h6 : tg c = 6
  · rw [if_pos h6] at e1 e2
    rw [e1, e2]
    clear e1 e2
    have hz : ((tg c : Int) != 6) = false := by simp [h6]
    clear h6
    go_enter Try.func146, Try.ntmps146
    go_wp2_with (first | (go_at_call 126; refine (tag_spec c hc _).mono ?_; rintro e w' ⟨rfl, rfl⟩) | (go_at_call 111; refine (value_spec c hc _).mono ?_; rintro e w' ⟨rfl, rfl⟩))
    go_ret2
    exact ⟨by simp, rfl⟩
  · rw [if_neg h6] at e1 e2
    rw [e1, e2]
    clear e1 e2
    have hz : ((tg c : Int) != 6) = true := by simp; omega
    clear h6
    go_enter Try.func146, Try.ntmps146
    go_wp2_with (first | (go_at_call 126; refine (tag_spec c hc _).mono ?_; rintro e w' ⟨rfl, rfl⟩) | (go_at_call 111; refine (value_spec c hc _).mono ?_; rintro e w' ⟨rfl, rfl⟩))
    go_ret2
    exact ⟨by simp, rfl⟩
set_option maxRecDepth 100000 in
set_option maxHeartbeats 400000 in
theorem functor_spec (a n : Nat) (ha : a < 4096) (h1 : 1 ≤ n) (h2 : n ≤ 20) (w : World) :
    Calls Try.prog 159 #[.int .i64 a, .int .i64 n] w fun e w' => e = .returned (.tuple #[.int .u64 (fun6 a n : Nat), .bool true]) ∧ w' = w := by
  go_enter Try.func159, Try.ntmps159
  go_wp2_with fail
  refine (make_spec 6 (a * 256 + n) (by simp) (by simp) (by omega) (by omega) _).mono ?_
  rintro e w' ⟨rfl, rfl⟩
  go_wp2
  go_ret2
  exact ⟨rfl, rfl⟩
set_option maxRecDepth 100000 in
set_option maxHeartbeats 400000 in
theorem rfunctor_spec (a n : Nat) (ha : a < 4096) (h1 : 1 ≤ n) (h2 : n ≤ 255) (w : World) :
    Calls Try.prog 125 #[.int .i64 a, .int .i64 n] w fun e w' => e = .returned (.int .u64 (fun6 a n : Nat)) ∧ w' = w := by
  have hb := or_at 8 (a * 256) n (by omega) (by omega) (by omega) (by omega)
  rw [show ((a * 256 : Nat) : Int) = (a : Int) * 256 from by simp] at hb
  have HB := Lib.hid hb; clear hb
  go_enter Try.func125, Try.ntmps125
  go_wp2_with fail
  refine (rmake_spec 6 (a * 256 + n) (by simp) HB.out (by omega) (by omega) _).mono ?_
  rintro e w' ⟨rfl, rfl⟩
  go_wp2
  go_ret
  exact ⟨rfl, rfl⟩
theorem small_val (n : Int) : bits .or .u64 (IntKind.u64.wrap (IntKind.u64.wrap n * 8)) 3 = (small n : Int) := by
  have h := or_at 3 ((n % 2305843009213693952).toNat * 8) 3 (by omega) (by omega) (by omega) (by omega)
  rw [u64_wrap n, u64_u64]
  exact h
set_option maxRecDepth 100000 in
set_option maxHeartbeats 400000 in
theorem small_yes (n : Int) (h : smallOk n = true) (w : World) :
    Calls Try.prog 121 #[.int .i64 n] w fun e w' => e = .returned (.tuple #[.int .u64 (small n : Nat), .bool true]) ∧ w' = w := by
  simp [smallOk] at h
  obtain ⟨h1, h2⟩ := h
  have hb := small_val n
  go_enter Try.func121, Try.ntmps121
  go_wp2
  go_ret2
  exact ⟨rfl, rfl⟩
set_option maxRecDepth 100000 in
set_option maxHeartbeats 400000 in
theorem small_no (n : Int) (h : smallOk n = false) (w : World) :
    Calls Try.prog 121 #[.int .i64 n] w fun e w' => e = .returned (.tuple #[.int .u64 0, .bool false]) ∧ w' = w := by
  rcases Int.lt_or_le n (-1152921504606846976) with h1 | h1
  · clear h
    go_enter Try.func121, Try.ntmps121
    go_wp2
    go_ret2
    exact ⟨rfl, rfl⟩
  · have h2 : 1152921504606846975 < n := by simp [smallOk] at h; omega
    clear h
    go_enter Try.func121, Try.ntmps121
    go_wp2
    go_ret2
    exact ⟨rfl, rfl⟩
theorem rsmall_val (n : Int) : bits .and .u64 (IntKind.u64.wrap n) 2305843009213693951 = ((n % 2305843009213693952).toNat : Int) := by
  rw [u64_wrap n]
  have h := bits_mask .u64 64 (by decide) wraps_u64 61 (by decide) (u64 n : Int) (by omega) (by rw [p64]; have := u64_lt n; omega)
  have e : (2 : Int) ^ 61 = 2305843009213693952 := by decide
  rw [e] at h
  have e2 : (2305843009213693952 : Int) - 1 = 2305843009213693951 := by decide
  rw [e2] at h
  rw [h]; unfold u64; omega
set_option maxRecDepth 100000 in
set_option maxHeartbeats 400000 in
theorem rsmall_yes (n : Int) (h : smallOk n = true) (w : World) :
    Calls Try.prog 30 #[.int .i64 n] w fun e w' => e = .returned (.tuple #[.int .u64 (small n : Nat), .bool true]) ∧ w' = w := by
  simp [smallOk] at h
  obtain ⟨h1, h2⟩ := h
  have hb := rsmall_val n
  have hl : (n % 2305843009213693952).toNat < 2305843009213693952 := by omega
  generalize hq : (n % 2305843009213693952).toNat = q at hb hl
  have hs : small n = mkc 3 q := by unfold small mkc; rw [hq]
  rw [hs]
  clear hs hq
  go_enter Try.func30, Try.ntmps30
  go_wp2_with (go_at_call 85; refine (rmake_spec 3 q rfl rfl (by omega) hl _).mono ?_; rintro e w' ⟨rfl, rfl⟩)
  go_ret2
  exact ⟨rfl, rfl⟩
set_option maxRecDepth 100000 in
set_option maxHeartbeats 400000 in
theorem rsmall_no (n : Int) (h : smallOk n = false) (w : World) :
    Calls Try.prog 30 #[.int .i64 n] w fun e w' => e = .returned (.tuple #[.int .u64 0, .bool false]) ∧ w' = w := by
  rcases Int.lt_or_le n (-1152921504606846976) with h1 | h1
  · clear h
    go_enter Try.func30, Try.ntmps30
    go_wp2
    go_ret2
    exact ⟨rfl, rfl⟩
  · have h2 : 1152921504606846976 ≤ n := by simp [smallOk] at h; omega
    clear h
    go_enter Try.func30, Try.ntmps30
    go_wp2
    go_ret2
    exact ⟨rfl, rfl⟩
end Go.Proofs.Ytceahdlcbiialaa
