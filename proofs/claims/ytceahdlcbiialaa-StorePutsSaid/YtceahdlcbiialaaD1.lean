/- The reference's May, Var, Atom, Comp; awake of the laws on store. -/
import Derived.Test.YtceahdlcbiialaaC13
import Derived.Test.YtceahdlcbiialaaC7
set_option linter.unusedVariables false
set_option linter.unusedSimpArgs false
namespace Go.Proofs.Ytceahdlcbiialaa
open Go.RowKit

set_option maxRecDepth 100000 in
set_option maxHeartbeats 1000000 in
theorem May_spec {w : World} {S : Blk} {Γ : List Asn} {cs : List Value} {t : Tm} (h : Ok w S Γ) (hT : TmC w S cs t) :
    Calls Try.prog 24 #[.agg cs.toArray] w fun e w' => e = .returned (.int .i64 (May t : Nat)) ∧ To w S w' S Γ := by
  obtain ⟨A, cap, rfl⟩ := hT.form0
  have hal := (h.to.alloc (.cells #[.int .i64 t.k, .string t.s, .int .i64 t.n, .int .u64 t.re, .int .u64 t.im, .slice A t.xs.length cap] 25)).allocPt' #[.int .i64 (0 : Nat), .int .i64 (0 : Nat)] 117 (w.heap.size + 1) (by simp)
  have hm := (may_spec t) _ S Γ _ (w.heap.size + 1) 1 0 0 1 hal.ok (hT.to hal) ⟨by simp, by simp, by simp⟩ (by omega) rfl
  have HM := Lib.hid hm; clear hm
  have HAL := Lib.hid hal; clear hal hT h
  go_enter Try.func24, Try.ntmps24
  go_wp2_with (go_at_call 84; refine HM.out.mono ?_; rintro e w' ⟨rfl, hw⟩; have c1 : w'.cell? ⟨w.heap.size + 1, 1, none⟩ = some (.int .i64 (May t : Nat)) := hw.ok.ptCell 1 _ rfl; have HW := Lib.hid hw; clear hw)
  go_ret
  exact ⟨rfl, (HAL.out.trans HW.out).drop⟩

set_option maxRecDepth 100000 in
set_option maxHeartbeats 1000000 in
theorem Var_spec (n : Int) (w : World) : Calls Try.prog 35 #[.int .i64 n] w fun e w' => e = .returned (.agg #[.int .i64 1, .string ⟨#[]⟩, .int .i64 n, .int .u64 0, .int .u64 0, .slice none 0 0]) ∧ Below w.heap.size w w' := by
  have hb := (Below.refl w.heap.size w).alloc (Nat.le_refl _) (.cells #[.int .i64 1, .string ⟨#[]⟩, .int .i64 n, .int .u64 0, .int .u64 0, .slice none 0 0] 25)
  have HB := Lib.hid hb; clear hb
  go_enter Try.func35, Try.ntmps35
  go_wp2
  refine bodyPost_ret (v := .agg #[.int .i64 1, .string ⟨#[]⟩, .int .i64 n, .int .u64 0, .int .u64 0, .slice none 0 0]) (by simp [results, Try.results35, go_sem]) rfl ?_
  exact ⟨rfl, HB.out⟩

set_option maxRecDepth 100000 in
set_option maxHeartbeats 1000000 in
theorem Atom_spec (s : ByteArray) (w : World) : Calls Try.prog 76 #[.string s] w fun e w' => e = .returned (.agg #[.int .i64 2, .string s, .int .i64 0, .int .u64 0, .int .u64 0, .slice none 0 0]) ∧ Below w.heap.size w w' := by
  have hb := (Below.refl w.heap.size w).alloc (Nat.le_refl _) (.cells #[.int .i64 2, .string s, .int .i64 0, .int .u64 0, .int .u64 0, .slice none 0 0] 25)
  have HB := Lib.hid hb; clear hb
  go_enter Try.func76, Try.ntmps76
  go_wp2
  refine bodyPost_ret (v := .agg #[.int .i64 2, .string s, .int .i64 0, .int .u64 0, .int .u64 0, .slice none 0 0]) (by simp [results, Try.results76, go_sem]) rfl ?_
  exact ⟨rfl, HB.out⟩
set_option maxRecDepth 100000 in
set_option maxHeartbeats 1000000 in
theorem Comp_spec (s : ByteArray) (A : Option Addr) (n cap : Nat) (w : World) : Calls Try.prog 57 #[.string s, .slice A n cap] w fun e w' => e = .returned (.agg #[.int .i64 5, .string s, .int .i64 0, .int .u64 0, .int .u64 0, .slice A n cap]) ∧ Below w.heap.size w w' := by
  have hb := (Below.refl w.heap.size w).alloc (Nat.le_refl _) (.cells #[.int .i64 5, .string s, .int .i64 0, .int .u64 0, .int .u64 0, .slice A n cap] 25)
  have HB := Lib.hid hb; clear hb
  go_enter Try.func57, Try.ntmps57
  go_wp2
  refine bodyPost_ret (v := .agg #[.int .i64 5, .string s, .int .i64 0, .int .u64 0, .int .u64 0, .slice A n cap]) (by simp [results, Try.results57, go_sem]) rfl ?_
  exact ⟨rfl, HB.out⟩

/-- f(X, a, X). -/
def awakeT : Tm := .mk 5 ⟨#[102]⟩ 0 0 0 [.mk 1 ⟨#[]⟩ 0 0 0 [], .mk 2 ⟨#[97]⟩ 0 0 0 [], .mk 1 ⟨#[]⟩ 0 0 0 []]
theorem awake_put : putP 50 awakeT ⟨[], names0, []⟩ = ((mkc 1 0, 0), ⟨[fun6 2 3, mkc 0 1, mkc 2 3, mkc 0 1], names0 ++ [⟨#[102]⟩, ⟨#[97]⟩], [(0, mkc 0 1)]⟩) := by
  rfl
end Go.Proofs.Ytceahdlcbiialaa
