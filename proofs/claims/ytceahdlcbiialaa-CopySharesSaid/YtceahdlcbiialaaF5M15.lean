/- What the reference's May answers: the walk. The reference's May, Var, Atom, Comp; awake of the laws on store. awake of the laws on store. -/
import Derived.Test.YtceahdlcbiialaaF5M6
import Derived.Test.YtceahdlcbiialaaF5M14
set_option linter.unusedVariables false
set_option linter.unusedSimpArgs false
namespace Go.Proofs.Ytceahdlcbiialaa
open Go.RowKit

set_option maxRecDepth 100000 in
set_option maxHeartbeats 4000000 in
theorem may_spec (t : Tm) : MayS t := by
  refine Tm.ind (P := MayS) ?_ t
  intro k s n re im xs ih w S Γ cs p d c e d' hO hT hB hd ed
  subst ed
  obtain ⟨A, cap, rfl, hrg, hA⟩ := hT.form
  simp only [Ranged, Tm.k, Tm.s, Tm.n, Tm.re, Tm.im, Tm.xs] at *
  obtain ⟨hk, hs, hn, hre, him, hxl⟩ := hrg
  have hq0 : w.cell? ⟨p, 0, none⟩ = some (.int .i64 (c : Int)) := hO.ptCell 0 _ rfl
  have hq1 : w.cell? ⟨p, 1, none⟩ = some (.int .i64 (e : Int)) := hO.ptCell 1 _ rfl
  have hf0 := hO.ptFree 0
  have hf1 := hO.ptFree 1
  have hplt := hO.ptLt
  have HA := Lib.hid hA; clear hA
  have IH := Lib.hid ih; clear ih
  have HT := Lib.hid hT; clear hT
  have HO := Lib.hid hO.to; clear hO
  obtain ⟨hc1, hc2, hc3⟩ := hB
  simp only at hc1 hc2 hc3
  by_cases he : e = 0
  case neg =>
    have hv : may (.mk k s n re im xs) d (c, e) = (c, e) := by rw [may_eq, if_pos he]
    rw [hv]
    have hb : ((e : Int) != 0) = true := by simp; omega
    clear hv HA IH hc2 he
    go_enter Try.func84, Try.ntmps84
    go_wp2
    refine bodyPost_ret (results_none rfl _ _ _) rfl ?_
    exact ⟨rfl, HO.out.alloc _⟩
  subst he
  have hcl : c ≤ 2000 := hc2 rfl
  clear hc2 hc1 hc3
  by_cases hbad : 2000 < c + 1 ∨ 500 < d
  · have hv : may (.mk k s n re im xs) d (c, 0) = (c + 1, 3) := by rw [may_eq, if_neg (by simp), if_pos hbad]
    rw [hv]
    clear hv HA IH
    by_cases h1 : 2000 < c + 1
    · clear hbad
      go_enter Try.func84, Try.ntmps84
      go_wp2
      go_end0
      exact ⟨rfl, ((HO.out.ptSet 0 (.int .i64 ((c : Int) + 1))).ptSet 1 (.int .i64 3)).alloc _⟩
    · have h2 : 500 < d := by omega
      clear hbad
      go_enter Try.func84, Try.ntmps84
      go_wp2
      go_end0
      exact ⟨rfl, ((HO.out.ptSet 0 (.int .i64 ((c : Int) + 1))).ptSet 1 (.int .i64 3)).alloc _⟩
  have hg1 : c + 1 ≤ 2000 := by omega
  have hg2 : d ≤ 500 := by omega
  have F1 := Lib.hid ((HO.out.ptSet 0 (.int .i64 ((c : Int) + 1))).ptSet 1 (.int .i64 1))
  have F3 := Lib.hid ((HO.out.ptSet 0 (.int .i64 ((c : Int) + 1))).ptSet 1 (.int .i64 3))
  have F0 := Lib.hid (HO.out.ptSet 0 (.int .i64 ((c : Int) + 1)))
  by_cases hb1 : k < 1 ∨ 5 < k ∨ (k = 1 ∧ n < 0) ∨ (k = 5 ∧ xs.length = 0)
  · have h1 : one (.mk k s n re im xs) = 1 := one_1 (t := .mk k s n re im xs) hb1
    have hv : may (.mk k s n re im xs) d (c, 0) = (c + 1, 1) := by rw [may_eq, if_neg (by simp), if_neg hbad, h1, if_pos (by simp)]
    rw [hv]
    clear hv HA IH hbad h1
    by_cases x1 : k < 1
    · clear hb1
      go_enter Try.func84, Try.ntmps84
      go_wp2
      go_end0
      exact ⟨rfl, F1.out.alloc _⟩
    · by_cases x2 : 5 < k
      · clear hb1
        go_enter Try.func84, Try.ntmps84
        go_wp2
        go_end0
        exact ⟨rfl, F1.out.alloc _⟩
      · by_cases x3 : k = 1 ∧ n < 0
        · obtain ⟨rfl, x3⟩ := x3
          clear hb1
          go_enter Try.func84, Try.ntmps84
          go_wp2
          go_end0
          exact ⟨rfl, F1.out.alloc _⟩
        · have x4 : k = 5 ∧ xs.length = 0 := by omega
          obtain ⟨rfl, x4⟩ := x4
          have x4' : ((xs.length : Int) == 0) = true := by simp [x4]
          clear hb1 x3 x4
          go_enter Try.func84, Try.ntmps84
          go_wp2
          go_end0
          exact ⟨rfl, F1.out.alloc _⟩
  by_cases hb2 : ((k = 2 ∨ k = 5) ∧ 200 < s.size) ∨ (k = 5 ∧ 20 < xs.length)
  · have h1 : one (.mk k s n re im xs) = 3 := one_3 (t := .mk k s n re im xs) hb1 hb2
    have hv : may (.mk k s n re im xs) d (c, 0) = (c + 1, 3) := by rw [may_eq, if_neg (by simp), if_neg hbad, h1, if_pos (by simp)]
    rw [hv]
    clear hv HA IH hbad h1
    by_cases x2 : k = 2
    · subst x2
      have y1 : 200 < s.size := by omega
      clear hb1 hb2
      go_enter Try.func84, Try.ntmps84
      go_wp2
      go_end0
      exact ⟨rfl, F3.out.alloc _⟩
    · obtain rfl : k = 5 := by omega
      have y0 : ((xs.length : Int) == 0) = false := beq_eq_false_iff_ne.2 (by omega)
      have y0' : 0 < xs.length := by omega
      by_cases y1 : 200 < s.size
      · clear hb1 hb2
        go_enter Try.func84, Try.ntmps84
        go_wp2
        go_end0
        exact ⟨rfl, F3.out.alloc _⟩
      · have y2 : 20 < xs.length := by omega
        clear hb1 hb2
        go_enter Try.func84, Try.ntmps84
        go_wp2
        go_end0
        exact ⟨rfl, F3.out.alloc _⟩
  have h1 : one (.mk k s n re im xs) = 0 := one_0 (t := .mk k s n re im xs) hb1 hb2
  by_cases x5 : k = 5
  case neg =>
    have hv : may (.mk k s n re im xs) d (c, 0) = (c + 1, 0) := by rw [may_eq, if_neg (by simp), if_neg hbad, h1, if_neg (by simp), if_neg x5]
    rw [hv]
    clear hv HA IH hbad h1
    by_cases x1 : k = 1
    · subst x1
      have y1 : 0 ≤ n := by omega
      clear hb1 hb2
      go_enter Try.func84, Try.ntmps84
      go_wp2
      go_end0
      exact ⟨rfl, F0.out.alloc _⟩
    · by_cases x2 : k = 2
      · subst x2
        have y1 : s.size ≤ 200 := by omega
        clear hb1 hb2
        go_enter Try.func84, Try.ntmps84
        go_wp2
        go_end0
        exact ⟨rfl, F0.out.alloc _⟩
      · by_cases x3 : k = 3
        · subst x3
          clear hb1 hb2
          go_enter Try.func84, Try.ntmps84
          go_wp2
          go_end0
          exact ⟨rfl, F0.out.alloc _⟩
        · obtain rfl : k = 4 := by omega
          clear hb1 hb2
          go_enter Try.func84, Try.ntmps84
          go_wp2
          go_end0
          exact ⟨rfl, F0.out.alloc _⟩
  subst x5
  have y0 : ((xs.length : Int) == 0) = false := beq_eq_false_iff_ne.2 (by omega)
  have y0' : 0 < xs.length := by omega
  have y1 : s.size ≤ 200 := by omega
  have y2 : xs.length ≤ 20 := by omega
  have hv : may (.mk 5 s n re im xs) d (c, 0) = mayL xs (d + 1) (c + 1, 0) := by rw [may_eq, if_neg (by simp), if_neg hbad, h1, if_neg (by simp), if_pos rfl]
  rw [hv]
  clear hv hb1 hb2 h1 hbad
  exact may_tail IH.out HA.out HT.out HO.out y0 y0' y1 y2 hg1 hg2 hn hre him hs
end Go.Proofs.Ytceahdlcbiialaa
set_option linter.unusedVariables false
set_option linter.unusedSimpArgs false
namespace Go.Proofs.Ytceahdlcbiialaa
open Go.RowKit

set_option maxRecDepth 100000 in
set_option maxHeartbeats 1000000 in
theorem May_spec {w : World} {S : Blk} {Γ : List Asn} {cs : List Value} {t : Tm} (h : Ok w S Γ) (hT : TmC w S cs t) :
    Calls Try.prog 24 #[.agg cs.toArray] w fun e w' => e = .returned (.int .i64 (May t : Nat)) ∧ To w S w' S Γ := by
  obtain ⟨A, cap, rfl⟩ := hT.form0
  have hal := (h.to.alloc (.cells #[.int .i64 t.k, .string t.s, .int .i64 t.n, .int .u64 t.re, .int .u64 t.im, .slice A t.xs.length cap] 25)).allocPt' #[.int .i64 (0 : Nat), .int .i64 (0 : Nat)] 117 (w.heap.size + 1) (by simp)
  have hm := (may_spec t) _ S Γ _ (w.heap.size + 1) 1 0 0 1 hal.ok (hT.to hal) ⟨by simp, by simp, by simp⟩ (by omega) rfl
  have HM := Lib.hid hm; clear hm
  have HAL := Lib.hid hal; clear hal hT h
  go_enter Try.func24, Try.ntmps24
  go_wp2_with (go_at_call 84; refine HM.out.mono ?_; rintro e w' ⟨rfl, hw⟩; have c1 : w'.cell? ⟨w.heap.size + 1, 1, none⟩ = some (.int .i64 (May t : Nat)) := hw.ok.ptCell 1 _ rfl; have HW := Lib.hid hw; clear hw)
  go_ret
  exact ⟨rfl, (HAL.out.trans HW.out).drop⟩

set_option maxRecDepth 100000 in
set_option maxHeartbeats 1000000 in
theorem Var_spec (n : Int) (w : World) : Calls Try.prog 35 #[.int .i64 n] w fun e w' => e = .returned (.agg #[.int .i64 1, .string ⟨#[]⟩, .int .i64 n, .int .u64 0, .int .u64 0, .slice none 0 0]) ∧ Below w.heap.size w w' := by
  have hb := (Below.refl w.heap.size w).alloc (Nat.le_refl _) (.cells #[.int .i64 1, .string ⟨#[]⟩, .int .i64 n, .int .u64 0, .int .u64 0, .slice none 0 0] 25)
  have HB := Lib.hid hb; clear hb
  go_enter Try.func35, Try.ntmps35
  go_wp2
  refine bodyPost_ret (v := .agg #[.int .i64 1, .string ⟨#[]⟩, .int .i64 n, .int .u64 0, .int .u64 0, .slice none 0 0]) (by simp [results, Try.results35, go_sem]) rfl ?_
  exact ⟨rfl, HB.out⟩

set_option maxRecDepth 100000 in
set_option maxHeartbeats 1000000 in
theorem Atom_spec (s : ByteArray) (w : World) : Calls Try.prog 76 #[.string s] w fun e w' => e = .returned (.agg #[.int .i64 2, .string s, .int .i64 0, .int .u64 0, .int .u64 0, .slice none 0 0]) ∧ Below w.heap.size w w' := by
  have hb := (Below.refl w.heap.size w).alloc (Nat.le_refl _) (.cells #[.int .i64 2, .string s, .int .i64 0, .int .u64 0, .int .u64 0, .slice none 0 0] 25)
  have HB := Lib.hid hb; clear hb
  go_enter Try.func76, Try.ntmps76
  go_wp2
  refine bodyPost_ret (v := .agg #[.int .i64 2, .string s, .int .i64 0, .int .u64 0, .int .u64 0, .slice none 0 0]) (by simp [results, Try.results76, go_sem]) rfl ?_
  exact ⟨rfl, HB.out⟩
set_option maxRecDepth 100000 in
set_option maxHeartbeats 1000000 in
theorem Comp_spec (s : ByteArray) (A : Option Addr) (n cap : Nat) (w : World) : Calls Try.prog 57 #[.string s, .slice A n cap] w fun e w' => e = .returned (.agg #[.int .i64 5, .string s, .int .i64 0, .int .u64 0, .int .u64 0, .slice A n cap]) ∧ Below w.heap.size w w' := by
  have hb := (Below.refl w.heap.size w).alloc (Nat.le_refl _) (.cells #[.int .i64 5, .string s, .int .i64 0, .int .u64 0, .int .u64 0, .slice A n cap] 25)
  have HB := Lib.hid hb; clear hb
  go_enter Try.func57, Try.ntmps57
  go_wp2
  refine bodyPost_ret (v := .agg #[.int .i64 5, .string s, .int .i64 0, .int .u64 0, .int .u64 0, .slice A n cap]) (by simp [results, Try.results57, go_sem]) rfl ?_
  exact ⟨rfl, HB.out⟩

/-- f(X, a, X). -/
def awakeT : Tm := .mk 5 ⟨#[102]⟩ 0 0 0 [.mk 1 ⟨#[]⟩ 0 0 0 [], .mk 2 ⟨#[97]⟩ 0 0 0 [], .mk 1 ⟨#[]⟩ 0 0 0 []]
theorem awake_put : putP 50 awakeT ⟨[], names0, []⟩ = ((mkc 1 0, 0), ⟨[fun6 2 3, mkc 0 1, mkc 2 3, mkc 0 1], names0 ++ [⟨#[102]⟩, ⟨#[97]⟩], [(0, mkc 0 1)]⟩) := by
  rfl
end Go.Proofs.Ytceahdlcbiialaa
set_option linter.unusedVariables false
set_option linter.unusedSimpArgs false
namespace Go.Proofs.Ytceahdlcbiialaa
open Go.RowKit

theorem leaf_tm {w : World} {S : Blk} (k n : Int) (s : ByteArray) (h1 : 0 ≤ k ∧ k ≤ 5) (h2 : s.size ≤ 400) (h3 : -9223372036854775808 ≤ n ∧ n ≤ 9223372036854775807) : TmC w S [.int .i64 k, .string s, .int .i64 n, .int .u64 0, .int .u64 0, .slice none 0 0] (.mk k s n 0 0 []) :=
  TmC.of (t := .mk k s n 0 0 []) (A := none) (cap := 0) ⟨by simp only [Tm.k]; omega, by simp only [Tm.s]; omega, by simpa only [Tm.n] using h3, by simp [Tm.re], by simp [Tm.im], by simp [Tm.xs]⟩ (fun i x hx => by simp [Tm.xs] at hx)
/-- The cells of f's three arguments. -/
def ArgsAt (w : World) (g : Nat) : Prop :=
  w.heap[g]? = some (.cells #[.int .i64 1, .string ⟨#[]⟩, .int .i64 0, .int .u64 0, .int .u64 0, .slice none 0 0, .int .i64 2, .string ⟨#[97]⟩, .int .i64 0, .int .u64 0, .int .u64 0, .slice none 0 0, .int .i64 1, .string ⟨#[]⟩, .int .i64 0, .int .u64 0, .int .u64 0, .slice none 0 0] 25 (0, 0))
theorem awake_tm {w : World} {S : Blk} {g : Nat} (hS : S g) (hc : ArgsAt w g) : TmC w S [.int .i64 5, .string ⟨#[102]⟩, .int .i64 0, .int .u64 0, .int .u64 0, .slice (some ⟨g, 0, none⟩) 3 3] awakeT := by
  refine TmC.of (t := awakeT) (A := some ⟨g, 0, none⟩) (cap := 3) ⟨by simp [awakeT, Tm.k], by simp only [awakeT, Tm.s]; decide, by simp [awakeT, Tm.n], by simp [awakeT, Tm.re], by simp [awakeT, Tm.im], by simp [awakeT, Tm.xs]⟩ ?_
  intro i x hx
  have hcell : ∀ (j : Nat) (v : Value), #[Value.int .i64 1, .string ⟨#[]⟩, .int .i64 0, .int .u64 0, .int .u64 0, .slice none 0 0, .int .i64 2, .string ⟨#[97]⟩, .int .i64 0, .int .u64 0, .int .u64 0, .slice none 0 0, .int .i64 1, .string ⟨#[]⟩, .int .i64 0, .int .u64 0, .int .u64 0, .slice none 0 0][j]? = some v → w.cell? ⟨g, j, none⟩ = some v := by
    intro j v hj
    unfold ArgsAt at hc
    simp [World.cell?, hc, hj]
  have hlt := (List.getElem?_eq_some_iff.1 hx).1
  simp [awakeT, Tm.xs] at hlt
  match i, hlt with
  | 0, _ =>
    simp [awakeT, Tm.xs] at hx
    subst hx
    exact ⟨g, 0, none, 0, rfl, hS, hcell 0 _ rfl, hcell 1 _ rfl, hcell 2 _ rfl, hcell 3 _ rfl, hcell 4 _ rfl, hcell 5 _ rfl, leaf_tm 1 0 _ (by omega) (by decide) (by omega)⟩
  | 1, _ =>
    simp [awakeT, Tm.xs] at hx
    subst hx
    exact ⟨g, 0, none, 0, rfl, hS, hcell 6 _ rfl, hcell 7 _ rfl, hcell 8 _ rfl, hcell 9 _ rfl, hcell 10 _ rfl, hcell 11 _ rfl, leaf_tm 2 0 _ (by omega) (by decide) (by omega)⟩
  | 2, _ =>
    simp [awakeT, Tm.xs] at hx
    subst hx
    exact ⟨g, 0, none, 0, rfl, hS, hcell 12 _ rfl, hcell 13 _ rfl, hcell 14 _ rfl, hcell 15 _ rfl, hcell 16 _ rfl, hcell 17 _ rfl, leaf_tm 1 0 _ (by omega) (by decide) (by omega)⟩

abbrev six0 : Array Value := #[.int .i64 1, .string ⟨#[]⟩, .int .i64 0, .int .u64 0, .int .u64 0, .slice none 0 0]
theorem six_of {X : World} {g : Nat} (h : X.heap[g]? = some (.cells six0 25 (0, 0))) : X.cell? ⟨g, 0, none⟩ = some (.int .i64 1) ∧ X.cell? ⟨g, 1, none⟩ = some (.string ⟨#[]⟩) ∧ X.cell? ⟨g, 2, none⟩ = some (.int .i64 0) ∧ X.cell? ⟨g, 3, none⟩ = some (.int .u64 0) ∧ X.cell? ⟨g, 4, none⟩ = some (.int .u64 0) ∧ X.cell? ⟨g, 5, none⟩ = some (.slice none 0 0) := by
  simp [World.cell?, h]
theorem awake_call {w w2 wC : World} {S : Blk} {Γ : List Asn} {p a g g3 : Nat} (hN : To w S w2 S (AtomsA a names0 :: HeapA p 50 [] :: Γ)) (hB : Below w2.heap.size w2 wC) (hg1 : w2.heap.size ≤ g) (hg2 : g < wC.heap.size) (hA : ArgsAt wC g)
    (h1 : w2.heap.size ≤ g3) (h2 : g3 < wC.heap.size) (h3 : wC.heap[g3]? = some (.cells six0 25 (0, 0))) :
    Calls Try.prog 28 #[.pointer (some ⟨p, 0, none⟩), .pointer (some ⟨a, 0, none⟩), .agg #[.int .i64 5, .string ⟨#[102]⟩, .int .i64 0, .int .u64 0, .int .u64 0, .slice (some ⟨g, 0, none⟩) 3 3], .map none] wC fun e wP =>
      e = .returned (.tuple #[.int .u64 (mkc 1 0 : Nat), .int .i64 (0 : Nat)]) ∧ Hid (To w S wP S (HeapA p 50 [fun6 2 3, mkc 0 1, mkc 2 3, mkc 0 1] :: Γ)) ∧ wP.heap[g3]? = some (.cells six0 25 (0, 0)) := by
  have hs := hN.belowSeal hB
  have hp := put_nil hs.ok.p1 (awake_tm (S := keepNew S w2.heap.size wC.heap.size) (.inr ⟨hg1, hg2⟩) hA)
  rw [awake_put] at hp
  refine hp.mono ?_
  rintro e wP ⟨rfl, hT⟩
  exact ⟨rfl, Lib.hid (hs.trans hT).plain.p1.drop, (hT.kept g3 (.inr ⟨h1, h2⟩)).trans h3⟩

set_option maxRecDepth 100000 in
set_option maxHeartbeats 8000000 in
theorem awake7_spec {w : World} {S : Blk} {Γ : List Asn} (hO : Ok w S Γ) : Calls Try.prog 25 #[] w fun e w' => e = .returned (.bool true) ∧ To w S w' S Γ := by
  have H := Lib.hid hO; clear hO
  go_enter Try.func25, Try.ntmps25
  go_wp2_with (first | (go_at_call 26; refine (new_spec H.out 50 50 rfl (by omega)).mono ?_; rintro e w1 ⟨p, rfl, h1⟩) | (go_at_call 27; refine (anew_spec h1.ok).mono ?_; rintro e w2 ⟨a, rfl, h2⟩) | (go_at_call 35; refine (Var_spec 0 _).mono ?_; rintro e wV ⟨rfl, hV⟩))
  have hN := h1.trans h2
  have HN := Lib.hid hN; clear hN h1 h2
  have hB3 := hV.alloc hV.size (.cells #[.int .i64 1, .string ⟨#[]⟩, .int .i64 0, .int .u64 0, .int .u64 0, .slice none 0 0] 25)
  have b0 : (wV.alloc (.cells #[.int .i64 1, .string ⟨#[]⟩, .int .i64 0, .int .u64 0, .int .u64 0, .slice none 0 0] 25)).heap[wV.heap.size]? = some (.cells #[.int .i64 1, .string ⟨#[]⟩, .int .i64 0, .int .u64 0, .int .u64 0, .slice none 0 0] 25 (0, 0)) := World.alloc_heap_new wV _
  have hz : (wV.alloc (.cells #[.int .i64 1, .string ⟨#[]⟩, .int .i64 0, .int .u64 0, .int .u64 0, .slice none 0 0] 25)).heap.size = wV.heap.size + 1 := by simp
  generalize wV.alloc (.cells #[.int .i64 1, .string ⟨#[]⟩, .int .i64 0, .int .u64 0, .int .u64 0, .slice none 0 0] 25) = W3 at hB3 b0 hz ⊢
  have hg3 := hV.size
  clear hV
  generalize wV.heap.size = g3 at b0 hz hg3 ⊢
  have hs3 := hB3.size
  have B0 := Lib.hid b0
  have HB3 := Lib.hid hB3; clear hB3
  have HATOM : Hid (Calls Try.prog 76 #[.string ⟨#[97]⟩] W3.drew fun e wA => e = .returned (.agg #[.int .i64 2, .string ⟨#[97]⟩, .int .i64 0, .int .u64 0, .int .u64 0, .slice none 0 0]) ∧ Hid (Below w2.heap.size w2 wA ∧ g3 < wA.heap.size ∧ wA.heap[g3]? = some (.cells six0 25 (0, 0))) ∧
      wA.cell? ⟨g3, 0, none⟩ = some (.int .i64 1) ∧ wA.cell? ⟨g3, 1, none⟩ = some (.string ⟨#[]⟩) ∧ wA.cell? ⟨g3, 2, none⟩ = some (.int .i64 0) ∧ wA.cell? ⟨g3, 3, none⟩ = some (.int .u64 0) ∧ wA.cell? ⟨g3, 4, none⟩ = some (.int .u64 0) ∧ wA.cell? ⟨g3, 5, none⟩ = some (.slice none 0 0)) := by
    refine Lib.hid ((Atom_spec ⟨#[97]⟩ W3.drew).mono ?_)
    rintro e wA ⟨h1, hA⟩
    have hW : W3.drew.heap.size = W3.heap.size := rfl
    have za := hA.size
    have a0 := (hA.block g3 (by omega)).trans b0
    have hd : Below w2.heap.size W3 W3.drew := ⟨rfl, rfl, rfl, Nat.le_refl _, fun _ _ => rfl⟩
    have hA' : Below w2.heap.size W3.drew wA := hA.mono (by omega)
    exact ⟨h1, Lib.hid ⟨(HB3.out.trans hd).trans hA', by omega, a0⟩, six_of a0⟩
  have HCOMP : Hid (∀ wA : World, Below w2.heap.size w2 wA ∧ g3 < wA.heap.size ∧ wA.heap[g3]? = some (.cells six0 25 (0, 0)) →
      Calls Try.prog 57 #[.string ⟨#[102]⟩, .slice (some ⟨wA.heap.size, 0, none⟩) 3 3] (wA.alloc (.cells #[.int .i64 1, .string ⟨#[]⟩, .int .i64 0, .int .u64 0, .int .u64 0, .slice none 0 0, .int .i64 2, .string ⟨#[97]⟩, .int .i64 0, .int .u64 0, .int .u64 0, .slice none 0 0, .int .i64 1, .string ⟨#[]⟩, .int .i64 0, .int .u64 0, .int .u64 0, .slice none 0 0] 25)) fun e wC => e = .returned (.agg #[.int .i64 5, .string ⟨#[102]⟩, .int .i64 0, .int .u64 0, .int .u64 0, .slice (some ⟨wA.heap.size, 0, none⟩) 3 3]) ∧
        Hid (Below w2.heap.size w2 wC ∧ w2.heap.size ≤ wA.heap.size ∧ wA.heap.size < wC.heap.size ∧ ArgsAt wC wA.heap.size ∧ g3 < wC.heap.size ∧ wC.heap[g3]? = some (.cells six0 25 (0, 0))) ∧
      wC.cell? ⟨g3, 0, none⟩ = some (.int .i64 1) ∧ wC.cell? ⟨g3, 1, none⟩ = some (.string ⟨#[]⟩) ∧ wC.cell? ⟨g3, 2, none⟩ = some (.int .i64 0) ∧ wC.cell? ⟨g3, 3, none⟩ = some (.int .u64 0) ∧ wC.cell? ⟨g3, 4, none⟩ = some (.int .u64 0) ∧ wC.cell? ⟨g3, 5, none⟩ = some (.slice none 0 0)) := by
    refine Lib.hid fun wA ⟨hb, hlt, h0⟩ => (Comp_spec ⟨#[102]⟩ _ 3 3 _).mono ?_
    rintro e wC ⟨h1, hC⟩
    have hs := hb.size
    have ya : (wA.alloc (.cells #[.int .i64 1, .string ⟨#[]⟩, .int .i64 0, .int .u64 0, .int .u64 0, .slice none 0 0, .int .i64 2, .string ⟨#[97]⟩, .int .i64 0, .int .u64 0, .int .u64 0, .slice none 0 0, .int .i64 1, .string ⟨#[]⟩, .int .i64 0, .int .u64 0, .int .u64 0, .slice none 0 0] 25)).heap.size = wA.heap.size + 1 := by simp
    have zc := hC.size
    have q0 := (hC.block g3 (by omega)).trans ((Below.heap_alloc wA _ g3 hlt).trans h0)
    exact ⟨h1, Lib.hid ⟨(hb.alloc hs _).trans (hC.mono (by omega)), hs, by omega, (hC.block _ (by omega)).trans (World.alloc_heap_new wA _), by omega, q0⟩, six_of q0⟩
  have HPUT : Hid (∀ wA wC : World, Below w2.heap.size w2 wC ∧ w2.heap.size ≤ wA.heap.size ∧ wA.heap.size < wC.heap.size ∧ ArgsAt wC wA.heap.size ∧ g3 < wC.heap.size ∧ wC.heap[g3]? = some (.cells six0 25 (0, 0)) →
      Calls Try.prog 28 #[.pointer (some ⟨p, 0, none⟩), .pointer (some ⟨a, 0, none⟩), .agg #[.int .i64 5, .string ⟨#[102]⟩, .int .i64 0, .int .u64 0, .int .u64 0, .slice (some ⟨wA.heap.size, 0, none⟩) 3 3], .map none] wC fun e wP =>
        e = .returned (.tuple #[.int .u64 (mkc 1 0 : Nat), .int .i64 (0 : Nat)]) ∧ Hid (To w S wP S (HeapA p 50 [fun6 2 3, mkc 0 1, mkc 2 3, mkc 0 1] :: Γ)) ∧
      wP.cell? ⟨g3, 0, none⟩ = some (.int .i64 1) ∧ wP.cell? ⟨g3, 1, none⟩ = some (.string ⟨#[]⟩) ∧ wP.cell? ⟨g3, 2, none⟩ = some (.int .i64 0) ∧ wP.cell? ⟨g3, 3, none⟩ = some (.int .u64 0) ∧ wP.cell? ⟨g3, 4, none⟩ = some (.int .u64 0) ∧ wP.cell? ⟨g3, 5, none⟩ = some (.slice none 0 0)) := by
    refine Lib.hid fun wA wC ⟨h1, h2, h3, h4, h5, h6⟩ => (awake_call HN.out h1 h2 h3 h4 hg3 h5 h6).mono ?_
    rintro e wP ⟨k1, k2, k3⟩
    exact ⟨k1, k2, six_of k3⟩
  obtain ⟨k0, k1, k2, k3, k4, k5⟩ := six_of b0
  go_region_held3 (fun X => X.cell? ⟨g3, 0, none⟩ = some (.int .i64 1) ∧ X.cell? ⟨g3, 1, none⟩ = some (.string ⟨#[]⟩) ∧ X.cell? ⟨g3, 2, none⟩ = some (.int .i64 0) ∧ X.cell? ⟨g3, 3, none⟩ = some (.int .u64 0) ∧ X.cell? ⟨g3, 4, none⟩ = some (.int .u64 0) ∧ X.cell? ⟨g3, 5, none⟩ = some (.slice none 0 0)) (go_keep) (first | (go_at_call 76; refine HATOM.out.mono ?_; rintro e wA ⟨rfl, FA, m0, m1, m2, m3, m4, m5⟩) | (go_at_call 57; refine (HCOMP.out wA FA.out).mono ?_; rintro e wC ⟨rfl, FC, n0, n1, n2, n3, n4, n5⟩) | (go_at_call 28; refine (HPUT.out wA wC FC.out).mono ?_; rintro e wP ⟨rfl, HP, r0, r1, r2, r3, r4, r5⟩))
  have hr := HP.out.ok.heapAR
  have HR := Lib.hid hr; clear hr
  go_wp2_with (first | (go_at_call 36; refine (get_in HR.out 3 (mkc 0 1) rfl rfl).mono ?_; rintro e w' ⟨rfl, hww⟩; subst w') | (go_at_call 31; refine (len_spec HR.out).mono ?_; rintro e w' ⟨rfl, hww⟩; subst w') | (go_at_call 85; refine (rmake_spec 1 0 rfl rfl (by omega) (by omega) _).mono ?_; rintro e w' ⟨rfl, hww⟩; subst w') | (go_at_call 85; refine (rmake_spec 0 1 rfl rfl (by omega) (by omega) _).mono ?_; rintro e w' ⟨rfl, hww⟩; subst w'))
  go_ret
  exact ⟨rfl, HP.out.drop⟩
#print axioms awake7_spec
end Go.Proofs.Ytceahdlcbiialaa
