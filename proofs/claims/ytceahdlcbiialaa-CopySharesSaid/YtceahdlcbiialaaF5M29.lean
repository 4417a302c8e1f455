/- What is read may be a term. No condition. The reference's Get. -/
import Derived.Test.YtceahdlcbiialaaF5M28
import Derived.Test.YtceahdlcbiialaaF5M25
import Derived.Test.YtceahdlcbiialaaF5M26
set_option linter.unusedVariables false
set_option linter.unusedSimpArgs false
set_option linter.unusedSectionVars false
namespace Go.Proofs.Ytceahdlcbiialaa
open Go.RowKit

section
variable {C : List Nat} {L : List ByteArray} (hL : Names L)
theorem rdVar_err {d : Nat} {s : RS} (h : (rdVar C d s).1.2 ≠ 0) : (rdVar C d s).1.1 = tNone := by
  unfold rdVar at h ⊢
  split
  · rename_i h1
    rw [if_pos h1] at h
    cases hl : lk s.V (vl d) <;> rw [hl] at h <;> simp at h
  · rfl
theorem rd_err : ∀ (f c : Nat) (s : RS), (rd C L f c s).1.2 ≠ 0 → (rd C L f c s).1.1 = tNone
  | 0, _, _, _ => rfl
  | f + 1, c, s, h => by
    unfold rd at h ⊢
    split
    · rfl
    · rename_i hn
      rw [if_neg hn] at h
      unfold rdOne at h ⊢
      split
      · rename_i h0
        rw [if_pos h0] at h
        exact rdVar_err h
      · rename_i h0
        rw [if_neg h0] at h
        split
        · rename_i h1
          rw [if_pos h1] at h
          unfold rdComp at h ⊢
          split
          · rfl
          · rename_i nm n hf
            simp only
            split
            · rfl
            · rename_i h2
              rw [hf] at h
              simp only [if_neg h2] at h
              exact absurd rfl h
        · rename_i h1
          rw [if_neg h1] at h
          split
          · rename_i h2
            rw [if_pos h2] at h
            cases hx : L[vl (deref C C.length c)]? <;> rw [hx] at h <;> simp at h ⊢
          · rename_i h2
            rw [if_neg h2] at h
            split
            · rename_i h3
              rw [if_pos h3] at h
              simp at h
            · rename_i h3
              rw [if_neg h3] at h
              split
              · rename_i h4
                rw [if_pos h4] at h
                cases hx : C[vl (deref C C.length c)]? <;> rw [hx] at h <;> simp at h ⊢
              · rename_i h4
                rw [if_neg h4] at h
                split
                · rename_i h5
                  rw [if_pos h5] at h
                  cases hx : C[vl (deref C C.length c)]? <;> rw [hx] at h <;> simp at h ⊢
                  cases hy : C[vl (deref C C.length c) + 1]? <;> rw [hy] at h <;> simp at h ⊢
                · rfl
theorem may_one {k n re im : Int} {s : ByteArray} (k5 : k ≠ 5) (h1 : one (.mk k s n re im []) = 0) {d c : Nat} (hd : d ≤ 500) (hc : c < 2000) : may (.mk k s n re im []) d (c, 0) = (c + 1, 0) := by
  rw [may_leaf h1 k5, if_neg (by omega)]
theorem rdVar_may {d d' : Nat} {s : RS} (hd : d' ≤ 500) (hs : s.n ≤ 2000) (h1 : 1 ≤ s.n) (h : (rdVar C d s).1.2 = 0) : may (rdVar C d s).1.1 d' (s.n - 1, 0) = ((rdVar C d s).2.n, 0) := by
  unfold rdVar at h ⊢
  have hv : ∀ k : Nat, may (tVar k) d' (s.n - 1, 0) = (s.n, 0) := by
    intro k
    have := may_one (by omega) (one_var k) hd (show s.n - 1 < 2000 by omega)
    rw [show s.n - 1 + 1 = s.n from by omega] at this
    exact this
  split
  · rename_i h1
    rw [if_pos h1] at h
    cases hl : lk s.V (vl d) with
    | some k => exact hv k
    | none => exact hv _
  · rename_i h1
    rw [if_neg h1] at h
    simp at h
theorem rdAll_may {g : Nat → RS → (Tm × Nat) × RS} {d : Nat} (hg : ∀ c s, s.n ≤ 2000 → (g c s).1.2 = 0 → may (g c s).1.1 d (s.n, 0) = ((g c s).2.n, 0) ∧ (g c s).2.n ≤ 2000) : ∀ (l : List Nat) (s : RS), s.n ≤ 2000 → (rdAll g l s).1.2 = 0 →
    mayL (rdAll g l s).1.1 d (s.n, 0) = ((rdAll g l s).2.n, 0) ∧ (rdAll g l s).2.n ≤ 2000 ∧ (rdAll g l s).1.1.length = l.length
  | [], s, hs, _ => ⟨rfl, hs, rfl⟩
  | c :: r, s, hs, h => by
    unfold rdAll at h ⊢
    simp only at h ⊢
    by_cases h1 : (g c s).1.2 = 0
    · rw [if_neg (by simp [h1])] at h ⊢
      obtain ⟨a1, a2⟩ := hg c s hs h1
      by_cases h2 : (rdAll g r (g c s).2).1.2 = 0
      · rw [if_neg (by simp [h2])] at h ⊢
        obtain ⟨b1, b2, b3⟩ := rdAll_may hg r (g c s).2 a2 h2
        refine ⟨?_, b2, by simp [b3]⟩
        simp only [mayL]
        rw [a1]
        exact b1
      · rw [if_pos h2] at h
        exact absurd h h2
    · rw [if_pos h1] at h
      exact absurd h h1
include hL
theorem rd_may : ∀ (f c : Nat) (s : RS), f ≤ 501 → s.n ≤ 2000 → (rd C L f c s).1.2 = 0 → may (rd C L f c s).1.1 (501 - f) (s.n, 0) = ((rd C L f c s).2.n, 0) ∧ (rd C L f c s).2.n ≤ 2000
  | 0, _, _, _, _, h => by simp [rd] at h
  | f + 1, c, s, hf, hs, h => by
    unfold rd at h ⊢
    by_cases hn : s.n = 2000
    · rw [if_pos hn] at h; simp at h
    · rw [if_neg hn] at h ⊢
      have hd : 501 - (f + 1) ≤ 500 := by omega
      have hc : s.n < 2000 := by omega
      unfold rdOne at h ⊢
      by_cases h0 : tg (deref C C.length c) = 0
      · rw [if_pos h0] at h ⊢
        refine ⟨by simpa using rdVar_may (s := ⟨s.V, s.n + 1⟩) hd (by simp only; omega) (by simp) h, ?_⟩
        have : (rdVar C (deref C C.length c) ⟨s.V, s.n + 1⟩).2.n = s.n + 1 := by
          unfold rdVar
          split
          · cases lk s.V (vl (deref C C.length c)) <;> rfl
          · rfl
        omega
      rw [if_neg h0] at h ⊢
      by_cases h1 : tg (deref C C.length c) = 1
      · rw [if_pos h1] at h ⊢
        unfold rdComp at h ⊢
        cases hfun : funAt C L (deref C C.length c) with
        | none => rw [hfun] at h; simp at h
        | some p =>
          obtain ⟨nm', n⟩ := p
          rw [hfun] at h
          simp only at h ⊢
          have hfa : nm'.size ≤ 200 ∧ 1 ≤ n ∧ n ≤ 20 ∧ vl (deref C C.length c) + n < C.length := by
            unfold funAt at hfun
            cases hx : C[vl (deref C C.length c)]? with
            | none => rw [hx] at hfun; cases hfun
            | some x =>
              rw [hx] at hfun
              simp only at hfun
              split at hfun
              · cases hfun
              · cases hl : L[fAtom x]? with
                | none => rw [hl] at hfun; cases hfun
                | some sn =>
                  rw [hl] at hfun
                  simp only at hfun
                  split at hfun
                  · rename_i hcc
                    simp only [Option.some.injEq, Prod.mk.injEq] at hfun
                    obtain ⟨rfl, rfl⟩ := hfun
                    exact ⟨hL.2 _ (List.mem_of_getElem? hl), hcc⟩
                  · cases hfun
          by_cases hz : (rdAll (rd C L f) ((C.drop (vl (deref C C.length c) + 1)).take n) ⟨s.V, s.n + 1⟩).1.2 = 0
          · rw [if_neg (by simp [hz])]
            obtain ⟨a1, a2, a3⟩ := rdAll_may (d := 501 - f) (fun c s hs h => rd_may f c s (by omega) hs h) _ ⟨s.V, s.n + 1⟩ (by simp only; omega) hz
            have hlen : (rdAll (rd C L f) ((C.drop (vl (deref C C.length c) + 1)).take n) ⟨s.V, s.n + 1⟩).1.1.length = n := by
              rw [a3, List.length_take, List.length_drop]
              omega
            refine ⟨?_, a2⟩
            simp only [tComp]
            have ho : one (.mk 5 nm' 0 0 0 (rdAll (rd C L f) ((C.drop (vl (deref C C.length c) + 1)).take n) ⟨s.V, s.n + 1⟩).1.1) = 0 :=
              one_zero.2 ⟨by simp [Tm.k], by simp [Tm.k], fun h => by simp [Tm.k] at h, fun _ => by simp only [Tm.xs, hlen]; omega, fun _ => hfa.1⟩
            rw [may_eq, if_neg (by simp), if_neg (by omega), if_neg (by simp [ho]), if_pos rfl, show 501 - (f + 1) + 1 = 501 - f from by omega]
            exact a1
          · rw [if_pos hz] at h
            exact absurd h hz
      rw [if_neg h1] at h ⊢
      by_cases h2 : tg (deref C C.length c) = 2
      · rw [if_pos h2] at h ⊢
        cases hx : L[vl (deref C C.length c)]? with
        | none => rw [hx] at h; simp at h
        | some x =>
          have hxs := hL.2 x (List.mem_of_getElem? hx)
          refine ⟨?_, by simp only; omega⟩
          exact may_one (by omega) (one_zero.2 ⟨by simp [Tm.k], by simp [Tm.k], fun h => by simp [Tm.k] at h, fun h => by simp [Tm.k] at h, fun _ => hxs⟩) hd hc
      rw [if_neg h2] at h ⊢
      have hi : ∀ n : Int, may (tInt n) (501 - (f + 1)) (s.n, 0) = (s.n + 1, 0) := fun n => may_one (by omega) (one_zero.2 ⟨by simp [Tm.k], by simp [Tm.k], fun h => by simp [Tm.k] at h, fun h => by simp [Tm.k] at h, fun h => by simp [Tm.k] at h⟩) hd hc
      by_cases h3 : tg (deref C C.length c) = 3
      · rw [if_pos h3] at h ⊢
        exact ⟨hi _, by simp only; omega⟩
      rw [if_neg h3] at h ⊢
      by_cases h4 : tg (deref C C.length c) = 4
      · rw [if_pos h4] at h ⊢
        cases hx : C[vl (deref C C.length c)]? with
        | none => rw [hx] at h; simp at h
        | some x => exact ⟨hi _, by simp only; omega⟩
      rw [if_neg h4] at h ⊢
      by_cases h5 : tg (deref C C.length c) = 5
      · rw [if_pos h5] at h ⊢
        cases hx : C[vl (deref C C.length c)]? with
        | none => rw [hx] at h; simp at h
        | some x =>
          cases hy : C[vl (deref C C.length c) + 1]? with
          | none => rw [hx, hy] at h; simp at h
          | some y => exact ⟨may_one (by omega) (one_zero.2 ⟨by simp [Tm.k], by simp [Tm.k], fun h => by simp [Tm.k] at h, fun h => by simp [Tm.k] at h, fun h => by simp [Tm.k] at h⟩) hd hc, by simp only; omega⟩
      rw [if_neg h5] at h
      simp at h
end
theorem May_of {t : Tm} {c : Nat} (h : may t 1 (0, 0) = (c, 0)) : May t = 0 := by unfold May; rw [h]
/-- Equal: of answers. -/
def EqualT (a b : Tm) : Bool :=
  if a.k = 0 ∨ b.k = 0 then decide (a.k = b.k) && (decide (a.xs.length + b.xs.length = 0) && (decide (a.s = b.s) && (decide (a.n = b.n) && (decide (a.re = b.re) && decide (a.im = b.im))))) else SameT a b
theorem equal_none : EqualT tNone tNone = true := by simp [EqualT, tNone, Tm.k, Tm.xs, Tm.s, Tm.n, Tm.re, Tm.im]
theorem equal_refl {t : Tm} (h : May t = 0) : EqualT t t = true := by
  have hk : one t = 0 := by
    have := (May_zero h).2
    cases t
    exact this.1
  have := (one_zero.1 hk).1
  unfold EqualT
  rw [if_neg (by omega)]
  simp [SameT, h, like_refl]
/-- The same cell read twice: equal answers. -/
theorem rd_equal {C : List Nat} {L : List ByteArray} (hL : Names L) (c : Nat) : EqualT (rd C L 500 c ⟨[], 0⟩).1.1 (rd C L 500 c ⟨[], 0⟩).1.1 = true := by
  by_cases h : (rd C L 500 c ⟨[], 0⟩).1.2 = 0
  · exact equal_refl (May_of (rd_may hL 500 c ⟨[], 0⟩ (by omega) (by simp) h).1)
  · rw [rd_err 500 c _ h]; exact equal_none
#print axioms rd_equal
end Go.Proofs.Ytceahdlcbiialaa
set_option linter.unusedVariables false
set_option linter.unusedSimpArgs false
namespace Go.Proofs.Ytceahdlcbiialaa
open Go.RowKit

@[local go_sem] theorem eql_map71r (w : World) : (binOp .eql 71 (.map none) (.map none)).run Try.prog w = .ok (.bool true) w := by kernel_rfl
section
variable {w : World} {S : Blk} {Γ : List Asn} {h a most : Nat} {C : List Nat} {L : List ByteArray}
set_option maxRecDepth 100000 in
set_option maxHeartbeats 2000000 in
theorem rget_nil (hO : Ok w S (HeapB h most C :: AtomsB a L :: Γ)) (c : Nat) (hc : c < 18446744073709551616) {c' : Int} (ec : c' = c) :
    Calls Try.prog 48 #[.pointer (some ⟨h, 0, none⟩), .pointer (some ⟨a, 0, none⟩), .int .u64 c', .map none] w (GetQ w S (HeapB h most C :: AtomsB a L :: Γ) (rd C L 500 c ⟨[], 0⟩).1) := by
  subst ec
  have h1 : To w S (((w.alloc (.cells zero6 25)).alloc (.map #[] 0)).alloc (.cells #[.pointer (some ⟨h, 0, none⟩), .pointer (some ⟨a, 0, none⟩), .map (some (w.heap.size + 1)), .int .i64 0, .int .i64 0] 145)) S (ReadB (w.heap.size + 1 + 1) h a (w.heap.size + 1) most C L ⟨[], 0⟩ 0 (Pt w.heap.size zero6 25 :: Γ)) :=
    (((hO.to.allocPt' zero6 25 w.heap.size rfl).allocMap' (enc := encN) (val := encN) (w.heap.size + 1) (by simp)).allocPt' #[.pointer (some ⟨h, 0, none⟩), .pointer (some ⟨a, 0, none⟩), .map (some (w.heap.size + 1)), .int .i64 0, .int .i64 0] 145 (w.heap.size + 1 + 1) (by simp)).p1.p4.p4
  have hcall := rget_spec (C := C) (L := L) 500 (by omega) _ S _ _ h a _ most ⟨[], 0⟩ c 1 h1.ok hc ⟨(fun x hx => by cases hx), (by simp), (by simp)⟩ (by omega)
  have herr := rd_err (C := C) (L := L) 500 c ⟨[], 0⟩
  obtain ⟨RES, hres⟩ : ∃ RES, RES = rd C L 500 c ⟨[], 0⟩ := ⟨_, rfl⟩
  rw [← hres] at hcall herr ⊢
  have HC := Lib.hid hcall
  have H1 := Lib.hid h1
  have HERR := Lib.hid herr
  have hmm := @run_makeMap Try.prog
  clear hcall h1 hO hres herr
  go_enter Try.func48, Try.ntmps48
  go_wp2_with fail
  refine HC.out.mono ?_
  rintro e w3 ⟨tc, S3, n', hq, rfl, h3, hk⟩
  clear HC hmm
  obtain ⟨⟨k, sx, n, re, im, xs⟩, A, cp⟩ := tc
  simp only [Tc.six, Tm.k, Tm.s, Tm.n, Tm.re, Tm.im, Tm.xs] at hk
  have h4 := (H1.out.trans h3).allocPt' #[.int .i64 k, .string sx, .int .i64 n, .int .u64 re, .int .u64 im, .slice A xs.length cp] 25 w3.heap.size rfl
  have hk4 := hk.to (h3.ok.to.allocPt #[.int .i64 k, .string sx, .int .i64 n, .int .u64 re, .int .u64 im, .slice A xs.length cp] 25)
  have k4 := h4.drop.ok.readB.2.2.2.2.1
  obtain ⟨⟨f0, f1, f2, f3, f4, f5⟩, -, f6⟩ := h4.ok.pt6
  obtain ⟨⟨z0, z1, z2, z3, z4, z5⟩, ⟨y0, y1, y2, y3, y4, y5⟩, y6⟩ := h4.p5.ok.pt6
  simp only [Tc.six, Tm.k, Tm.s, Tm.n, Tm.re, Tm.im, Tm.xs]
  by_cases he : RES.1.2 = 0
  · obtain ⟨q1, q2⟩ := hq he
    have h5 := h4.p5.ptSet6 (.int .i64 k) (.string sx) (.int .i64 n) (.int .u64 re) (.int .u64 im) (.slice A xs.length cp)
    have hk5 := hk4.to (h4.ok.to.p5.ptSet6 (.int .i64 k) (.string sx) (.int .i64 n) (.int .u64 re) (.int .u64 im) (.slice A xs.length cp))
    have h6 := get_res (h := h) (a := a) (r := 0) (m := 0) (most := most) (b := 0) (C := C) (L := L) (Γ := Γ) (w3 := w3) (res := RES) (err := 0) q1 (by rw [he]; rfl) (h5.drop.drop.p2.drop.p2.drop) hk5
    have H6 := Lib.hid h6
    rw [he] at k4
    clear h6 h5 hk5 q1 q2 hq he h4 hk4 h3 hk H1 HERR
    go_wp2
    refine bodyPost_ret (v := .tuple #[.agg #[.int .i64 k, .string sx, .int .i64 n, .int .u64 re, .int .u64 im, .slice A xs.length cp], .int .i64 0]) (by simp [results, Try.results48, *, go_sem]) rfl ?_
    exact H6.out
  · have hb : ((RES.1.2 : Int) != 0) = true := by simp [bne]; omega
    have h5 := (h4.p5.ptSet6 (.int .i64 0) (.string ⟨#[]⟩) (.int .i64 0) (.int .u64 0) (.int .u64 0) (.slice none 0 0))
    have h6 := get_res (h := h) (a := a) (r := 0) (m := 0) (most := most) (b := 0) (C := C) (L := L) (Γ := Γ) (w3 := w3) (res := RES) (err := (RES.1.2 : Int)) (HERR.out he).symm rfl (h5.drop.drop.p2.drop.p2.drop.drew) none_tm
    have H6 := Lib.hid h6
    clear h6 h5 hq he h4 hk4 h3 hk H1 HERR
    go_wp2_with fail
    go_region_law (fail)
    all_goals
      go_wp2
      refine bodyPost_ret (v := .tuple #[.agg zero6, .int .i64 (RES.1.2 : Int)]) (by simp [results, Try.results48, *, go_sem]) rfl ?_
      exact H6.out
end
#print axioms rget_nil
end Go.Proofs.Ytceahdlcbiialaa
