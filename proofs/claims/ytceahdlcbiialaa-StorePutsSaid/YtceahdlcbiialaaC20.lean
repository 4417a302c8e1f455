/- The reference's Put; same of the laws on store. -/
import Derived.Test.YtceahdlcbiialaaC18
set_option linter.unusedVariables false
set_option linter.unusedSimpArgs false
namespace Go.Proofs.Ytceahdlcbiialaa
open Go.RowKit

@[local go_sem] theorem eql_someMapR (m : Nat) (w : World) : (binOp .eql 52 (.map (some m)) (.map none)).run Try.prog w = .ok (.bool false) w := by kernel_rfl
set_option maxRecDepth 100000 in
set_option maxHeartbeats 2000000 in
theorem rPut_spec {w : World} {S : Blk} {Γ : List Asn} {h a m most : Nat} {st : St} {t : Tm} {cs : List Value} (hO : Ok w S (RefG h a m most st Γ)) (hT : TmC w S cs t) (hV : VOk st.V) :
    Calls Try.prog 39 #[.pointer (some ⟨h, 0, none⟩), .pointer (some ⟨a, 0, none⟩), .agg cs.toArray, .map (some m)] w fun e w' =>
      e = .returned (.tuple #[.int .u64 (putP most t st).1.1, .int .i64 (putP most t st).1.2]) ∧ To w S w' S (RefG h a m most (putP most t st).2 Γ) := by
  obtain ⟨A, cap, rfl⟩ := hT.form0
  have h1 := (hO.to.allocPt' #[.int .i64 t.k, .string t.s, .int .i64 t.n, .int .u64 t.re, .int .u64 t.im, .slice A t.xs.length cap] 25 w.heap.size rfl).p3.p3.p3
  have hm := May_spec h1.ok (hT.to h1)
  have HM := Lib.hid hm; clear hm
  have HT := Lib.hid (hT.to h1); clear hT
  have H1 := Lib.hid h1; clear h1 hO
  by_cases h0 : May t = 0
  · obtain ⟨hnod, hgood⟩ := May_zero h0
    obtain ⟨oo, hoo⟩ : ∃ oo, oo = lay most t (-1) st := ⟨_, rfl⟩
    have hp : putP most t st = if oo.1.2 ≠ 0 then ((0, oo.1.2), oo.2) else ((oo.1.1, 0), oo.2) := by
      unfold putP
      rw [if_neg (by simp [h0]), fin_tm _ _ _ _ _ _ (show lay most t (-1) st = ((oo.1.1, oo.1.2), oo.2) from by rw [← hoo])]
      simp [fin, St.atI]
    rw [h0] at HM
    have HG := Lib.hid hgood; clear hgood
    have HV := Lib.hid hV; clear hV
    have HP := Lib.hid hp; clear hp
    have HOO := Lib.hid hoo; clear hoo
    by_cases he : oo.1.2 = 0
    · have HE := Lib.hid he; clear he h0
      go_enter Try.func39, Try.ntmps39
      go_wp2_with (go_at_call 24; refine HM.out.mono ?_; rintro e w2 ⟨rfl, h2⟩; obtain ⟨⟨x0, x1, x2, x3, x4, x5⟩, -, x6⟩ := h2.p3.ok.pt6; have HT2 := Lib.hid (HT.out.to h2); have H2 := Lib.hid (H1.out.trans h2); clear h2)
      refine (rput_spec t _ S _ _ h a m most st (-1) H2.out.ok HT2.out HG.out HV.out (by omega) (by omega)).mono ?_
      rintro e w3 ⟨c, rfl, hc, h3⟩
      rw [← HOO.out] at hc h3
      rw [← HOO.out, HE.out]
      have hc' := hc HE.out
      subst hc'
      have H3 := Lib.hid (H2.out.trans h3).p3.drop
      clear h3 x0 x1 x2 x3 x4 x5 hc
      go_wp2
      go_ret2
      rw [HP.out, if_neg (by simp [HE.out])]
      exact ⟨rfl, H3.out⟩
    · have heb : ((oo.1.2 : Int) != 0) = true := by simp [bne]; omega
      have HE := Lib.hid he; clear he h0
      go_enter Try.func39, Try.ntmps39
      go_wp2_with (go_at_call 24; refine HM.out.mono ?_; rintro e w2 ⟨rfl, h2⟩; obtain ⟨⟨x0, x1, x2, x3, x4, x5⟩, -, x6⟩ := h2.p3.ok.pt6; have HT2 := Lib.hid (HT.out.to h2); have H2 := Lib.hid (H1.out.trans h2); clear h2)
      refine (rput_spec t _ S _ _ h a m most st (-1) H2.out.ok HT2.out HG.out HV.out (by omega) (by omega)).mono ?_
      rintro e w3 ⟨c, rfl, hc, h3⟩
      rw [← HOO.out] at h3
      rw [← HOO.out]
      have H3 := Lib.hid (H2.out.trans h3).p3.drop
      clear h3 x0 x1 x2 x3 x4 x5 hc
      go_wp2
      go_ret2
      rw [HP.out, if_pos HE.out]
      exact ⟨rfl, H3.out⟩
  · have hp : putP most t st = ((0, May t), st) := by unfold putP; rw [if_pos h0]
    rw [hp]
    have hb : ((May t : Int) != 0) = true := by simp [bne]; omega
    clear hp h0
    go_enter Try.func39, Try.ntmps39
    go_wp2_with (go_at_call 24; refine HM.out.mono ?_; rintro e w2 ⟨rfl, h2⟩; have H2 := Lib.hid (H1.out.trans h2).p3.drop; clear h2)
    go_ret2
    exact ⟨rfl, H2.out⟩
#print axioms rPut_spec
end Go.Proofs.Ytceahdlcbiialaa
