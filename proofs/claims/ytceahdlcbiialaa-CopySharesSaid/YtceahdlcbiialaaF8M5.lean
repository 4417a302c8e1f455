/- awake of the laws on copy. CopyNil: what its function answers. -/
import Derived.Test.YtceahdlcbiialaaF8M4
import Derived.Test.YtceahdlcbiialaaF5M25
import Derived.Test.YtceahdlcbiialaaF5M30
import Derived.Test.YtceahdlcbiialaaF5M15
import Derived.Test.YtceahdlcbiialaaF7M3
set_option linter.unusedVariables false
set_option linter.unusedSimpArgs false
namespace Go.Proofs.Ytceahdlcbiialaa
open Go.RowKit

/-- f(X, X). -/
def awT2 : Tm := .mk 5 ⟨#[102]⟩ 0 0 0 [.mk 1 ⟨#[]⟩ 0 0 0 [], .mk 1 ⟨#[]⟩ 0 0 0 []]
abbrev awC : List Nat := [mkc 0 0, fun6 2 2, mkc 0 2, mkc 0 2]
abbrev awK : List Nat := [fun6 2 2, mkc 0 1, mkc 0 1]
theorem aw10_put : putP 50 awT2 ⟨[mkc 0 0], names0, []⟩ = ((mkc 1 1, 0), ⟨awC, names0 ++ [⟨#[102]⟩], [(0, mkc 0 2)]⟩) := by
  rfl
theorem aw10_copy1 : (copyP (fun _ => awC) 50 (mkc 1 1) []).1 = (mkc 1 0, 0) := by
  kernel_rfl
theorem aw10_copy2 : (copyP (fun _ => awC) 50 (mkc 1 1) []).2.K = awK := by
  kernel_rfl
theorem aw10_get : (rd awK (names0 ++ [⟨#[102]⟩]) 500 (mkc 1 0) ⟨[], 0⟩).1 = (awT2, 0) := by
  rfl
theorem aw10_same : SameT awT2 awT2 = true := by
  kernel_rfl
abbrev args2 : Array Value := #[.int .i64 1, .string ⟨#[]⟩, .int .i64 0, .int .u64 0, .int .u64 0, .slice none 0 0, .int .i64 1, .string ⟨#[]⟩, .int .i64 0, .int .u64 0, .int .u64 0, .slice none 0 0]
theorem awake_tm2 {w : World} {S : Blk} {g : Nat} (hS : S g) (hc : w.heap[g]? = some (.cells args2 25 (0, 0))) : TmC w S [.int .i64 5, .string ⟨#[102]⟩, .int .i64 0, .int .u64 0, .int .u64 0, .slice (some ⟨g, 0, none⟩) 2 2] awT2 := by
  refine TmC.of (t := awT2) (A := some ⟨g, 0, none⟩) (cap := 2) ⟨by simp [awT2, Tm.k], by simp only [awT2, Tm.s]; decide, by simp [awT2, Tm.n], by simp [awT2, Tm.re], by simp [awT2, Tm.im], by simp [awT2, Tm.xs]⟩ ?_
  intro i x hx
  have hcell : ∀ (j : Nat) (v : Value), args2[j]? = some v → w.cell? ⟨g, j, none⟩ = some v := by
    intro j v hj
    simp [World.cell?, hc, hj]
  have hlt := (List.getElem?_eq_some_iff.1 hx).1
  simp [awT2, Tm.xs] at hlt
  match i, hlt with
  | 0, _ =>
    simp [awT2, Tm.xs] at hx
    subst hx
    exact ⟨g, 0, none, 0, rfl, hS, hcell 0 _ rfl, hcell 1 _ rfl, hcell 2 _ rfl, hcell 3 _ rfl, hcell 4 _ rfl, hcell 5 _ rfl, leaf_tm 1 0 _ (by omega) (by decide) (by omega)⟩
  | 1, _ =>
    simp [awT2, Tm.xs] at hx
    subst hx
    exact ⟨g, 0, none, 0, rfl, hS, hcell 6 _ rfl, hcell 7 _ rfl, hcell 8 _ rfl, hcell 9 _ rfl, hcell 10 _ rfl, hcell 11 _ rfl, leaf_tm 1 0 _ (by omega) (by decide) (by omega)⟩
set_option maxRecDepth 100000 in
set_option maxHeartbeats 8000000 in
theorem awake10_spec {w : World} {S : Blk} {Γ : List Asn} (hO : Ok w S Γ) : Calls Try.prog 54 #[] w fun e w' => e = .returned (.bool true) ∧ To w S w' S Γ := by
  have H := Lib.hid hO; clear hO
  go_enter Try.func54, Try.ntmps54
  go_wp2_with fail
  refine (new_spec H.out 50 50 rfl (by omega)).mono ?_
  rintro e w1 ⟨h, rfl, h1⟩
  have H1 := Lib.hid h1; clear h1
  go_wp2_with fail
  refine (anew_spec H1.out.ok).mono ?_
  rintro e w2 ⟨a, rfl, h2⟩
  have H2 := Lib.hid (H1.out.trans h2).p1; clear h2 H1
  go_wp2_with fail
  refine (var_ok H2.out.ok (by simp)).mono ?_
  rintro e w3 ⟨rfl, h3⟩
  have H3 := Lib.hid (H2.out.trans h3); clear h3 H2
  go_wp2_with fail
  refine (Var_spec 0 _).mono ?_
  rintro e w4 ⟨rfl, hB⟩
  have H4 := Lib.hid (H3.out.below hB); clear hB H3
  go_wp2_with fail
  refine (Var_spec 0 _).mono ?_
  rintro e w5 ⟨rfl, hB⟩
  have h5 := H4.out.below hB
  have ha := h5.ok.to.allocPt' args2 25 w5.heap.size rfl
  have hg := ha.ok.ptHeap
  have hs := ha.trans ha.ok.seal1
  obtain ⟨S2, hS2⟩ : ∃ S2 : Blk, S2 = fun x => S x ∨ x = w5.heap.size := ⟨_, rfl⟩
  rw [← hS2] at hs
  have HS2 := Lib.hid (show S2 w5.heap.size by rw [hS2]; exact .inr rfl)
  have HG2 := Lib.hid hg
  have H5 := Lib.hid (h5.trans hs)
  clear hB h5 ha hg hs hS2 H4
  go_wp2_with fail
  refine (Comp_spec _ _ _ _ _).mono ?_
  rintro e w6 ⟨rfl, hB⟩
  have hb := H5.out.ok.below hB
  have hT := awake_tm2 HS2.out ((hb.kept _ HS2.out).trans HG2.out)
  have hput := put_nil hb.ok hT
  rw [show putP 50 awT2 ⟨[] ++ [mkc 0 ([] : List Nat).length], names0, []⟩ = _ from aw10_put] at hput
  have HP := Lib.hid hput
  have H6 := Lib.hid (H5.out.trans hb)
  clear hB hb hT hput H5 HS2 HG2
  go_wp2_with fail
  refine HP.out.mono ?_
  rintro e w7 ⟨rfl, h7⟩
  have H7 := Lib.hid (H6.out.trans h7)
  clear h7 H6 HP
  go_wp2_with fail
  refine (new_spec H7.out.ok 50 50 rfl (by omega)).mono ?_
  rintro e w8 ⟨k, rfl, h8⟩
  have h8b := H7.out.trans h8
  have hcp := copyTerm_spec (X := Src.other k h 50 50 awC) (K := []) h8b.ok (mkc 1 1) (mkc_lt 1 1 (by omega) (by omega)) rfl
  rw [show copyP (Src.other k h 50 50 awC).src (Src.other k h 50 50 awC).most (mkc 1 1) [] = copyP (fun _ => awC) 50 (mkc 1 1) [] from rfl, aw10_copy1, aw10_copy2] at hcp
  have HCP := Lib.hid hcp
  have H8' := Lib.hid h8b
  clear hcp h8b h8 H7
  go_wp2_with fail
  refine HCP.out.mono ?_
  rintro e w9 ⟨rfl, h9⟩
  have h9b := (show To w S w9 S2 (HeapA k 50 awK :: HeapA h 50 awC :: AtomsA a (names0 ++ [⟨#[102]⟩]) :: Γ) from H8'.out.trans h9).p2.p1
  have hget := get_nil h9b.ok (mkc 1 0) (mkc_lt 1 0 (by omega) (by omega)) rfl
  rw [aw10_get] at hget
  have HG := Lib.hid hget
  have H9 := Lib.hid h9b
  clear hget h9b h9 H8' HCP
  go_wp2_with fail
  refine HG.out.mono ?_
  rintro e w8 ⟨tc, S8, hq, rfl, h11, hk⟩
  obtain ⟨⟨k0, sx, n, re, im, xs⟩, A1, cp⟩ := tc
  simp only [Tc.six, Tm.k_mk, Tm.s_mk, Tm.n_mk, Tm.re_mk, Tm.im_mk, Tm.xs_mk] at hk
  have ha := h11.ok.to.allocPt' #[.int .i64 k0, .string sx, .int .i64 n, .int .u64 re, .int .u64 im, .slice A1 xs.length cp] 25 w8.heap.size rfl
  have h12 := ((H9.out.trans h11).trans ha).drew
  have HK8 := Lib.hid ((hk.to ha).drewN 1)
  have HQ := Lib.hid hq
  obtain ⟨⟨u0, u1, u2, u3, u4, u5⟩, -, u6⟩ := h12.ok.pt6
  have hln := len_spec h12.p1.ok.heapAR
  have HLN := Lib.hid hln
  have H8 := Lib.hid h12
  clear h11 ha h12 hk hq hln H9 HG
  simp only [Tc.six, Tm.k_mk, Tm.s_mk, Tm.n_mk, Tm.re_mk, Tm.im_mk, Tm.xs_mk]
  go_wp2_with fail
  refine wp_region_held_drew (S := fun X => X.cell? ⟨w8.heap.size, 0, none⟩ = some (.int .i64 k0) ∧ X.cell? ⟨w8.heap.size, 1, none⟩ = some (.string sx) ∧ X.cell? ⟨w8.heap.size, 2, none⟩ = some (.int .i64 n) ∧ X.cell? ⟨w8.heap.size, 3, none⟩ = some (.int .u64 re) ∧ X.cell? ⟨w8.heap.size, 4, none⟩ = some (.int .u64 im) ∧ X.cell? ⟨w8.heap.size, 5, none⟩ = some (.slice A1 xs.length cp)) (by kernel_rfl) (⟨u0, u1, u2, u3, u4, u5⟩) (fun hS => ?_)
  refine takeH (v := ?_) 0 39 rfl rfl (by kernel_rfl) (by kernel_rfl) (by kernel_rfl) (fun _ _ _ h => h) (by rfl) hS ?_ ?_
  rotate_left
  · intro X hX; obtain ⟨u0, u1, u2, u3, u4, u5⟩ := hX; go_simp; first | done | rfl
  simp only [List.setIfInBounds_toArray, List.set_cons_zero, List.set_cons_succ]
  refine takeH (v := ?_) 1 40 rfl rfl (by kernel_rfl) (by kernel_rfl) (by kernel_rfl) (fun _ _ _ h => h) (by rfl) hS ?_ ?_
  rotate_left
  · intro X hX; obtain ⟨u0, u1, u2, u3, u4, u5⟩ := hX; go_simp; first | done | rfl
  simp only [List.setIfInBounds_toArray, List.set_cons_zero, List.set_cons_succ]
  refine takeH (v := ?_) 2 41 rfl rfl (by kernel_rfl) (by kernel_rfl) (by kernel_rfl) (fun _ _ _ h => h) (by rfl) hS ?_ ?_
  rotate_left
  · intro X hX; obtain ⟨u0, u1, u2, u3, u4, u5⟩ := hX; go_simp; first | done | rfl
  simp only [List.setIfInBounds_toArray, List.set_cons_zero, List.set_cons_succ]
  refine takeH (v := ?_) 3 42 rfl rfl (by kernel_rfl) (by kernel_rfl) (by kernel_rfl) (fun _ _ _ h => h) (by rfl) hS ?_ ?_
  rotate_left
  · intro X hX; obtain ⟨u0, u1, u2, u3, u4, u5⟩ := hX; go_simp; first | done | rfl
  simp only [List.setIfInBounds_toArray, List.set_cons_zero, List.set_cons_succ]
  refine takeH (v := ?_) 4 43 rfl rfl (by kernel_rfl) (by kernel_rfl) (by kernel_rfl) (fun _ _ _ h => h) (by rfl) hS ?_ ?_
  rotate_left
  · intro X hX; obtain ⟨u0, u1, u2, u3, u4, u5⟩ := hX; go_simp; first | done | rfl
  simp only [List.setIfInBounds_toArray, List.set_cons_zero, List.set_cons_succ]
  refine takeH (v := ?_) 5 44 rfl rfl (by kernel_rfl) (by kernel_rfl) (by kernel_rfl) (fun _ _ _ h => h) (by rfl) hS ?_ ?_
  rotate_left
  · intro X hX; obtain ⟨u0, u1, u2, u3, u4, u5⟩ := hX; go_simp; first | done | rfl
  simp only [List.setIfInBounds_toArray, List.set_cons_zero, List.set_cons_succ]
  refine takeH (v := ?_) 6 45 rfl rfl (by kernel_rfl) (by kernel_rfl) (by kernel_rfl) (fun _ _ _ h => h) (by rfl) hS ?_ ?_
  rotate_left
  · intro X hX; obtain ⟨u0, u1, u2, u3, u4, u5⟩ := hX; go_simp; first | done | rfl
  simp only [List.setIfInBounds_toArray, List.set_cons_zero, List.set_cons_succ]
  refine takeH (v := ?_) 7 46 rfl rfl (by kernel_rfl) (by kernel_rfl) (by kernel_rfl) (fun _ _ _ h => h) (by rfl) hS ?_ ?_
  rotate_left
  · intro X hX; obtain ⟨u0, u1, u2, u3, u4, u5⟩ := hX; go_simp; first | done | rfl
  simp only [List.setIfInBounds_toArray, List.set_cons_zero, List.set_cons_succ]
  refine wpAnyH_ready (rs := [8]) (by kernel_rfl) (by simp) ?_
  refine AllReadyH.cons rfl (fun K hK => ?_) AllReadyH.nil
  go_simp
  go_at_call 31
  refine HLN.out.mono ?_
  rintro e w15 ⟨rfl, hww⟩
  subst w15
  go_wp2
  refine Shut.out hK _ _ (⟨u0, u1, u2, u3, u4, u5⟩) (fun hS => ?_)
  clear hK K
  try simp only [Act.put, List.setIfInBounds_toArray, List.set_cons_zero, List.set_cons_succ]
  refine takeH (v := ?_) 9 48 rfl rfl (by kernel_rfl) (by kernel_rfl) (by kernel_rfl) (fun _ _ _ h => h) (by rfl) hS ?_ ?_
  rotate_left
  · intro X hX; obtain ⟨u0, u1, u2, u3, u4, u5⟩ := hX; go_simp; first | done | rfl
  simp only [List.setIfInBounds_toArray, List.set_cons_zero, List.set_cons_succ]
  refine takeH (v := ?_) 10 49 rfl rfl (by kernel_rfl) (by kernel_rfl) (by kernel_rfl) (fun _ _ _ h => h) (by rfl) hS ?_ ?_
  rotate_left
  · intro X hX; obtain ⟨u0, u1, u2, u3, u4, u5⟩ := hX; go_simp; first | done | rfl
  simp only [List.setIfInBounds_toArray, List.set_cons_zero, List.set_cons_succ]
  refine takeH (v := ?_) 11 50 rfl rfl (by kernel_rfl) (by kernel_rfl) (by kernel_rfl) (fun _ _ _ h => h) (by rfl) hS ?_ ?_
  rotate_left
  · intro X hX; obtain ⟨u0, u1, u2, u3, u4, u5⟩ := hX; go_simp; first | done | rfl
  simp only [List.setIfInBounds_toArray, List.set_cons_zero, List.set_cons_succ]
  refine takeH (v := ?_) 12 51 rfl rfl (by kernel_rfl) (by kernel_rfl) (by kernel_rfl) (fun _ _ _ h => h) (by rfl) hS ?_ ?_
  rotate_left
  · intro X hX; obtain ⟨u0, u1, u2, u3, u4, u5⟩ := hX; go_simp; first | done | rfl
  simp only [List.setIfInBounds_toArray, List.set_cons_zero, List.set_cons_succ]
  refine wpAnyH_ready (rs := [13]) (by kernel_rfl) (by simp) ?_
  refine AllReadyH.cons rfl (fun K hK => ?_) AllReadyH.nil
  go_simp
  go_at_call 35
  refine (Var_spec 0 _).mono ?_
  rintro e w9 ⟨rfl, hB⟩
  have H9 := Lib.hid (H8.out.below hB)
  have HK9 := Lib.hid (HK8.out.to (H8.out.ok.below hB))
  clear hB
  obtain ⟨⟨u0, u1, u2, u3, u4, u5⟩, -, u6⟩ := H9.out.ok.pt6
  go_wp2
  refine Shut.out hK _ _ (⟨u0, u1, u2, u3, u4, u5⟩) (fun hS => ?_)
  clear hK K
  try simp only [Act.put, List.setIfInBounds_toArray, List.set_cons_zero, List.set_cons_succ]
  refine wpAnyH_ready (rs := [14]) (by kernel_rfl) (by simp) ?_
  refine AllReadyH.cons rfl (fun K hK => ?_) AllReadyH.nil
  go_simp
  go_at_call 35
  refine (Var_spec 0 _).mono ?_
  rintro e w10 ⟨rfl, hB⟩
  have H10 := Lib.hid (H9.out.below hB)
  have HK10 := Lib.hid (HK9.out.to (H9.out.ok.below hB))
  clear hB
  obtain ⟨⟨u0, u1, u2, u3, u4, u5⟩, -, u6⟩ := H10.out.ok.pt6
  have ha := H10.out.ok.to.allocPt' args2 25 w10.heap.size rfl
  have hg := ha.ok.ptHeap
  have hs := ha.trans ha.ok.seal1
  obtain ⟨S2, hS2⟩ : ∃ S2 : Blk, S2 = fun x => S8 x ∨ x = w10.heap.size := ⟨_, rfl⟩
  rw [← hS2] at hs
  have HS2 := Lib.hid (show S2 w10.heap.size by rw [hS2]; exact .inr rfl)
  have HG2 := Lib.hid hg
  have H11 := Lib.hid (H10.out.trans hs)
  have HK11 := Lib.hid (HK10.out.to hs)
  clear hS2 hg hs ha
  go_wp2
  refine Shut.out hK _ _ (⟨u0, u1, u2, u3, u4, u5⟩) (fun hS => ?_)
  clear hK K
  try simp only [Act.put, List.setIfInBounds_toArray, List.set_cons_zero, List.set_cons_succ]
  refine wpAnyH_ready (rs := [15]) (by kernel_rfl) (by simp) ?_
  refine AllReadyH.cons rfl (fun K hK => ?_) AllReadyH.nil
  go_simp
  obtain ⟨⟨u0, u1, u2, u3, u4, u5⟩, -, u6⟩ := H11.out.ok.pt6
  go_wp2
  refine Shut.out hK _ _ (⟨u0, u1, u2, u3, u4, u5⟩) (fun hS => ?_)
  clear hK K
  try simp only [Act.put, List.setIfInBounds_toArray, List.set_cons_zero, List.set_cons_succ]
  refine wpAnyH_ready (rs := [16]) (by kernel_rfl) (by simp) ?_
  refine AllReadyH.cons rfl (fun K hK => ?_) AllReadyH.nil
  go_simp
  go_at_call 57
  refine (Comp_spec _ _ _ _ _).mono ?_
  rintro e w12 ⟨rfl, hB⟩
  have hb := H11.out.ok.below hB
  have hT := awake_tm2 HS2.out ((hb.kept _ HS2.out).trans HG2.out)
  have hsm := same_spec hb.ok (HK11.out.to hb) hT
  rw [HQ.out, aw10_same] at hsm
  have HSM := Lib.hid hsm
  have H12 := Lib.hid (H11.out.trans hb)
  clear hB hb hT hsm
  obtain ⟨⟨u0, u1, u2, u3, u4, u5⟩, -, u6⟩ := H12.out.ok.pt6
  go_wp2
  refine Shut.out hK _ _ (⟨u0, u1, u2, u3, u4, u5⟩) (fun hS => ?_)
  clear hK K
  try simp only [Act.put, List.setIfInBounds_toArray, List.set_cons_zero, List.set_cons_succ]
  refine wpAnyH_ready (rs := [17]) (by kernel_rfl) (by simp) ?_
  refine AllReadyH.cons rfl (fun K hK => ?_) AllReadyH.nil
  go_simp
  go_at_call 51
  refine HSM.out.mono ?_
  rintro e w13 ⟨rfl, h13⟩
  have H13 := Lib.hid (H12.out.trans h13)
  clear h13
  obtain ⟨⟨u0, u1, u2, u3, u4, u5⟩, -, u6⟩ := H13.out.ok.pt6
  go_wp2
  refine Shut.out hK _ _ (⟨u0, u1, u2, u3, u4, u5⟩) (fun hS => ?_)
  clear hK K
  try simp only [Act.put, List.setIfInBounds_toArray, List.set_cons_zero, List.set_cons_succ]
  refine takeH (v := ?_) 18 57 rfl rfl (by kernel_rfl) (by kernel_rfl) (by kernel_rfl) (fun _ _ _ h => h) (by rfl) hS ?_ ?_
  rotate_left
  · intro X hX; obtain ⟨u0, u1, u2, u3, u4, u5⟩ := hX; go_simp; first | done | rfl
  simp only [List.setIfInBounds_toArray, List.set_cons_zero, List.set_cons_succ]
  refine takeH (v := ?_) 19 0 rfl rfl (by kernel_rfl) (by kernel_rfl) (by kernel_rfl) (fun _ _ _ h => h) (by rfl) hS ?_ ?_
  rotate_left
  · intro X hX; obtain ⟨u0, u1, u2, u3, u4, u5⟩ := hX; go_simp; first | done | rfl
  simp only [List.setIfInBounds_toArray, List.set_cons_zero, List.set_cons_succ]
  refine wpAnyH_done (by kernel_rfl) ?_ _
  go_wp2
  go_ret
  exact ⟨rfl, H13.out.drop.drop.drop.drop.small⟩
#print axioms awake10_spec
end Go.Proofs.Ytceahdlcbiialaa
set_option linter.unusedVariables false
set_option linter.unusedSimpArgs false
namespace Go.Proofs.Ytceahdlcbiialaa
open Go.RowKit

set_option maxRecDepth 100000 in
set_option maxHeartbeats 4000000 in
theorem copyNil_spec {w : World} {S : Blk} {Γ : List Asn} (hO : Ok w S Γ) {c : Int} (hc : (Lit.int .u64 c).wf = true) : Calls Try.prog 13 #[.int .u64 c] w fun e w' => e = .returned (.bool true) ∧ To w S w' S Γ := by
  have H := Lib.hid hO; clear hO
  go_enter Try.func13, Try.ntmps13
  go_wp2_with fail
  refine (new_spec H.out 5 5 rfl (by omega)).mono ?_
  rintro e w1 ⟨h, rfl, h1⟩
  have H1 := Lib.hid h1; clear h1
  go_wp2_with fail
  refine (copyTerm_nil1 _ _ _).mono ?_
  rintro e w2 ⟨rfl, hww⟩
  subst w2
  go_wp2_with fail
  refine (copyTerm_nil2 _ _ _).mono ?_
  rintro e w2 ⟨rfl, hww⟩
  subst w2
  go_wp2_with fail
  have H2 := Lib.hid (H1.out.alloc (.cells #[.int .u64 c] 34))
  refine (collect_nil _ _).mono ?_
  rintro e w2 ⟨rfl, hww⟩
  subst w2
  go_wp2_with fail
  refine (awake10_spec H2.out.ok).mono ?_
  rintro e w3 ⟨rfl, h3⟩
  have H3 := Lib.hid (H2.out.trans h3).drop
  clear h3 H2 H1
  go_wp2
  go_ret
  exact ⟨rfl, H3.out⟩
#print axioms copyNil_spec
end Go.Proofs.Ytceahdlcbiialaa
