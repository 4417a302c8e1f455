/- StoreBack: what its function answers. -/
import Derived.Test.YtceahdlcbiialaaF6M4
import Derived.Test.YtceahdlcbiialaaF7M1
import Derived.Test.YtceahdlcbiialaaF7M2
import Derived.Test.YtceahdlcbiialaaF5M16
set_option linter.unusedVariables false
set_option linter.unusedSimpArgs false
namespace Go.Proofs.Ytceahdlcbiialaa
open Go.RowKit

section
variable (k n re im : Int) (s : ByteArray) (xs : List Tm)
theorem Tm.k_mk : (Tm.mk k s n re im xs).k = k := rfl
theorem Tm.s_mk : (Tm.mk k s n re im xs).s = s := rfl
theorem Tm.n_mk : (Tm.mk k s n re im xs).n = n := rfl
theorem Tm.re_mk : (Tm.mk k s n re im xs).re = re := rfl
theorem Tm.im_mk : (Tm.mk k s n re im xs).im = im := rfl
theorem Tm.xs_mk : (Tm.mk k s n re im xs).xs = xs := rfl
end
set_option maxRecDepth 100000 in
set_option maxHeartbeats 8000000 in
theorem back_spec {w : World} {S : Blk} {Γ : List Asn} {cs : List Value} {t : Tm} (hO : Ok w S Γ) (hT : TmC w S cs t) : Calls Try.prog 9 #[.agg cs.toArray] w fun e w' => e = .returned (.bool true) ∧ To w S w' S Γ := by
  have rt := hT.rngd
  obtain ⟨A, cap, rfl⟩ := hT.form0
  have h2 := (hO.to.allocPt' #[.int .i64 t.k, .string t.s, .int .i64 t.n, .int .u64 t.re, .int .u64 t.im, .slice A t.xs.length cap] 25 w.heap.size rfl).allocPt' #[.int .i64 t.k, .string t.s, .int .i64 t.n, .int .u64 t.re, .int .u64 t.im, .slice A t.xs.length cap] 25 (w.heap.size + 1) (by simp)
  have hg := h2.ok.ptHeap
  have h3 := h2.trans h2.ok.seal1
  obtain ⟨S1, hS1⟩ : ∃ S1 : Blk, S1 = fun x => S x ∨ x = w.heap.size + 1 := ⟨_, rfl⟩
  rw [← hS1] at h3
  have hsb : S1 (w.heap.size + 1) := by rw [hS1]; exact .inr rfl
  have hL := Light_spec (cap := 1) (kids_one hsb hg (hT.to h3)) (by simp)
  obtain ⟨⟨x0, x1, x2, x3, x4, x5⟩, -, x6⟩ := h3.ok.pt6
  have HL := Lib.hid hL
  have H3 := Lib.hid h3
  have HT := Lib.hid (hT.to h3)
  have HRT := Lib.hid rt
  clear hS1 h2 h3 hL hg hT hO hsb rt
  generalize hlv : Light [t] 0 4000 = lv at HL
  clear hlv
  cases lv with
  | false =>
    go_enter Try.func9, Try.ntmps9
    go_wp2_with fail
    refine HL.out.mono ?_
    rintro e w1 ⟨rfl, hB⟩
    have H4 := Lib.hid (H3.out.below hB)
    clear hB
    go_wp2_with fail
    refine (awake7_spec H4.out.ok).mono ?_
    rintro e w2 ⟨rfl, h5⟩
    have H5 := Lib.hid (H4.out.trans h5).drop.small
    clear h5
    go_wp2
    go_ret
    exact ⟨rfl, H5.out⟩
  | true =>
    go_enter Try.func9, Try.ntmps9
    go_wp2_with fail
    refine HL.out.mono ?_
    rintro e w1 ⟨rfl, hB⟩
    have h4 := H3.out.below hB
    have HT4 := Lib.hid (HT.out.to (H3.out.ok.below hB))
    clear x0 x1 x2 x3 x4 x5 x6 hB HL H3 HT
    obtain ⟨⟨x0, x1, x2, x3, x4, x5⟩, -, x6⟩ := h4.ok.pt6
    have hm := May_spec h4.ok HT4.out
    have HM := Lib.hid hm
    have H4 := Lib.hid h4
    clear hm h4
    by_cases hmt : May t = 0
    case neg =>
      have hmb : ((May t : Int) != 0) = true := by simp [bne]; omega
      clear hmt
      go_wp2_with fail
      refine HM.out.mono ?_
      rintro e w2 ⟨rfl, h5⟩
      have H5 := Lib.hid (H4.out.trans h5)
      clear h5
      go_wp2_with fail
      refine (awake7_spec H5.out.ok).mono ?_
      rintro e w2 ⟨rfl, h5⟩
      have H6 := Lib.hid (H5.out.trans h5).drop.small
      clear h5
      go_wp2
      go_ret
      exact ⟨rfl, H6.out⟩
    rw [hmt] at HM
    obtain ⟨r1, hr1⟩ : ∃ r1, r1 = putP 1048576 t ⟨[], names0, []⟩ := ⟨_, rfl⟩
    obtain ⟨r2, hr2⟩ : ∃ r2, r2 = putP 1048576 t ⟨r1.2.C, r1.2.L, []⟩ := ⟨_, rfl⟩
    obtain ⟨r3, hr3⟩ : ∃ r3, r3 = putP 1048576 t ⟨r2.2.C, r2.2.L, r2.2.V⟩ := ⟨_, rfl⟩
    obtain ⟨⟨a1, a2, a3⟩, ⟨q5, q6, q7⟩, q1, q8, q9, V1, V2, q10, q11, q12, q13, q14, q15, q16⟩ := shared_back hmt HRT.out hr1 hr2 hr3
    have HSR := Lib.hid (same_ren hmt)
    have hVT : VarsT t = varsT t [] := by unfold VarsT; rw [if_neg (by simp [hmt])]
    have hvl : (varsT t []).length ≤ 2000 := by
      have h1 := varsT_len t []
      have h2 := (May_zero hmt).1
      simp only [List.length_nil] at h1
      omega
    clear hmt HRT
    have HR1 := Lib.hid hr1
    have HR2 := Lib.hid hr2
    have HR3 := Lib.hid hr3
    clear hr1 hr2 hr3
    obtain ⟨⟨c1, e1⟩, st1⟩ := r1
    obtain ⟨⟨c2, e2⟩, st2⟩ := r2
    obtain ⟨⟨c3, e3⟩, st3⟩ := r3
    simp only at a1 a2 a3 q1 q5 q6 q7 q8 q9 q10 q11 q12 q13 HR1 HR2 HR3
    subst a1 a2 a3
    have HQ1 := Lib.hid q1
    have HQ8 := Lib.hid q8
    have HQ9 := Lib.hid q9
    have HQ10 := Lib.hid q10
    have HQ11 := Lib.hid q11
    have HQ12 := Lib.hid q12
    have HQ13 := Lib.hid q13
    have HQ14 := Lib.hid q14
    have HQ15 := Lib.hid q15
    have HQ16 := Lib.hid q16
    have HVT := Lib.hid hVT
    have HVL := Lib.hid hvl
    clear q1 q8 q9 q10 q11 q12 q13 q14 q15 q16 hVT hvl
    go_wp2_with fail
    refine HM.out.mono ?_
    rintro e w3 ⟨rfl, h6⟩
    have H6 := Lib.hid (H4.out.trans h6)
    have HT6 := Lib.hid (HT4.out.to h6)
    clear x0 x1 x2 x3 x4 x5 x6 h6 HM H4 HT4
    go_wp2_with fail
    refine (new_spec H6.out.ok (1048576 : Int) 1048576 rfl (by omega)).mono ?_
    rintro e w4 ⟨p, rfl, h7⟩
    have H7 := Lib.hid (H6.out.trans h7)
    have HT7 := Lib.hid (HT6.out.to h7)
    clear h7 H6 HT6
    go_wp2_with fail
    refine (anew_spec H7.out.ok).mono ?_
    rintro e w5 ⟨a, rfl, h8⟩
    have h8b := (H7.out.trans h8).p1
    have HT8 := Lib.hid (HT7.out.to h8)
    obtain ⟨⟨x0, x1, x2, x3, x4, x5⟩, -, x6⟩ := h8b.p2.ok.pt6
    have hput := put_nil h8b.ok HT8.out
    rw [← HR1.out] at hput
    have HP := Lib.hid hput
    have H8 := Lib.hid h8b
    clear h8 h8b hput H7 HT7
    go_wp2_with fail
    refine HP.out.mono ?_
    rintro e w6 ⟨rfl, h9⟩
    have h9b := H8.out.trans h9
    have HT9 := Lib.hid (HT8.out.to h9)
    have hln := len_spec h9b.ok.heapAR
    have hget := get_nil h9b.ok c1 q5 rfl
    rw [HQ1.out] at hget
    have HLN := Lib.hid hln
    have HG := Lib.hid hget
    have H9 := Lib.hid h9b
    clear x0 x1 x2 x3 x4 x5 x6 h9 h9b hln hget H8 HT8 HP
    go_wp2_with fail
    refine HLN.out.mono ?_
    rintro e w' ⟨rfl, hww⟩
    subst w'
    go_wp2_with fail
    refine HG.out.mono ?_
    rintro e w8 ⟨tc, S8, hq, rfl, h11, hk⟩
    obtain ⟨⟨k, sx, n, re, im, xs⟩, A1, cp⟩ := tc
    simp only [Tc.six, Tm.k, Tm.s, Tm.n, Tm.re, Tm.im, Tm.xs] at hk
    have ha := h11.ok.to.allocPt' #[.int .i64 k, .string sx, .int .i64 n, .int .u64 re, .int .u64 im, .slice A1 xs.length cp] 25 w8.heap.size rfl
    have h12 := ((H9.out.trans h11).trans ha).p2.p2
    have HT12 := Lib.hid ((HT9.out.to h11).to ha)
    have HK12 := Lib.hid (hk.to ha)
    obtain ⟨⟨u0, u1, u2, u3, u4, u5⟩, -, u6⟩ := h12.p2.ok.pt6
    obtain ⟨⟨x0, x1, x2, x3, x4, x5⟩, -, x6⟩ := h12.p3.ok.pt6
    have hrn := Rename_spec h12.drew.ok ((HT12.out).drewN 1)
    have HRN := Lib.hid hrn
    have H12 := Lib.hid h12
    have HQ := Lib.hid hq
    clear h11 ha h12 hk hq hrn H9 HT9 HG HLN
    simp only [Tc.six, Tm.k_mk, Tm.s_mk, Tm.n_mk, Tm.re_mk, Tm.im_mk, Tm.xs_mk]
    go_wp2_with fail
    refine wp_region_held_drew (S := fun X => X.cell? ⟨w.heap.size, 0, none⟩ = some (.int .i64 t.k) ∧ X.cell? ⟨w.heap.size, 1, none⟩ = some (.string t.s) ∧ X.cell? ⟨w.heap.size, 2, none⟩ = some (.int .i64 t.n) ∧ X.cell? ⟨w.heap.size, 3, none⟩ = some (.int .u64 t.re) ∧ X.cell? ⟨w.heap.size, 4, none⟩ = some (.int .u64 t.im) ∧ X.cell? ⟨w.heap.size, 5, none⟩ = some (.slice A t.xs.length cap) ∧ X.cell? ⟨w8.heap.size, 0, none⟩ = some (.int .i64 k) ∧ X.cell? ⟨w8.heap.size, 1, none⟩ = some (.string sx) ∧ X.cell? ⟨w8.heap.size, 2, none⟩ = some (.int .i64 n) ∧ X.cell? ⟨w8.heap.size, 3, none⟩ = some (.int .u64 re) ∧ X.cell? ⟨w8.heap.size, 4, none⟩ = some (.int .u64 im) ∧ X.cell? ⟨w8.heap.size, 5, none⟩ = some (.slice A1 xs.length cp)) (by kernel_rfl) (⟨x0, x1, x2, x3, x4, x5, u0, u1, u2, u3, u4, u5⟩) (fun hS => ?_)
    refine takeH (v := ?_) 0 46 rfl rfl (by kernel_rfl) (by kernel_rfl) (by kernel_rfl) (fun _ _ _ h => h) (by rfl) hS ?_ ?_
    rotate_left
    · intro X hX; obtain ⟨x0, x1, x2, x3, x4, x5, u0, u1, u2, u3, u4, u5⟩ := hX; go_simp; first | done | rfl
    simp only [List.setIfInBounds_toArray, List.set_cons_zero, List.set_cons_succ]
    refine takeH (v := ?_) 1 47 rfl rfl (by kernel_rfl) (by kernel_rfl) (by kernel_rfl) (fun _ _ _ h => h) (by rfl) hS ?_ ?_
    rotate_left
    · intro X hX; obtain ⟨x0, x1, x2, x3, x4, x5, u0, u1, u2, u3, u4, u5⟩ := hX; go_simp; first | done | rfl
    simp only [List.setIfInBounds_toArray, List.set_cons_zero, List.set_cons_succ]
    refine takeH (v := ?_) 2 48 rfl rfl (by kernel_rfl) (by kernel_rfl) (by kernel_rfl) (fun _ _ _ h => h) (by rfl) hS ?_ ?_
    rotate_left
    · intro X hX; obtain ⟨x0, x1, x2, x3, x4, x5, u0, u1, u2, u3, u4, u5⟩ := hX; go_simp; first | done | rfl
    simp only [List.setIfInBounds_toArray, List.set_cons_zero, List.set_cons_succ]
    refine takeH (v := ?_) 3 49 rfl rfl (by kernel_rfl) (by kernel_rfl) (by kernel_rfl) (fun _ _ _ h => h) (by rfl) hS ?_ ?_
    rotate_left
    · intro X hX; obtain ⟨x0, x1, x2, x3, x4, x5, u0, u1, u2, u3, u4, u5⟩ := hX; go_simp; first | done | rfl
    simp only [List.setIfInBounds_toArray, List.set_cons_zero, List.set_cons_succ]
    refine takeH (v := ?_) 4 50 rfl rfl (by kernel_rfl) (by kernel_rfl) (by kernel_rfl) (fun _ _ _ h => h) (by rfl) hS ?_ ?_
    rotate_left
    · intro X hX; obtain ⟨x0, x1, x2, x3, x4, x5, u0, u1, u2, u3, u4, u5⟩ := hX; go_simp; first | done | rfl
    simp only [List.setIfInBounds_toArray, List.set_cons_zero, List.set_cons_succ]
    refine wpAnyH_ready (rs := [5]) (by kernel_rfl) (by simp) ?_
    refine AllReadyH.cons rfl (fun K hK => ?_) AllReadyH.nil
    go_simp
    go_at_call 52
    refine HRN.out.mono ?_
    rintro e w13 ⟨tc3, S13, hq3, rfl, h13, hk3⟩
    have h13b := H12.out.drew.trans h13
    obtain ⟨⟨u0, u1, u2, u3, u4, u5⟩, -, u6⟩ := h13b.p2.ok.pt6; obtain ⟨⟨x0, x1, x2, x3, x4, x5⟩, -, x6⟩ := h13b.p3.ok.pt6
    have hsm := same_spec h13b.ok (HK12.out.drewN 1 |>.to h13) hk3
    rw [HQ.out, hq3, HSR.out] at hsm
    have HSM := Lib.hid hsm
    have HT13 := Lib.hid ((HT12.out.drewN 1).to h13)
    have H13 := Lib.hid h13b
    clear hsm h13b h13 hk3 hq3
    go_wp2
    refine Shut.out hK _ _ (⟨x0, x1, x2, x3, x4, x5, u0, u1, u2, u3, u4, u5⟩) (fun hS => ?_)
    clear hK K
    try simp only [Act.put, List.setIfInBounds_toArray, List.set_cons_zero, List.set_cons_succ]
    refine wpAnyH_ready (rs := [6]) (by kernel_rfl) (by simp) ?_
    refine AllReadyH.cons rfl (fun K hK => ?_) AllReadyH.nil
    go_simp
    go_at_call 51
    refine HSM.out.mono ?_
    rintro e w14 ⟨rfl, h14⟩
    have h14b := H13.out.trans h14
    obtain ⟨⟨u0, u1, u2, u3, u4, u5⟩, -, u6⟩ := h14b.p2.ok.pt6; obtain ⟨⟨x0, x1, x2, x3, x4, x5⟩, -, x6⟩ := h14b.p3.ok.pt6
    have hln := len_spec h14b.ok.heapAR
    have hso := sound_spec h14b.ok c1 q5 rfl
    rw [HQ1.out] at hso
    have HLN := Lib.hid hln
    have HSO := Lib.hid hso
    have HT14 := Lib.hid (HT13.out.to h14)
    have H14 := Lib.hid h14b
    clear hln hso h14b h14
    go_wp2
    refine Shut.out hK _ _ (⟨x0, x1, x2, x3, x4, x5, u0, u1, u2, u3, u4, u5⟩) (fun hS => ?_)
    clear hK K
    try simp only [Act.put, List.setIfInBounds_toArray, List.set_cons_zero, List.set_cons_succ]
    refine takeH (v := ?_) 7 53 rfl rfl (by kernel_rfl) (by kernel_rfl) (by kernel_rfl) (fun _ _ _ h => h) (by rfl) hS ?_ ?_
    rotate_left
    · intro X hX; obtain ⟨x0, x1, x2, x3, x4, x5, u0, u1, u2, u3, u4, u5⟩ := hX; go_simp; first | done | rfl
    simp only [List.setIfInBounds_toArray, List.set_cons_zero, List.set_cons_succ]
    refine takeH (v := ?_) 8 54 rfl rfl (by kernel_rfl) (by kernel_rfl) (by kernel_rfl) (fun _ _ _ h => h) (by rfl) hS ?_ ?_
    rotate_left
    · intro X hX; obtain ⟨x0, x1, x2, x3, x4, x5, u0, u1, u2, u3, u4, u5⟩ := hX; go_simp; first | done | rfl
    simp only [List.setIfInBounds_toArray, List.set_cons_zero, List.set_cons_succ]
    refine takeH (v := ?_) 9 55 rfl rfl (by kernel_rfl) (by kernel_rfl) (by kernel_rfl) (fun _ _ _ h => h) (by rfl) hS ?_ ?_
    rotate_left
    · intro X hX; obtain ⟨x0, x1, x2, x3, x4, x5, u0, u1, u2, u3, u4, u5⟩ := hX; go_simp; first | done | rfl
    simp only [List.setIfInBounds_toArray, List.set_cons_zero, List.set_cons_succ]
    refine takeH (v := ?_) 10 56 rfl rfl (by kernel_rfl) (by kernel_rfl) (by kernel_rfl) (fun _ _ _ h => h) (by rfl) hS ?_ ?_
    rotate_left
    · intro X hX; obtain ⟨x0, x1, x2, x3, x4, x5, u0, u1, u2, u3, u4, u5⟩ := hX; go_simp; first | done | rfl
    simp only [List.setIfInBounds_toArray, List.set_cons_zero, List.set_cons_succ]
    refine takeH (v := ?_) 12 58 rfl rfl (by kernel_rfl) (by kernel_rfl) (by kernel_rfl) (fun _ _ _ h => h) (by rfl) hS ?_ ?_
    rotate_left
    · intro X hX; obtain ⟨x0, x1, x2, x3, x4, x5, u0, u1, u2, u3, u4, u5⟩ := hX; go_simp; first | done | rfl
    simp only [List.setIfInBounds_toArray, List.set_cons_zero, List.set_cons_succ]
    refine wpAnyH_ready (rs := [11]) (by kernel_rfl) (by simp) ?_
    refine AllReadyH.cons rfl (fun K hK => ?_) AllReadyH.nil
    go_simp
    go_at_call 31
    refine HLN.out.mono ?_
    rintro e w15 ⟨rfl, hww⟩
    subst w15
    go_wp2
    refine Shut.out hK _ _ (⟨x0, x1, x2, x3, x4, x5, u0, u1, u2, u3, u4, u5⟩) (fun hS => ?_)
    clear hK K
    try simp only [Act.put, List.setIfInBounds_toArray, List.set_cons_zero, List.set_cons_succ]
    refine takeH (v := ?_) 13 59 rfl rfl (by kernel_rfl) (by kernel_rfl) (by kernel_rfl) (fun _ _ _ h => h) (by rfl) hS ?_ ?_
    rotate_left
    · intro X hX; obtain ⟨x0, x1, x2, x3, x4, x5, u0, u1, u2, u3, u4, u5⟩ := hX; go_simp; first | done | rfl
    simp only [List.setIfInBounds_toArray, List.set_cons_zero, List.set_cons_succ]
    refine takeH (v := ?_) 14 60 rfl rfl (by kernel_rfl) (by kernel_rfl) (by kernel_rfl) (fun _ _ _ h => h) (by rfl) hS ?_ ?_
    rotate_left
    · intro X hX; obtain ⟨x0, x1, x2, x3, x4, x5, u0, u1, u2, u3, u4, u5⟩ := hX; go_simp; first | done | rfl
    simp only [List.setIfInBounds_toArray, List.set_cons_zero, List.set_cons_succ]
    refine takeH (v := ?_) 15 61 rfl rfl (by kernel_rfl) (by kernel_rfl) (by kernel_rfl) (fun _ _ _ h => h) (by rfl) hS ?_ ?_
    rotate_left
    · intro X hX; obtain ⟨x0, x1, x2, x3, x4, x5, u0, u1, u2, u3, u4, u5⟩ := hX; go_simp; first | done | rfl
    simp only [List.setIfInBounds_toArray, List.set_cons_zero, List.set_cons_succ]
    refine takeH (v := ?_) 16 62 rfl rfl (by kernel_rfl) (by kernel_rfl) (by kernel_rfl) (fun _ _ _ h => h) (by rfl) hS ?_ ?_
    rotate_left
    · intro X hX; obtain ⟨x0, x1, x2, x3, x4, x5, u0, u1, u2, u3, u4, u5⟩ := hX; go_simp; first | done | rfl
    simp only [List.setIfInBounds_toArray, List.set_cons_zero, List.set_cons_succ]
    refine takeH (v := ?_) 17 63 rfl rfl (by kernel_rfl) (by kernel_rfl) (by kernel_rfl) (fun _ _ _ h => h) (by rfl) hS ?_ ?_
    rotate_left
    · intro X hX; obtain ⟨x0, x1, x2, x3, x4, x5, u0, u1, u2, u3, u4, u5⟩ := hX; go_simp; first | done | rfl
    simp only [List.setIfInBounds_toArray, List.set_cons_zero, List.set_cons_succ]
    refine takeH (v := ?_) 18 64 rfl rfl (by kernel_rfl) (by kernel_rfl) (by kernel_rfl) (fun _ _ _ h => h) (by rfl) hS ?_ ?_
    rotate_left
    · intro X hX; obtain ⟨x0, x1, x2, x3, x4, x5, u0, u1, u2, u3, u4, u5⟩ := hX; go_simp; first | done | rfl
    simp only [List.setIfInBounds_toArray, List.set_cons_zero, List.set_cons_succ]
    refine wpAnyH_ready (rs := [19]) (by kernel_rfl) (by simp) ?_
    refine AllReadyH.cons rfl (fun K hK => ?_) AllReadyH.nil
    go_simp
    go_at_call 50
    refine HSO.out.mono ?_
    rintro e w16 ⟨S16, rfl, h16⟩
    have h16b := H14.out.trans h16
    obtain ⟨⟨u0, u1, u2, u3, u4, u5⟩, -, u6⟩ := h16b.p2.ok.pt6; obtain ⟨⟨x0, x1, x2, x3, x4, x5⟩, -, x6⟩ := h16b.p3.ok.pt6
    have HT16 := Lib.hid (HT14.out.to h16)
    have H16 := Lib.hid h16b
    clear h16b h16
    go_wp2
    refine Shut.out hK _ _ (⟨x0, x1, x2, x3, x4, x5, u0, u1, u2, u3, u4, u5⟩) (fun hS => ?_)
    clear hK K
    try simp only [Act.put, List.setIfInBounds_toArray, List.set_cons_zero, List.set_cons_succ]
    refine takeH (v := ?_) 20 66 rfl rfl (by kernel_rfl) (by kernel_rfl) (by kernel_rfl) (fun _ _ _ h => h) (by rfl) hS ?_ ?_
    rotate_left
    · intro X hX; obtain ⟨x0, x1, x2, x3, x4, x5, u0, u1, u2, u3, u4, u5⟩ := hX; go_simp; first | done | rfl
    simp only [List.setIfInBounds_toArray, List.set_cons_zero, List.set_cons_succ]
    refine takeH (v := ?_) 21 67 rfl rfl (by kernel_rfl) (by kernel_rfl) (by kernel_rfl) (fun _ _ _ h => h) (by rfl) hS ?_ ?_
    rotate_left
    · intro X hX; obtain ⟨x0, x1, x2, x3, x4, x5, u0, u1, u2, u3, u4, u5⟩ := hX; go_simp; first | done | rfl
    simp only [List.setIfInBounds_toArray, List.set_cons_zero, List.set_cons_succ]
    refine wpAnyH_done (by kernel_rfl) ?_ _
    have h17 := (H16.out.p2.drop.allocMap' (enc := Value.int .i64) (val := fun c : Nat => Value.int .u64 (c : Int)) w16.heap.size rfl).p2.p2
    have HT17 := Lib.hid (HT16.out.to ((H16.out.ok.to.allocMap (enc := Value.int .i64) (val := fun c : Nat => Value.int .u64 (c : Int)))))
    clear x0 x1 x2 x3 x4 x5 x6 u0 u1 u2 u3 u4 u5 u6 H16 HT16 H14 HT14 HSO HLN HSM HRN HQ HK12 H12 HT12
    obtain ⟨⟨x0, x1, x2, x3, x4, x5⟩, -, x6⟩ := h17.p3.ok.pt6
    have hput := put_map_spec h17.ok HT17.out (fun x hx => by cases hx)
    rw [← HR2.out] at hput
    have HP := Lib.hid hput
    have H17 := Lib.hid h17
    have hmm := @run_makeMap Try.prog
    clear h17 hput
    go_wp2_with fail
    refine HP.out.mono ?_
    rintro e w18 ⟨rfl, h18⟩
    have h18b := H17.out.trans h18
    have HT18 := Lib.hid (HT17.out.to h18)
    clear x0 x1 x2 x3 x4 x5 x6
    obtain ⟨⟨x0, x1, x2, x3, x4, x5⟩, -, x6⟩ := h18b.p3.ok.pt6
    have hput := put_map_spec h18b.ok HT18.out HQ8.out
    rw [← HR3.out] at hput
    have HP := Lib.hid hput
    have H18 := Lib.hid h18b
    clear h18 h18b hput H17 HT17
    go_wp2_with fail
    refine HP.out.mono ?_
    rintro e w19 ⟨rfl, h19⟩
    have h19b := H18.out.trans h19
    have HT19 := Lib.hid (HT18.out.to h19)
    clear x0 x1 x2 x3 x4 x5 x6
    obtain ⟨⟨x0, x1, x2, x3, x4, x5⟩, -, x6⟩ := h19b.p3.ok.pt6
    obtain ⟨es, ck, i1, -, -, -, i2⟩ := h19b.p2.ok.mapRaw
    have hlm := run_lenMap (P := Try.prog) Try.underlying52 i1 i2 3
    have hvs := Vars_spec h19b.ok HT19.out
    rw [HVT.out] at hvs
    have HVS := Lib.hid hvs
    have H19 := Lib.hid h19b
    clear h19 h19b hvs H18 HT18 HP i1 i2
    go_wp2_with fail
    clear hlm
    refine HVS.out.mono ?_
    rintro e w20 ⟨v, rfl, h20⟩
    obtain ⟨A8, c8, rfl, -⟩ := row_readI h20.ok
    have hne : ((st3.V.length : Int) != ((varsT t []).length : Int)) = false := by rw [HQ9.out]; simp
    have h20d := h20.drop
    have h21 := ((H19.out.trans h20d).allocMap' (enc := encN) (val := encN) w20.heap.size rfl).p2.p2
    have hget := get_map h21.ok (fun x hx => by cases hx) (by simp) c2 q6 rfl
    rw [HQ10.out, HQ11.out] at hget
    have HG := Lib.hid hget
    have H21 := Lib.hid h21
    clear x0 x1 x2 x3 x4 x5 x6 h20 h20d h21 hget H19 HT19 HVS
    go_wp2_with fail
    refine HG.out.mono ?_
    rintro e w22 ⟨tc4, S22, hq4, rfl, h22, hk4⟩
    obtain ⟨⟨k4, sx4, n4, re4, im4, xs4⟩, A4, cp4⟩ := tc4
    simp only [Tc.six, Tm.k_mk, Tm.s_mk, Tm.n_mk, Tm.re_mk, Tm.im_mk, Tm.xs_mk] at hk4
    have ha := h22.ok.to.allocPt' #[.int .i64 k4, .string sx4, .int .i64 n4, .int .u64 re4, .int .u64 im4, .slice A4 xs4.length cp4] 25 w22.heap.size rfl
    have h23 := ((H21.out.trans h22).trans ha).p3.p3.p3
    have HK23 := Lib.hid (hk4.to ha)
    have hget := get_map h23.ok HQ16.out (by have := HQ15.out; omega) c3 q7 rfl
    rw [HQ12.out, HQ13.out] at hget
    have HG := Lib.hid hget
    have H23 := Lib.hid h23
    have HQ4 := Lib.hid hq4
    clear h22 ha h23 hk4 hq4 hget H21
    simp only [Tc.six, Tm.k_mk, Tm.s_mk, Tm.n_mk, Tm.re_mk, Tm.im_mk, Tm.xs_mk]
    go_wp2_with fail
    refine HG.out.mono ?_
    rintro e w24 ⟨tc5, S24, hq5, rfl, h24, hk5⟩
    obtain ⟨⟨k5, sx5, n5, re5, im5, xs5⟩, A5, cp5⟩ := tc5
    simp only [Tc.six, Tm.k_mk, Tm.s_mk, Tm.n_mk, Tm.re_mk, Tm.im_mk, Tm.xs_mk] at hk5
    have ha := h24.ok.to.allocPt' #[.int .i64 k5, .string sx5, .int .i64 n5, .int .u64 re5, .int .u64 im5, .slice A5 xs5.length cp5] 25 w24.heap.size rfl
    have h25 := (H23.out.trans h24).trans ha
    obtain ⟨⟨u0, u1, u2, u3, u4, u5⟩, -, u6⟩ := h25.ok.pt6
    obtain ⟨⟨x0, x1, x2, x3, x4, x5⟩, -, x6⟩ := h25.p4.ok.pt6
    have hsm := same_spec h25.ok ((HK23.out.to h24).to ha) (hk5.to ha)
    rw [show Tm.mk k4 sx4 n4 re4 im4 xs4 = renT t from HQ4.out, show Tm.mk k5 sx5 n5 re5 im5 xs5 = renT t from hq5, HSR.out] at hsm
    have HSM := Lib.hid hsm
    have H25 := Lib.hid h25
    clear h24 ha h25 hk5 hq5 hsm H23 HK23 HQ4
    simp only [Tc.six, Tm.k_mk, Tm.s_mk, Tm.n_mk, Tm.re_mk, Tm.im_mk, Tm.xs_mk]
    go_wp2_with fail
    refine HSM.out.mono ?_
    rintro e w26 ⟨rfl, h26⟩
    have h27 := H25.out.trans h26
    obtain ⟨es1, ck1, i1, -, -, -, i2⟩ := h27.p3.ok.mapRaw
    have hlm1 := run_lenMap (P := Try.prog) Try.underlying71 i1 i2 3
    obtain ⟨es2, ck2, i3, -, -, -, i4⟩ := h27.p5.ok.mapRaw
    have hlm2 := run_lenMap (P := Try.prog) Try.underlying52 i3 i4 3
    have hleq : ((V2.length : Int) == (st3.V.length : Int)) = true := by rw [HQ14.out, HQ9.out]; simp
    have H27 := Lib.hid h27
    clear h26 h27 i1 i2 i3 i4 H25 HSM x0 x1 x2 x3 x4 x5 x6 u0 u1 u2 u3 u4 u5 u6
    go_wp2_with fail
    clear hlm1 hlm2 hleq
    refine (awake7_spec H27.out.ok).mono ?_
    rintro e w28 ⟨rfl, h28⟩
    have H28 := Lib.hid (H27.out.trans h28).drop.drop.drop.drop.drop.drop.drop.small
    clear h28 H27
    go_wp2
    go_ret
    exact ⟨rfl, H28.out⟩
#print axioms back_spec
end Go.Proofs.Ytceahdlcbiialaa
