/- StoreAlike: the walk. -/
import Derived.Test.YtceahdlcbiialaaB5
import Derived.Test.YtceahdlcbiialaaD4
import Derived.Laws.BitsLemmas
set_option linter.unusedVariables false
set_option linter.unusedSimpArgs false
namespace Go.Proofs.Ytceahdlcbiialaa
open Go.RowKit

theorem and20 (n : Int) : bits .and .i64 n 1048575 = n % 1048576 := by
  have hm : (BitVec.ofInt 64 1048575).toNat = 2 ^ 20 - 1 := by decide
  have key : (BitVec.ofInt 64 n &&& BitVec.ofInt 64 1048575).toNat = (n % ((2 ^ 64 : Nat) : Int)).toNat % 2 ^ 20 := by
    rw [BitVec.toNat_and, BitVec.toNat_ofInt, hm, Nat.and_two_pow_sub_one_eq_mod]
  show IntKind.i64.wrap ((BitVec.ofInt 64 n &&& BitVec.ofInt 64 1048575).toNat : Nat) = n % 1048576
  rw [key, IntKind.wrap_i64]
  omega

mutual
theorem allV_both : ∀ {t : Tm}, allV (fun n => n ≤ 1099511627776) t → allV (fun n => 0 ≤ n) t → allV small40 t
  | .mk k s n re im xs, ⟨a, b⟩, ⟨c, d⟩ => ⟨fun h => ⟨c h, a h⟩, fun h => allVL_both (b h) (d h)⟩
theorem allVL_both : ∀ {l : List Tm}, allVL (fun n => n ≤ 1099511627776) l → allVL (fun n => 0 ≤ n) l → allVL small40 l
  | [], _, _ => trivial
  | t :: r, ⟨a, b⟩, ⟨c, d⟩ => ⟨allV_both a c, allVL_both b d⟩
end
mutual
theorem good_pos : ∀ (t : Tm), good t → allV (fun n => 0 ≤ n) t
  | .mk k s n re im xs, ⟨h1, h2⟩ => ⟨fun k1 => (one_zero.1 h1).2.2.1 k1, fun k5 => goodL_pos xs (h2 k5)⟩
theorem goodL_pos : ∀ (l : List Tm), goodL l → allVL (fun n => 0 ≤ n) l
  | [], _ => trivial
  | t :: r, ⟨h1, h2⟩ => ⟨good_pos t h1, goodL_pos r h2⟩
end
set_option maxRecDepth 100000 in
set_option maxHeartbeats 4000000 in
theorem alike_spec {w : World} {S : Blk} {Γ : List Asn} {cs : List Value} {t : Tm} (hO : Ok w S Γ) (hT : TmC w S cs t) {by' : Int} (hby : (Lit.int .i64 by').wf = true) : Calls Try.prog 4 #[.agg cs.toArray, .int .i64 by'] w fun e w' => e = .returned (.bool true) ∧ To w S w' S Γ := by
  obtain ⟨A, cap, rfl⟩ := hT.form0
  have h1 := (hO.to.allocPt' #[.int .i64 t.k, .string t.s, .int .i64 t.n, .int .u64 t.re, .int .u64 t.im, .slice A t.xs.length cap] 25 w.heap.size rfl).allocPt' #[.int .i64 by'] 2 (w.heap.size + 1) (by simp)
  have h2 := h1.allocPt' #[.int .i64 t.k, .string t.s, .int .i64 t.n, .int .u64 t.re, .int .u64 t.im, .slice A t.xs.length cap] 25 (w.heap.size + 1 + 1) (by simp)
  have hg := h2.ok.ptHeap
  have h3 := h2.trans h2.ok.seal1
  obtain ⟨S1, hS1⟩ : ∃ S1 : Blk, S1 = fun x => S x ∨ x = w.heap.size + 1 + 1 := ⟨_, rfl⟩
  rw [← hS1] at h3
  have hsb : S1 (w.heap.size + 1 + 1) := by rw [hS1]; exact .inr rfl
  clear hS1 h1 h2
  have hT3 := hT.to h3
  have hL := Light_spec (cap := 1) (kids_one hsb hg hT3) (by simp)
  have HL := Lib.hid hL; clear hL hg
  have H3 := Lib.hid h3; clear h3
  have HT3 := Lib.hid hT3; clear hT3 hT hO
  generalize hlv : Light [t] 0 4000 = lv at HL
  clear hlv hby
  cases lv with
  | false =>
    go_enter Try.func4, Try.ntmps4
    go_wp2_with (first | (go_at_call 23; refine HL.out.mono ?_; rintro e w1 ⟨rfl, hB⟩; have H4 := Lib.hid (H3.out.below hB); clear hB) | (go_at_call 25; refine (awake7_spec H4.out.ok).mono ?_; rintro e w2 ⟨rfl, h5⟩))
    go_ret
    exact ⟨rfl, (H4.out.trans h5).plain.drop.drop⟩
  | true =>
    by_cases hm : May t = 0
    case neg =>
      have hmb : ((May t : Int) != 0) = true := by simp [bne]; omega
      clear hm
      go_enter Try.func4, Try.ntmps4
      go_wp2_with (first | (go_at_call 23; refine HL.out.mono ?_; rintro e w1 ⟨rfl, hB⟩; have h4 := H3.out.below hB; obtain ⟨m0, m1, m2, m3, m4, m5, m6⟩ := h4.ok.p1.six; have HT4 := Lib.hid (HT3.out.to (H3.out.ok.below hB)); have H4 := Lib.hid h4; clear h4 hB) | (go_at_call 24; refine (May_spec H4.out.ok HT4.out).mono ?_; rintro e w2 ⟨rfl, h5⟩; have H5 := Lib.hid (H4.out.trans h5); clear h5) | (go_at_call 25; refine (awake7_spec H5.out.ok).mono ?_; rintro e w3 ⟨rfl, h6⟩))
      go_ret
      exact ⟨rfl, (H5.out.trans h6).plain.drop.drop⟩
    case pos =>
      obtain ⟨hnod, hgood⟩ := May_zero hm
      have hVT : VarsT t = varsT t [] := by unfold VarsT; rw [if_neg (by simp [hm])]
      have hlen : (VarsT t).length ≤ 2000 := by rw [hVT]; have := varsT_len t []; simp at this; omega
      have HVT := Lib.hid hVT; clear hVT
      have HG := Lib.hid hgood; clear hgood
      have HM := Lib.hid hm; clear hm
      have hand := and20 by'
      have hb1 : 0 ≤ by' % 1048576 ∧ by' % 1048576 ≤ 1048575 := by omega
      generalize by' % 1048576 = bm at hand hb1
      go_enter Try.func4, Try.ntmps4
      go_wp2_with (first | (go_at_call 23; refine HL.out.mono ?_; rintro e w1 ⟨rfl, hB⟩; have h4 := H3.out.below hB; obtain ⟨m0, m1, m2, m3, m4, m5, m6⟩ := h4.ok.p1.six; have HT4 := Lib.hid (HT3.out.to (H3.out.ok.below hB)); have H4 := Lib.hid h4; clear h4 hB) | (go_at_call 24; refine (May_spec H4.out.ok HT4.out).mono ?_; rw [HM.out]; rintro e w2 ⟨rfl, h5⟩; have HT5 := Lib.hid (HT4.out.to h5); have h5' := H4.out.trans h5; have n0 : w2.cell? ⟨w.heap.size + 1, 0, none⟩ = some (.int .i64 by') := h5'.ok.ptCell 0 _ rfl; have n1 := h5'.ok.ptFree 0; obtain ⟨k0, k1, k2, k3, k4, k5, k6⟩ := h5'.ok.p1.six; have n2 := h5'.ok.ptLt; have H5 := Lib.hid h5'; clear h5 h5'))
      have h6 := H5.out.ptSet 0 (.int .i64 bm)
      have hc6 := h6.ok.ptCell 0 _ rfl
      have h7 := h6.trans h6.ok.seal1
      have hT6 := HT5.out.to ((H5.out.ok.ptSet 0 (.int .i64 bm)).trans h6.ok.seal1)
      obtain ⟨S2, hS2⟩ : ∃ S2 : Blk, S2 = fun x => S1 x ∨ x = w.heap.size + 1 := ⟨_, rfl⟩
      rw [← hS2] at h7 hT6
      have hsb2 : S2 (w.heap.size + 1) := by rw [hS2]; exact .inr rfl
      clear hS2 h6
      refine (Vars_spec h7.ok hT6).mono ?_
      rintro e w3 ⟨v, rfl, h8⟩
      have hT8 := hT6.to h8
      have hc8 := h8.cell (a := ⟨w.heap.size + 1, 0, none⟩) hsb2 hc6
      have h9 := h7.trans h8
      clear h7 h8 hT6 hc6 n0 n1 n2 m0 m1 m2 m3 m4 m5 m6 k0 k1 k2 k3 k4 k5 k6
      obtain ⟨A3, c3, rfl, hr3⟩ := row_readI h9.ok
      have HR3 := Lib.hid hr3; clear hr3
      have HT8 := Lib.hid hT8; clear hT8
      have H9 := Lib.hid h9; clear h9
      have HC8 := Lib.hid hc8; clear hc8
      clear HT3 HL H3 HT4 H4 HT5 H5
      go_wp2_with fail
      go_loopw [34] (fun i wr => ∃ j : Nat, i = .int .i64 j ∧ j ≤ (VarsT t).length ∧ (∀ x ∈ (VarsT t).take j, x ≤ 1099511627776) ∧ wr = w3) (fun i _ => (VarsT t).length - (intOf i).toNat)
      case atStart => exact ⟨0, rfl, Nat.zero_le _, by simp, rfl⟩
      case round =>
        obtain ⟨j, rfl, hj, hne, rfl⟩ := hrel
        by_cases hlt : j < (VarsT t).length
        · obtain ⟨ad, rfl, hc⟩ := HR3.out j (VarsT t)[j] (List.getElem?_eq_getElem hlt)
          have htake : (VarsT t).take (j + 1) = (VarsT t).take j ++ [(VarsT t)[j]] := by rw [List.take_add_one, List.getElem?_eq_getElem hlt]; rfl
          generalize (VarsT t)[j] = y at hc htake
          by_cases hy : 1099511627776 < y
          · clear htake hne
            go_wp2_with (go_at_call 25; refine (awake7_spec H9.out.ok).mono ?_; rintro e w4 ⟨rfl, h10⟩; have H10 := Lib.hid (H9.out.trans h10); clear h10)
            go_ret
            exact ⟨rfl, H10.out.plain.drop.drop⟩
          · have HNE := Lib.hid hne
            have HTK := Lib.hid htake
            clear htake hne
            go_wp2
            go_roundw
            case rel =>
              refine ⟨j + 1, by go_num, by omega, ?_, by trivial⟩
              rw [HTK.out]
              intro x hx
              rcases List.mem_append.1 hx with hx | hx
              · exact HNE.out x hx
              · rw [List.mem_singleton.1 hx]; omega
            case measure => simp [intOf]; omega
        · obtain rfl : j = (VarsT t).length := by omega
          rw [List.take_length] at hne
          have hav : allV small40 t := by
            rw [HVT.out] at hne
            have h1 := allV_vars (fun n => n ≤ 1099511627776) t [] hne
            exact allV_both h1 (good_pos t HG.out)
          have hpm := put_map bm hb1 1048576 HM.out hav [] names0
          have HPM := Lib.hid hpm
          obtain ⟨k0, k1, k2, k3, k4, k5, k6⟩ := H9.out.ok.p1.six
          have hmap := MapBy_spec t _ _ _ _ (w.heap.size + 1) bm H9.out.ok HT8.out (good_slim t HG.out) hsb2 HC8.out
          have HMAP := Lib.hid hmap
          clear hpm hmap hne
          go_wp2_with (go_at_call 33; refine HMAP.out.mono ?_; rintro e w4 ⟨c, S3, hc, rfl, h10, hT10⟩; have HCE := Lib.hid hc; have hT8' := HT8.out.to h10; have h11 := (H9.out.trans h10).drop.allocPt' c.six.toArray 25 w4.heap.size rfl; have HT11 := Lib.hid (hT8'.bel ((Below.refl _ _).alloc (Nat.le_refl _) (.cells c.six.toArray 25))); have HU11 := Lib.hid (hT10.bel ((Below.refl _ _).alloc (Nat.le_refl _) (.cells c.six.toArray 25))); have H11 := Lib.hid h11; clear hc h10 hT10 hT8' h11)
          refine (new_spec H11.out.ok 1048576 1048576 rfl (Nat.le_refl _)).mono ?_
          rintro e w5 ⟨p1, rfl, h12⟩
          have H12 := Lib.hid (H11.out.trans h12)
          have HT12 := Lib.hid (HT11.out.to h12)
          have HU12 := Lib.hid (HU11.out.to h12)
          clear h12 HT11 HU11 H11
          go_wp2_with fail
          refine (new_spec H12.out.ok 1048576 1048576 rfl (Nat.le_refl _)).mono ?_
          rintro e w6 ⟨p2, rfl, h13⟩
          have h13' := (H12.out.trans h13).p1
          have HT13 := Lib.hid (HT12.out.to h13)
          have HU13 := Lib.hid (HU12.out.to h13)
          obtain ⟨x0, x1, x2, x3, x4, x5, x6⟩ := h13'.p3.ok.six
          have han := (anew_spec h13'.drew.ok).mono (R' := fun e w7 => ∃ a, e = .returned (.pointer (some ⟨a, 0, none⟩)) ∧ Hid (To w6.drew S3 w7 S3 (HeapA p1 1048576 [] :: AtomsA a names0 :: HeapA p2 1048576 [] :: Pt w4.heap.size c.six.toArray 25 :: Pt w.heap.size #[.int .i64 t.k, .string t.s, .int .i64 t.n, .int .u64 t.re, .int .u64 t.im, .slice A t.xs.length cap] 25 :: Γ)) ∧
            w7.cell? ⟨w.heap.size, 0, none⟩ = some (.int .i64 t.k) ∧ w7.cell? ⟨w.heap.size, 1, none⟩ = some (.string t.s) ∧ w7.cell? ⟨w.heap.size, 2, none⟩ = some (.int .i64 t.n) ∧ w7.cell? ⟨w.heap.size, 3, none⟩ = some (.int .u64 t.re) ∧ w7.cell? ⟨w.heap.size, 4, none⟩ = some (.int .u64 t.im) ∧ w7.cell? ⟨w.heap.size, 5, none⟩ = some (.slice A t.xs.length cap))
            (fun e w7 ⟨a, h1, h2⟩ => ⟨a, h1, Lib.hid h2.p1, h2.p4.ok.pt6.1⟩)
          have hput : ∀ a w7, To w6.drew S3 w7 S3 (HeapA p1 1048576 [] :: AtomsA a names0 :: HeapA p2 1048576 [] :: Pt w4.heap.size c.six.toArray 25 :: Pt w.heap.size #[.int .i64 t.k, .string t.s, .int .i64 t.n, .int .u64 t.re, .int .u64 t.im, .slice A t.xs.length cap] 25 :: Γ) →
              Calls Try.prog 28 #[.pointer (some ⟨p1, 0, none⟩), .pointer (some ⟨a, 0, none⟩), .agg #[.int .i64 t.k, .string t.s, .int .i64 t.n, .int .u64 t.re, .int .u64 t.im, .slice A t.xs.length cap], .map none] w7 fun e w8 =>
                e = .returned (.tuple #[.int .u64 (putP 1048576 t ⟨[], names0, []⟩).1.1, .int .i64 (putP 1048576 t ⟨[], names0, []⟩).1.2]) ∧ Hid (To w6.drew S3 w8 S3 (HeapA p1 1048576 (putP 1048576 t ⟨[], names0, []⟩).2.C :: HeapA p2 1048576 [] :: Pt w4.heap.size c.six.toArray 25 :: Pt w.heap.size #[.int .i64 t.k, .string t.s, .int .i64 t.n, .int .u64 t.re, .int .u64 t.im, .slice A t.xs.length cap] 25 :: Γ)) ∧
            w8.cell? ⟨w.heap.size, 0, none⟩ = some (.int .i64 t.k) ∧ w8.cell? ⟨w.heap.size, 1, none⟩ = some (.string t.s) ∧ w8.cell? ⟨w.heap.size, 2, none⟩ = some (.int .i64 t.n) ∧ w8.cell? ⟨w.heap.size, 3, none⟩ = some (.int .u64 t.re) ∧ w8.cell? ⟨w.heap.size, 4, none⟩ = some (.int .u64 t.im) ∧ w8.cell? ⟨w.heap.size, 5, none⟩ = some (.slice A t.xs.length cap) := by
            intro a w7 h2
            refine (put_nil h2.ok ((HT13.out.drewN 1).to h2)).mono ?_
            rintro e w8 ⟨h3, h4⟩
            exact ⟨h3, Lib.hid ((h2.trans h4).p1.drop), h4.p4.ok.pt6.1⟩
          have HAN := Lib.hid han
          have HPUT := Lib.hid hput
          have H13 := Lib.hid h13'
          clear han hput h13 h13' k0 k1 k2 k3 k4 k5 k6 H12 HT12 HU12
          go_wp2_with fail
          go_region_held3 (fun X => X.cell? ⟨w.heap.size, 0, none⟩ = some (.int .i64 t.k) ∧ X.cell? ⟨w.heap.size, 1, none⟩ = some (.string t.s) ∧ X.cell? ⟨w.heap.size, 2, none⟩ = some (.int .i64 t.n) ∧ X.cell? ⟨w.heap.size, 3, none⟩ = some (.int .u64 t.re) ∧ X.cell? ⟨w.heap.size, 4, none⟩ = some (.int .u64 t.im) ∧ X.cell? ⟨w.heap.size, 5, none⟩ = some (.slice A t.xs.length cap)) (go_keep) (first | (go_at_call 27; refine HAN.out.mono ?_; rintro e w7 ⟨a1, rfl, FA, m0, m1, m2, m3, m4, m5⟩) | (go_at_call 28; refine (HPUT.out a1 w7 FA.out).mono ?_; rintro e w8 ⟨rfl, FP, n0, n1, n2, n3, n4, n5⟩))
          have hU8 := (HU13.out.drewN 1).to FP.out
          have h14 := (H13.out.drew.trans FP.out).p1
          clear HAN HPUT FA m0 m1 m2 m3 m4 m5 n0 n1 n2 n3 n4 n5 x0 x1 x2 x3 x4 x5 x6 H13 HU13 FP HT13
          obtain ⟨pe, pl, -⟩ := put_small HM.out
          generalize hr : putP 1048576 t ⟨[], names0, []⟩ = r at h14 pe pl HPM
          clear hr
          obtain ⟨⟨rc, re⟩, rs⟩ := r
          simp only at pe pl h14
          subst pe
          obtain ⟨⟨x0, x1, x2, x3, x4, x5⟩, -, x6⟩ := h14.p2.ok.pt6
          have han := (anew_spec h14.drew.ok).mono (R' := fun e w9 => ∃ a, e = .returned (.pointer (some ⟨a, 0, none⟩)) ∧ Hid (To w8.drew S3 w9 S3 (HeapA p2 1048576 [] :: AtomsA a names0 :: HeapA p1 1048576 rs.C :: Pt w4.heap.size c.six.toArray 25 :: Pt w.heap.size #[.int .i64 t.k, .string t.s, .int .i64 t.n, .int .u64 t.re, .int .u64 t.im, .slice A t.xs.length cap] 25 :: Γ)) ∧ w9.cell? ⟨w4.heap.size, 0, none⟩ = some (.int .i64 c.t.k) ∧ w9.cell? ⟨w4.heap.size, 1, none⟩ = some (.string c.t.s) ∧ w9.cell? ⟨w4.heap.size, 2, none⟩ = some (.int .i64 c.t.n) ∧ w9.cell? ⟨w4.heap.size, 3, none⟩ = some (.int .u64 c.t.re) ∧ w9.cell? ⟨w4.heap.size, 4, none⟩ = some (.int .u64 c.t.im) ∧ w9.cell? ⟨w4.heap.size, 5, none⟩ = some (.slice c.A c.t.xs.length c.c))
            (fun e w9 ⟨a, h1, h2⟩ => ⟨a, h1, Lib.hid h2.p1, h2.p3.ok.pt6.1⟩)
          have hput : ∀ a w9, To w8.drew S3 w9 S3 (HeapA p2 1048576 [] :: AtomsA a names0 :: HeapA p1 1048576 rs.C :: Pt w4.heap.size c.six.toArray 25 :: Pt w.heap.size #[.int .i64 t.k, .string t.s, .int .i64 t.n, .int .u64 t.re, .int .u64 t.im, .slice A t.xs.length cap] 25 :: Γ) →
              Calls Try.prog 28 #[.pointer (some ⟨p2, 0, none⟩), .pointer (some ⟨a, 0, none⟩), .agg #[.int .i64 c.t.k, .string c.t.s, .int .i64 c.t.n, .int .u64 c.t.re, .int .u64 c.t.im, .slice c.A c.t.xs.length c.c], .map none] w9 fun e w10 =>
                e = .returned (.tuple #[.int .u64 rc, .int .i64 ((0 : Nat) : Int)]) ∧ Hid (To w8.drew S3 w10 S3 (HeapA p2 1048576 rs.C :: HeapA p1 1048576 rs.C :: Pt w4.heap.size c.six.toArray 25 :: Pt w.heap.size #[.int .i64 t.k, .string t.s, .int .i64 t.n, .int .u64 t.re, .int .u64 t.im, .slice A t.xs.length cap] 25 :: Γ)) ∧ w10.cell? ⟨w4.heap.size, 0, none⟩ = some (.int .i64 c.t.k) ∧ w10.cell? ⟨w4.heap.size, 1, none⟩ = some (.string c.t.s) ∧ w10.cell? ⟨w4.heap.size, 2, none⟩ = some (.int .i64 c.t.n) ∧ w10.cell? ⟨w4.heap.size, 3, none⟩ = some (.int .u64 c.t.re) ∧ w10.cell? ⟨w4.heap.size, 4, none⟩ = some (.int .u64 c.t.im) ∧ w10.cell? ⟨w4.heap.size, 5, none⟩ = some (.slice c.A c.t.xs.length c.c) := by
            intro a w9 h2
            refine (put_nil h2.ok ((hU8.drewN 1).to h2)).mono ?_
            rintro e w10 ⟨h3, h4⟩
            rw [HCE.out, HPM.out.2] at h3 h4
            exact ⟨h3, Lib.hid ((h2.trans h4).p1.drop), h4.p3.ok.pt6.1⟩
          have HAN := Lib.hid han
          have HPUT := Lib.hid hput
          have H14 := Lib.hid h14
          clear han hput h14 hU8
          go_wp2_with fail
          go_region_held3 (fun X => X.cell? ⟨w4.heap.size, 0, none⟩ = some (.int .i64 c.t.k) ∧ X.cell? ⟨w4.heap.size, 1, none⟩ = some (.string c.t.s) ∧ X.cell? ⟨w4.heap.size, 2, none⟩ = some (.int .i64 c.t.n) ∧ X.cell? ⟨w4.heap.size, 3, none⟩ = some (.int .u64 c.t.re) ∧ X.cell? ⟨w4.heap.size, 4, none⟩ = some (.int .u64 c.t.im) ∧ X.cell? ⟨w4.heap.size, 5, none⟩ = some (.slice c.A c.t.xs.length c.c)) (go_keep) (first | (go_at_call 27; refine HAN.out.mono ?_; rintro e w9 ⟨a2, rfl, FA, m0, m1, m2, m3, m4, m5⟩) | (go_at_call 28; refine (HPUT.out a2 w9 FA.out).mono ?_; rintro e w10 ⟨rfl, FP, n0, n1, n2, n3, n4, n5⟩))
          have h15 := H14.out.drew.trans FP.out
          have hl2 := len_spec h15.ok.heapAR
          have hl1 := len_spec h15.p1.ok.heapAR
          have HL1 := Lib.hid hl1
          have HL2 := Lib.hid hl2
          have H15 := Lib.hid h15
          have hcl : rs.C.length ≤ 1048576 := h15.ok.heapAR.2.2.2.1
          clear h15 hl1 hl2 HAN HPUT FA m0 m1 m2 m3 m4 m5 n0 n1 n2 n3 n4 n5 x0 x1 x2 x3 x4 x5 x6 FP
          go_wp2_with fail
          refine HL1.out.mono ?_
          rintro e w' ⟨rfl, hww⟩
          subst w'
          go_wp2_with fail
          refine HL2.out.mono ?_
          rintro e w' ⟨rfl, hww⟩
          subst w'
          go_wp2_with fail
          refine HL1.out.mono ?_
          rintro e w' ⟨rfl, hww⟩
          subst w'
          go_wp2_with fail
          go_loopw [81] (fun i wr => ∃ j : Nat, i = .int .i64 j ∧ j ≤ rs.C.length ∧ wr = w10) (fun i _ => rs.C.length - (intOf i).toNat)
          case atStart => exact ⟨0, rfl, Nat.zero_le _, rfl⟩
          case round =>
            obtain ⟨j, rfl, hj, rfl⟩ := hrel
            by_cases hlt : j < rs.C.length
            · have g1 := get_in H15.out.p1.ok.heapAR j rs.C[j] rfl (List.getElem?_eq_getElem hlt)
              have g2 := get_in H15.out.ok.heapAR j rs.C[j] rfl (List.getElem?_eq_getElem hlt)
              generalize rs.C[j] = y at g1 g2
              have G1 := Lib.hid g1
              have G2 := Lib.hid g2
              clear g1 g2
              go_wp2_with fail
              refine G1.out.mono ?_
              rintro e w' ⟨rfl, hww⟩
              subst w'
              go_wp2_with fail
              refine G2.out.mono ?_
              rintro e w' ⟨rfl, hww⟩
              subst w'
              go_wp2_with fail
              go_roundw
              case rel => exact ⟨j + 1, by go_num, by omega, by trivial⟩
              case measure => simp [intOf]; omega
            · obtain rfl : j = rs.C.length := by omega
              go_wp2_with (go_at_call 25; refine (awake7_spec H15.out.ok).mono ?_; rintro e w11 ⟨rfl, h16⟩; have H16 := Lib.hid (H15.out.trans h16).drop.drop; clear h16)
              go_ret
              exact ⟨rfl, H16.out.plain.drop.drop⟩
#print axioms alike_spec
end Go.Proofs.Ytceahdlcbiialaa
