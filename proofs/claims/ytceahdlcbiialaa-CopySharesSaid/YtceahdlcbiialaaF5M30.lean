/- The reference's Like, Same, Equal. -/
import Derived.Test.YtceahdlcbiialaaF5M29
import Derived.Test.YtceahdlcbiialaaF5M15
set_option linter.unusedVariables false
set_option linter.unusedSimpArgs false
namespace Go.Proofs.Ytceahdlcbiialaa
open Go.RowKit

theorem likeL_drop (l l' : List Tm) (j : Nat) (x y : Tm) (hx : l[j]? = some x) (hy : l'[j]? = some y) : likeL (l.drop j) (l'.drop j) = if likeT x y = true then likeL (l.drop (j + 1)) (l'.drop (j + 1)) else false := by
  have h1 := (List.getElem?_eq_some_iff.1 hx).1
  have e1 : l[j] = x := (List.getElem?_eq_some_iff.1 hx).2
  have h2 := (List.getElem?_eq_some_iff.1 hy).1
  have e2 : l'[j] = y := (List.getElem?_eq_some_iff.1 hy).2
  rw [List.drop_eq_getElem_cons h1, List.drop_eq_getElem_cons h2, e1, e2, likeL]
def LikeS (a : Tm) : Prop := ∀ (b : Tm) (w : World) (S S' : Blk) (cs cs' : List Value), TmC w S cs a → TmC w S' cs' b →
  Calls Try.prog 93 #[.agg cs.toArray, .agg cs'.toArray] w fun e w' => e = .returned (.bool (likeT a b)) ∧ Below w.heap.size w w'
theorem likeT_eq (k : Int) (s : ByteArray) (n re im : Int) (xs : List Tm) (k' : Int) (s' : ByteArray) (n' re' im' : Int) (xs' : List Tm) : likeT (.mk k s n re im xs) (.mk k' s' n' re' im' xs') = if k ≠ k' then false else if k = 1 ∨ k = 3 then decide (n = n') else if k = 2 then decide (s = s') else if k = 4 then decide (re = re') && decide (im = im')
    else if s ≠ s' ∨ xs.length ≠ xs'.length then false else likeL xs xs' := by rw [likeT]
set_option maxRecDepth 100000 in
set_option maxHeartbeats 4000000 in
theorem like_spec (a : Tm) : LikeS a := by
  refine Tm.ind (P := LikeS) ?_ a
  intro k s n re im xs ih b w S S' cs cs' hT hT'
  obtain ⟨A, cap, rfl, hrg, hA⟩ := hT.form
  obtain ⟨k', s', n', re', im', xs'⟩ := b
  obtain ⟨A', cap', rfl, hrg', hA'⟩ := hT'.form
  simp only [Ranged, Tm.k, Tm.s, Tm.n, Tm.re, Tm.im, Tm.xs] at *
  obtain ⟨hk, hs, hn, hre, him, hxl⟩ := hrg
  obtain ⟨hk', hs', hn', hre', him', hxl'⟩ := hrg'
  have HA := Lib.hid hA; clear hA
  have HA' := Lib.hid hA'; clear hA'
  have IH := Lib.hid ih; clear ih
  have hbel : Below w.heap.size w ((w.alloc (.cells #[.int .i64 k, .string s, .int .i64 n, .int .u64 re, .int .u64 im, .slice A xs.length cap] 25)).alloc (.cells #[.int .i64 k', .string s', .int .i64 n', .int .u64 re', .int .u64 im', .slice A' xs'.length cap'] 25)) := ((Below.refl _ _).alloc (Nat.le_refl _) _).alloc (by simp) _
  have HB := Lib.hid hbel
  clear hbel hT hT' hn hre him hn' hre' him' hs hs' hk hk'
  rw [likeT_eq]
  obtain ⟨B, hB⟩ : ∃ B, B = (if k ≠ k' then false else if k = 1 ∨ k = 3 then decide (n = n') else if k = 2 then decide (s = s') else if k = 4 then decide (re = re') && decide (im = im')
    else if s ≠ s' ∨ xs.length ≠ xs'.length then false else likeL xs xs') := ⟨_, rfl⟩
  rw [← hB]
  have HBV := Lib.hid hB
  clear hB
  by_cases hkk : k = k'
  case neg =>
    have hb : (k != k') = true := by simp [bne, hkk]
    have hv : B = false := by rw [HBV.out, if_pos hkk]
    have Hhv := Lib.hid hv
    clear hv
    clear hkk
    go_enter Try.func93, Try.ntmps93
    go_wp2
    go_ret
    exact ⟨by rw [Hhv.out]; rfl, HB.out⟩
  subst hkk
  have hbk : (k != k) = false := by simp
  by_cases k1 : k = 1
  · subst k1
    have hv : B = decide (n = n') := by rw [HBV.out, if_neg (by simp), if_pos (by simp)]
    have Hhv := Lib.hid hv
    clear hv
    go_enter Try.func93, Try.ntmps93
    go_wp2
    go_ret
    exact ⟨by rw [Hhv.out]; rfl, HB.out⟩
  by_cases k3 : k = 3
  · subst k3
    have hv : B = decide (n = n') := by rw [HBV.out, if_neg (by simp), if_pos (by simp)]
    have Hhv := Lib.hid hv
    clear hv
    go_enter Try.func93, Try.ntmps93
    go_wp2
    go_ret
    exact ⟨by rw [Hhv.out]; rfl, HB.out⟩
  by_cases k2 : k = 2
  · subst k2
    have hv : B = decide (s = s') := by rw [HBV.out, if_neg (by simp), if_neg (by simp), if_pos rfl]
    have Hhv := Lib.hid hv
    clear hv
    go_enter Try.func93, Try.ntmps93
    go_wp2
    go_ret
    exact ⟨by rw [Hhv.out, ← toList_beq]; rfl, HB.out⟩
  by_cases k4 : k = 4
  · subst k4
    have hv : B = (decide (re = re') && decide (im = im')) := by rw [HBV.out, if_neg (by simp), if_neg (by simp), if_neg (by simp), if_pos rfl]
    have Hhv := Lib.hid hv
    clear hv
    by_cases hr : re = re'
    · have hb : (re == re') = true := by simp [hr]
      have hv2 : B = decide (im = im') := by rw [Hhv.out]; simp [hr]
      have Hhv2 := Lib.hid hv2
      clear hv2
      clear Hhv hr
      go_enter Try.func93, Try.ntmps93
      go_wp2
      go_ret
      exact ⟨by rw [Hhv2.out]; rfl, HB.out⟩
    · have hb : (re == re') = false := by simp [hr]
      have hv2 : B = false := by rw [Hhv.out]; simp [hr]
      have Hhv2 := Lib.hid hv2
      clear hv2
      clear Hhv hr
      go_enter Try.func93, Try.ntmps93
      go_wp2
      go_ret
      exact ⟨by rw [Hhv2.out]; rfl, HB.out⟩
  have b1 : (k == 1) = false := beq_eq_false_iff_ne.2 k1
  have b3 : (k == 3) = false := beq_eq_false_iff_ne.2 k3
  have b2 : (k == 2) = false := beq_eq_false_iff_ne.2 k2
  have b4 : (k == 4) = false := beq_eq_false_iff_ne.2 k4
  have hv : B = if s ≠ s' ∨ xs.length ≠ xs'.length then false else likeL xs xs' := by rw [HBV.out, if_neg (by simp), if_neg (by omega), if_neg k2, if_neg k4]
  have Hhv := Lib.hid hv
  clear hv
  have HV := Hhv
  clear Hhv k1 k2 k3 k4 HBV
  by_cases hss : s = s'
  case neg =>
    have hb : (s.toList == s'.toList) = false := by rw [toList_beq]; simp [hss]
    have hv2 : B = false := by rw [HV.out, if_pos (.inl hss)]
    have Hhv2 := Lib.hid hv2
    clear hv2
    clear hss
    go_enter Try.func93, Try.ntmps93
    go_wp2
    go_ret
    exact ⟨by rw [Hhv2.out]; rfl, HB.out⟩
  subst hss
  have hbs : (s.toList == s.toList) = true := by rw [toList_beq]; simp
  by_cases hll : xs.length = xs'.length
  case neg =>
    have hb : ((xs.length : Int) != (xs'.length : Int)) = true := by simp [bne]; omega
    have hv2 : B = false := by rw [HV.out, if_pos (.inr hll)]
    have Hhv2 := Lib.hid hv2
    clear hv2
    clear hll
    go_enter Try.func93, Try.ntmps93
    go_wp2
    go_ret
    exact ⟨by rw [Hhv2.out]; rfl, HB.out⟩
  have hbl : ((xs.length : Int) != (xs'.length : Int)) = false := by simp [bne]; omega
  have hv2 : B = likeL (xs.drop 0) (xs'.drop 0) := by rw [HV.out, if_neg (by simp [hll])]; rfl
  have Hhv2 := Lib.hid hv2
  clear hv2
  have HV2 := Hhv2
  have HLL := Lib.hid hll
  clear HV Hhv2 hll
  go_enter Try.func93, Try.ntmps93
  go_wp2
  go_loopw [5, 59] (fun u i wr => ∃ (j : Nat), i = .int .i64 j ∧ j ≤ xs.length ∧ Below w.heap.size w wr ∧ B = likeL (xs.drop j) (xs'.drop j) ∧ wr.cell? ⟨w.heap.size, 5, none⟩ = some (.slice A xs.length cap) ∧ wr.cell? ⟨w.heap.size + 1, 5, none⟩ = some (.slice A' xs'.length cap') ∧ w.heap.size + 2 ≤ wr.heap.size) (fun _ i _ => xs.length - (intOf i).toNat)
  case atStart => exact ⟨0, rfl, Nat.zero_le _, HB.out, HV2.out, by simp [go_sem], by simp [go_sem], by simp⟩
  case round =>
    obtain ⟨j, rfl, hj, hb, hq, q1, q2, q3⟩ := hrel
    by_cases hlt : j < xs.length
    · have hll := HLL.out
      have hx : xs[j]? = some xs[j] := List.getElem?_eq_getElem hlt
      have hy : xs'[j]? = some (xs'[j]'(by omega)) := List.getElem?_eq_getElem (by omega)
      have hmem : xs[j] ∈ xs := List.getElem_mem _
      rw [likeL_drop _ _ _ _ _ hx hy] at hq
      obtain ⟨gb, go, A1, cap1, rfl, hS, g0, g1, g2, g3, g4, g5, hxT⟩ := HA.out j _ hx
      obtain ⟨gb', go', A2, cap2, rfl, hS', l0, l1, l2, l3, l4, l5, hyT⟩ := HA'.out j _ hy
      have IX : LikeS xs[j] := IH.out _ hmem
      generalize xs[j] = x at hq g0 g1 g2 g3 g4 g5 hxT IX
      generalize xs'[j]'(by omega) = y at hq l0 l1 l2 l3 l4 l5 hyT
      have hc : ∀ a v, w.cell? a = some v → wr.cell? a = some v := fun a v h => (hb.cell (World.block_lt_of_cell? w a h)).trans h
      have f0 := hc _ _ g0
      have f1 := hc _ _ g1
      have f2 := hc _ _ g2
      have f3 := hc _ _ g3
      have f4 := hc _ _ g4
      have f5 := hc _ _ g5
      have m0 := hc _ _ l0
      have m1 := hc _ _ l1
      have m2 := hc _ _ l2
      have m3 := hc _ _ l3
      have m4 := hc _ _ l4
      have m5 := hc _ _ l5
      have hbd : Below w.heap.size w wr.drew := hb.drew
      have hcall := IX y wr.drew S S' _ _ (hxT.bel hbd) (hyT.bel hbd)
      have hcall2 : Calls Try.prog 93 #[.agg #[.int .i64 x.k, .string x.s, .int .i64 x.n, .int .u64 x.re, .int .u64 x.im, .slice A1 x.xs.length cap1], .agg #[.int .i64 y.k, .string y.s, .int .i64 y.n, .int .u64 y.re, .int .u64 y.im, .slice A2 y.xs.length cap2]] wr.drew fun e w2 => e = .returned (.bool (likeT x y)) ∧ Hid (Below w.heap.size w w2) ∧ w2.cell? ⟨w.heap.size, 5, none⟩ = some (.slice (some ⟨gb, go, none⟩) xs.length cap) ∧ w2.cell? ⟨w.heap.size + 1, 5, none⟩ = some (.slice (some ⟨gb', go', none⟩) xs'.length cap') ∧ w2.cell? ⟨gb, go + j * 6, none⟩ = some (.int .i64 x.k) ∧ w2.cell? ⟨gb, go + j * 6 + 1, none⟩ = some (.string x.s) ∧ w2.cell? ⟨gb, go + j * 6 + 2, none⟩ = some (.int .i64 x.n) ∧ w2.cell? ⟨gb, go + j * 6 + 3, none⟩ = some (.int .u64 x.re) ∧ w2.cell? ⟨gb, go + j * 6 + 4, none⟩ = some (.int .u64 x.im) ∧ w2.cell? ⟨gb, go + j * 6 + 5, none⟩ = some (.slice A1 x.xs.length cap1) ∧ w2.cell? ⟨gb', go' + j * 6, none⟩ = some (.int .i64 y.k) ∧ w2.cell? ⟨gb', go' + j * 6 + 1, none⟩ = some (.string y.s) ∧ w2.cell? ⟨gb', go' + j * 6 + 2, none⟩ = some (.int .i64 y.n) ∧ w2.cell? ⟨gb', go' + j * 6 + 3, none⟩ = some (.int .u64 y.re) ∧ w2.cell? ⟨gb', go' + j * 6 + 4, none⟩ = some (.int .u64 y.im) ∧ w2.cell? ⟨gb', go' + j * 6 + 5, none⟩ = some (.slice A2 y.xs.length cap2) := by
        refine hcall.mono ?_
        rintro e w2 ⟨h1, h2⟩
        have hp : ∀ a v, wr.cell? a = some v → w2.cell? a = some v := fun a v h => (h2.cell (World.block_lt_of_cell? wr.drew a h)).trans h
        exact ⟨h1, Lib.hid (hbd.trans (h2.mono hbd.size)), hp _ _ q1, hp _ _ q2, hp _ _ f0, hp _ _ f1, hp _ _ f2, hp _ _ f3, hp _ _ f4, hp _ _ f5, hp _ _ m0, hp _ _ m1, hp _ _ m2, hp _ _ m3, hp _ _ m4, hp _ _ m5⟩
      have HC := Lib.hid hcall2
      have hsz2 : wr.heap.size ≤ wr.heap.size := Nat.le_refl _
      have HBD := Lib.hid hbd
      have HQ := Lib.hid hq
      have hsz := hb.size
      have hj' : j < xs'.length := by omega
      clear g0 g1 g2 g3 g4 g5 l0 l1 l2 l3 l4 l5 hc hx hy hmem hxT hyT IX hcall hcall2 hsz2 hbd hb hq hll
      go_wp2_with fail
      go_region_held3 (fun X => X.cell? ⟨w.heap.size, 5, none⟩ = some (.slice (some ⟨gb, go, none⟩) xs.length cap) ∧ X.cell? ⟨w.heap.size + 1, 5, none⟩ = some (.slice (some ⟨gb', go', none⟩) xs'.length cap') ∧ X.cell? ⟨gb, go + j * 6, none⟩ = some (.int .i64 x.k) ∧ X.cell? ⟨gb, go + j * 6 + 1, none⟩ = some (.string x.s) ∧ X.cell? ⟨gb, go + j * 6 + 2, none⟩ = some (.int .i64 x.n) ∧ X.cell? ⟨gb, go + j * 6 + 3, none⟩ = some (.int .u64 x.re) ∧ X.cell? ⟨gb, go + j * 6 + 4, none⟩ = some (.int .u64 x.im) ∧ X.cell? ⟨gb, go + j * 6 + 5, none⟩ = some (.slice A1 x.xs.length cap1) ∧ X.cell? ⟨gb', go' + j * 6, none⟩ = some (.int .i64 y.k) ∧ X.cell? ⟨gb', go' + j * 6 + 1, none⟩ = some (.string y.s) ∧ X.cell? ⟨gb', go' + j * 6 + 2, none⟩ = some (.int .i64 y.n) ∧ X.cell? ⟨gb', go' + j * 6 + 3, none⟩ = some (.int .u64 y.re) ∧ X.cell? ⟨gb', go' + j * 6 + 4, none⟩ = some (.int .u64 y.im) ∧ X.cell? ⟨gb', go' + j * 6 + 5, none⟩ = some (.slice A2 y.xs.length cap2)) (go_keep) (first | (go_at_call 93; refine HC.out.mono ?_; rintro e w2 ⟨rfl, FB, n0, n1, n2, n3, n4, n5, n6, n7, n8, n9, n10, n11, n12, n13⟩))
      clear HC f0 f1 f2 f3 f4 f5 m0 m1 m2 m3 m4 m5 q1 q2 n2 n3 n4 n5 n6 n7 n8 n9 n10 n11 n12 n13
      have hlt2 := World.block_lt_of_cell? w2 _ n1
      simp only at hlt2
      by_cases hlk : likeT x y = true
      · rw [if_pos hlk] at HQ
        rw [hlk]
        clear hlk
        go_wp2
        go_roundw
        case rel => exact ⟨j + 1, by go_num, by omega, FB.out, HQ.out, n0, n1, by omega⟩
        case measure => simp [intOf]; omega
      · rw [if_neg hlk] at HQ
        have hlf : likeT x y = false := by simpa using hlk
        rw [hlf]
        clear hlk hlf
        go_wp2
        go_ret
        exact ⟨by rw [HQ.out]; rfl, FB.out⟩
    · obtain rfl : j = xs.length := by omega
      have hv : B = true := by
        rw [hq, List.drop_length]
        unfold likeL
        rfl
      have HVV := Lib.hid hv
      have HBB := Lib.hid hb
      clear hv hq hb HV2 HB
      go_wp2
      go_ret
      exact ⟨by rw [HVV.out]; rfl, HBB.out⟩
set_option maxRecDepth 100000 in
set_option maxHeartbeats 2000000 in
theorem same_spec {w : World} {S : Blk} {Γ : List Asn} {cs cs' : List Value} {a b : Tm} (hO : Ok w S Γ) (hT : TmC w S cs a) (hT' : TmC w S cs' b) :
    Calls Try.prog 51 #[.agg cs.toArray, .agg cs'.toArray] w fun e w' => e = .returned (.bool (SameT a b)) ∧ To w S w' S Γ := by
  obtain ⟨A, cap, rfl⟩ := hT.form0
  obtain ⟨A', cap', rfl⟩ := hT'.form0
  have h1 := (hO.to.allocPt' #[.int .i64 a.k, .string a.s, .int .i64 a.n, .int .u64 a.re, .int .u64 a.im, .slice A a.xs.length cap] 25 w.heap.size rfl).allocPt' #[.int .i64 b.k, .string b.s, .int .i64 b.n, .int .u64 b.re, .int .u64 b.im, .slice A' b.xs.length cap'] 25 (w.heap.size + 1) (by simp)
  have hm := May_spec h1.ok (hT.to h1)
  have HM := Lib.hid hm
  have HT := Lib.hid (hT.to h1)
  have HT' := Lib.hid (hT'.to h1)
  have H1 := Lib.hid h1
  clear hm hT hT' h1 hO
  obtain ⟨B, hB⟩ : ∃ B, B = SameT a b := ⟨_, rfl⟩
  rw [← hB]
  have HB := Lib.hid hB
  clear hB
  by_cases ha : May a = 0
  case neg =>
    have hb : ((May a : Int) == 0) = false := beq_eq_false_iff_ne.2 (by omega)
    have hv : B = false := by rw [HB.out, SameT]; simp [ha]
    have HV := Lib.hid hv
    clear ha hv
    go_enter Try.func51, Try.ntmps51
    go_wp2_with fail
    refine HM.out.mono ?_
    rintro e w2 ⟨rfl, h2⟩
    have H2 := Lib.hid (H1.out.trans h2)
    clear h2
    go_wp2
    go_ret
    exact ⟨by rw [HV.out]; rfl, H2.out.drop.drop⟩
  rw [ha] at HM
  go_enter Try.func51, Try.ntmps51
  go_wp2_with fail
  refine HM.out.mono ?_
  rintro e w2 ⟨rfl, h2⟩
  have h3 := H1.out.trans h2
  obtain ⟨⟨y0, y1, y2, y3, y4, y5⟩, -, y6⟩ := h3.ok.pt6
  obtain ⟨⟨x0, x1, x2, x3, x4, x5⟩, -, x6⟩ := h3.p1.ok.pt6
  have hm := May_spec h2.ok (HT'.out.to h2)
  have HM2 := Lib.hid hm
  have HT2 := Lib.hid (HT.out.to h2)
  have HT2' := Lib.hid (HT'.out.to h2)
  have H3 := Lib.hid h3
  clear hm h3 h2 H1 HM HT HT'
  by_cases hb0 : May b = 0
  case neg =>
    have hb : ((May b : Int) == 0) = false := beq_eq_false_iff_ne.2 (by omega)
    have hv : B = false := by rw [HB.out, SameT]; simp [hb0]
    have HV := Lib.hid hv
    clear hb0 hv
    go_wp2_with fail
    refine HM2.out.mono ?_
    rintro e w4 ⟨rfl, h2⟩
    have H4 := Lib.hid (H3.out.trans h2)
    clear h2
    go_wp2
    go_ret
    exact ⟨by rw [HV.out]; rfl, H4.out.drop.drop⟩
  rw [hb0] at HM2
  have hv : B = likeT a b := by rw [HB.out, SameT]; simp [ha, hb0]
  have HV := Lib.hid hv
  clear hv ha hb0 HB
  go_wp2_with fail
  refine HM2.out.mono ?_
  rintro e w4 ⟨rfl, h2⟩
  have h4 := H3.out.trans h2
  clear y0 y1 y2 y3 y4 y5 y6 x0 x1 x2 x3 x4 x5 x6
  obtain ⟨⟨y0, y1, y2, y3, y4, y5⟩, -, y6⟩ := h4.ok.pt6
  obtain ⟨⟨x0, x1, x2, x3, x4, x5⟩, -, x6⟩ := h4.p1.ok.pt6
  have hl := like_spec a b w4 S S _ _ (HT2.out.to h2) (HT2'.out.to h2)
  have HL := Lib.hid hl
  have H4 := Lib.hid h4
  clear h4 h2 hl H3 HM2 HT2 HT2'
  go_wp2_with fail
  refine HL.out.mono ?_
  rintro e w5 ⟨rfl, h5⟩
  have H5 := Lib.hid (H4.out.below h5).drop.drop
  clear h5
  go_wp2
  go_ret
  exact ⟨by rw [HV.out]; rfl, H5.out⟩
set_option maxRecDepth 100000 in
set_option maxHeartbeats 2000000 in
/-- Equal, of terms that are equal for these reasons: neither has kind 0, or both are empty. -/
theorem equal_spec {w : World} {S : Blk} {Γ : List Asn} {cs cs' : List Value} {a : Tm} (hO : Ok w S Γ) (hT : TmC w S cs a) (hT' : TmC w S cs' a) (he : EqualT a a = true) :
    Calls Try.prog 49 #[.agg cs.toArray, .agg cs'.toArray] w fun e w' => e = .returned (.bool true) ∧ To w S w' S Γ := by
  obtain ⟨A, cap, rfl⟩ := hT.form0
  obtain ⟨A', cap', rfl⟩ := hT'.form0
  have h1 := (hO.to.allocPt' #[.int .i64 a.k, .string a.s, .int .i64 a.n, .int .u64 a.re, .int .u64 a.im, .slice A a.xs.length cap] 25 w.heap.size rfl).allocPt' #[.int .i64 a.k, .string a.s, .int .i64 a.n, .int .u64 a.re, .int .u64 a.im, .slice A' a.xs.length cap'] 25 (w.heap.size + 1) (by simp)
  have hs := same_spec h1.ok (hT.to h1) (hT'.to h1)
  have H1 := Lib.hid h1
  obtain ⟨k, s, n, re, im, xs⟩ := a
  simp only [Tm.k, Tm.s, Tm.n, Tm.re, Tm.im, Tm.xs] at *
  by_cases h0 : k = 0
  · have hx : xs.length = 0 := by
      unfold EqualT at he
      simp only [Tm.k, Tm.xs, h0, true_or, if_true] at he
      simp at he
      simp [he]
    have hbs : (s.toList == s.toList) = true := by rw [toList_beq]; simp
    subst h0
    rw [hx] at H1 ⊢
    clear he hs h1 hO hT hT' hx
    go_enter Try.func49, Try.ntmps49
    go_wp2
    go_ret
    exact ⟨by simp, H1.out.drop.drop⟩
  · have hb : (k == 0) = false := beq_eq_false_iff_ne.2 h0
    have hss : SameT (.mk k s n re im xs) (.mk k s n re im xs) = true := by
      unfold EqualT at he
      simp only [Tm.k] at he
      rw [if_neg (by simp [h0])] at he
      exact he
    rw [hss] at hs
    have HS := Lib.hid hs
    clear he hs h1 hO hT hT' h0 hss
    go_enter Try.func49, Try.ntmps49
    go_wp2_with fail
    refine HS.out.mono ?_
    rintro e w2 ⟨rfl, h2⟩
    have H2 := Lib.hid (H1.out.trans h2).drop.drop
    clear h2
    go_wp2
    go_ret
    exact ⟨rfl, H2.out⟩
#print axioms equal_spec
end Go.Proofs.Ytceahdlcbiialaa
