/- CopyShares: what its function answers. -/
import Derived.Test.YtceahdlcbiialaaF9M3
import Derived.Test.YtceahdlcbiialaaF10M2
set_option linter.unusedVariables false
set_option linter.unusedSimpArgs false
namespace Go.Proofs.Ytceahdlcbiialaa
open Go.RowKit

abbrev args3 : Array Value := #[.int .i64 1, .string ⟨#[]⟩, .int .i64 0, .int .u64 0, .int .u64 0, .slice none 0 0, .int .i64 1, .string ⟨#[]⟩, .int .i64 0, .int .u64 0, .int .u64 0, .slice none 0 0, .int .i64 1, .string ⟨#[]⟩, .int .i64 0, .int .u64 0, .int .u64 0, .slice none 0 0]
theorem sh_tm {w : World} {S : Blk} {g : Nat} (hS : S g) (hc : w.heap[g]? = some (.cells args3 25 (0, 0))) : TmC w S [.int .i64 5, .string ⟨#[102]⟩, .int .i64 0, .int .u64 0, .int .u64 0, .slice (some ⟨g, 0, none⟩) 3 3] shT := by
  refine TmC.of (t := shT) (A := some ⟨g, 0, none⟩) (cap := 3) ⟨by simp [shT, Tm.k], by simp only [shT, Tm.s]; decide, by simp [shT, Tm.n], by simp [shT, Tm.re], by simp [shT, Tm.im], by simp [shT, Tm.xs]⟩ ?_
  intro i x hx
  have hcell : ∀ (j : Nat) (v : Value), args3[j]? = some v → w.cell? ⟨g, j, none⟩ = some v := by
    intro j v hj
    simp [World.cell?, hc, hj]
  have hlt := (List.getElem?_eq_some_iff.1 hx).1
  simp [shT, Tm.xs] at hlt
  match i, hlt with
  | 0, _ =>
    simp [shT, Tm.xs] at hx
    subst hx
    exact ⟨g, 0, none, 0, rfl, hS, hcell 0 _ rfl, hcell 1 _ rfl, hcell 2 _ rfl, hcell 3 _ rfl, hcell 4 _ rfl, hcell 5 _ rfl, leaf_tm 1 0 _ (by omega) (by decide) (by omega)⟩
  | 1, _ =>
    simp [shT, Tm.xs] at hx
    subst hx
    exact ⟨g, 0, none, 0, rfl, hS, hcell 6 _ rfl, hcell 7 _ rfl, hcell 8 _ rfl, hcell 9 _ rfl, hcell 10 _ rfl, hcell 11 _ rfl, leaf_tm 1 0 _ (by omega) (by decide) (by omega)⟩
  | 2, _ =>
    simp [shT, Tm.xs] at hx
    subst hx
    exact ⟨g, 0, none, 0, rfl, hS, hcell 12 _ rfl, hcell 13 _ rfl, hcell 14 _ rfl, hcell 15 _ rfl, hcell 16 _ rfl, hcell 17 _ rfl, leaf_tm 1 0 _ (by omega) (by decide) (by omega)⟩
def SixAt (w : World) (g o : Nat) (r : Tm) (B : Option Addr) (bc : Nat) : Prop := w.cell? ⟨g, o, none⟩ = some (.int .i64 r.k) ∧ w.cell? ⟨g, o + 1, none⟩ = some (.string r.s) ∧ w.cell? ⟨g, o + 2, none⟩ = some (.int .i64 r.n) ∧ w.cell? ⟨g, o + 3, none⟩ = some (.int .u64 r.re) ∧ w.cell? ⟨g, o + 4, none⟩ = some (.int .u64 r.im) ∧ w.cell? ⟨g, o + 5, none⟩ = some (.slice B r.xs.length bc)
theorem SixAt.kept {w w' : World} {S S' : Blk} {Γ : List Asn} {g o : Nat} {r : Tm} {B : Option Addr} {bc : Nat} (ht : To w S w' S' Γ) (hS : S g) (h : SixAt w g o r B bc) : SixAt w' g o r B bc := by
  have hc : ∀ i v, w.cell? ⟨g, i, none⟩ = some v → w'.cell? ⟨g, i, none⟩ = some v := fun i v h => (World.cell?_of_block (w := w) (ht.kept _ hS)).trans h
  obtain ⟨h0, h1, h2, h3, h4, h5⟩ := h
  exact ⟨hc _ _ h0, hc _ _ h1, hc _ _ h2, hc _ _ h3, hc _ _ h4, hc _ _ h5⟩
theorem kids2 {w : World} {S : Blk} {A : Option Addr} {r : Tm} (h : Kids w S A [r, r, r]) : ∃ g o B0 bc0 B1 bc1, A = some ⟨g, o, none⟩ ∧ S g ∧ SixAt w g o r B0 bc0 ∧ SixAt w g (o + 6) r B1 bc1 ∧
    TmC w S [.int .i64 r.k, .string r.s, .int .i64 r.n, .int .u64 r.re, .int .u64 r.im, .slice B0 r.xs.length bc0] r ∧ TmC w S [.int .i64 r.k, .string r.s, .int .i64 r.n, .int .u64 r.re, .int .u64 r.im, .slice B1 r.xs.length bc1] r := by
  obtain ⟨g, o, B0, bc0, e0, s0, a0, a1, a2, a3, a4, a5, k0⟩ := h 0 r rfl
  obtain ⟨g', o', B1, bc1, e1, s1, b0, b1, b2, b3, b4, b5, k1⟩ := h 1 r rfl
  rw [e0] at e1
  simp only [Option.some.injEq, Addr.mk.injEq, and_true] at e1
  obtain ⟨rfl, rfl⟩ := e1
  simp only [Nat.zero_mul, Nat.add_zero, Nat.one_mul] at a0 a1 a2 a3 a4 a5 b0 b1 b2 b3 b4 b5
  exact ⟨g, o, B0, bc0, B1, bc1, e0, s0, ⟨a0, a1, a2, a3, a4, a5⟩, ⟨b0, b1, b2, b3, b4, b5⟩, k0, k1⟩
set_option maxRecDepth 100000 in
set_option maxHeartbeats 8000000 in
theorem copyShares_spec {w : World} {S : Blk} {Γ : List Asn} {cs : List Value} {t : Tm} (hO : Ok w S Γ) (hT : TmC w S cs t) : Calls Try.prog 11 #[.agg cs.toArray] w fun e w' => e = .returned (.bool true) ∧ To w S w' S Γ := by
  have rt := hT.rngd
  obtain ⟨A, cap, rfl⟩ := hT.form0
  have h2 := hO.to.allocPt' #[.int .i64 t.k, .string t.s, .int .i64 t.n, .int .u64 t.re, .int .u64 t.im, .slice A t.xs.length cap] 25 w.heap.size rfl
  obtain ⟨⟨x0, x1, x2, x3, x4, x5⟩, -, x6⟩ := h2.ok.pt6
  have hm := May_spec h2.ok (hT.to h2)
  have HM := Lib.hid hm
  have H2 := Lib.hid h2
  have HT2 := Lib.hid (hT.to h2)
  have HRT := Lib.hid rt
  clear h2 hT hO rt hm
  by_cases hmt : May t = 0
  case neg =>
    have hmb : ((May t : Int) != 0) = true := by simp [bne]; omega
    clear hmt
    go_enter Try.func11, Try.ntmps11
    go_wp2_with fail
    refine HM.out.mono ?_
    rintro e w2 ⟨rfl, h5⟩
    have H5 := Lib.hid (H2.out.trans h5)
    clear h5
    go_wp2_with fail
    refine (awake10_spec H5.out.ok).mono ?_
    rintro e w9 ⟨rfl, h9⟩
    have H9 := Lib.hid (H5.out.trans h9).drop
    clear h9
    go_wp2
    go_ret
    exact ⟨rfl, H9.out⟩
  rw [hmt] at HM
  have hnb : NodesT t = nodes t := NodesT_eq hmt
  by_cases hnt : nodes t ≤ 300
  case neg =>
    have hg2 : (300 : Int) < (NodesT t : Int) := by omega
    clear hmt hnt hnb
    go_enter Try.func11, Try.ntmps11
    go_wp2_with fail
    refine HM.out.mono ?_
    rintro e w2 ⟨rfl, h5⟩
    have h6 := H2.out.trans h5
    have hnd := Nodes_spec h6.ok (HT2.out.to h5)
    clear x0 x1 x2 x3 x4 x5 x6
    obtain ⟨⟨x0, x1, x2, x3, x4, x5⟩, -, x6⟩ := h6.ok.pt6
    generalize NodesT t = N at hg2 hnd
    have HND := Lib.hid hnd
    have H6 := Lib.hid h6
    clear hnd h6 h5 H2 HT2 HM
    go_wp2_with fail
    refine HND.out.mono ?_
    rintro e w3 ⟨rfl, h7⟩
    have H7 := Lib.hid (H6.out.trans h7)
    clear h7 H6 HND
    go_wp2_with fail
    refine (awake10_spec H7.out.ok).mono ?_
    rintro e w9 ⟨rfl, h9⟩
    have H9 := Lib.hid (H7.out.trans h9).drop
    clear h9
    go_wp2
    go_ret
    exact ⟨rfl, H9.out⟩
  have hg2 : ¬ (300 : Int) < (NodesT t : Int) := by omega
  clear hnb
  have HDP := Lib.hid (fun (w : World) (S : Blk) (Γ : List Asn) (cs : List Value) (h : Ok w S Γ) (hT : TmC w S cs t) => Depth_spec h hT hmt)
  by_cases hdt : depthT t ≤ 400
  case neg =>
    have hg3 : (400 : Int) < (depthT t : Int) := by omega
    clear hmt hnt hdt
    go_enter Try.func11, Try.ntmps11
    go_wp2_with fail
    refine HM.out.mono ?_
    rintro e w2 ⟨rfl, h5⟩
    have h6 := H2.out.trans h5
    have HT6 := Lib.hid (HT2.out.to h5)
    have hnd := Nodes_spec h6.ok HT6.out
    clear x0 x1 x2 x3 x4 x5 x6
    obtain ⟨⟨x0, x1, x2, x3, x4, x5⟩, -, x6⟩ := h6.ok.pt6
    generalize NodesT t = N at hg2 hnd
    have HND := Lib.hid hnd
    have H6 := Lib.hid h6
    clear hnd h6 h5 H2 HT2 HM
    go_wp2_with fail
    refine HND.out.mono ?_
    rintro e w3 ⟨rfl, h7⟩
    have h8 := H6.out.trans h7
    have hdp := HDP.out _ _ _ _ h8.ok (HT6.out.to h7)
    clear x0 x1 x2 x3 x4 x5 x6
    obtain ⟨⟨x0, x1, x2, x3, x4, x5⟩, -, x6⟩ := h8.ok.pt6
    generalize depthT t = D at hg3 hdp
    have HDD := Lib.hid hdp
    have H7 := Lib.hid h8
    clear hdp h8 h7 H6 HND HT6 HDP
    go_wp2_with fail
    refine HDD.out.mono ?_
    rintro e w4 ⟨rfl, h9⟩
    have H8 := Lib.hid (H7.out.trans h9)
    clear h9 H7 HDD
    go_wp2_with fail
    refine (awake10_spec H8.out.ok).mono ?_
    rintro e w9 ⟨rfl, h9⟩
    have H9 := Lib.hid (H8.out.trans h9).drop
    clear h9
    go_wp2
    go_ret
    exact ⟨rfl, H9.out⟩
  have hg3 : ¬ (400 : Int) < (depthT t : Int) := by omega
  obtain ⟨r1, hr1⟩ : ∃ r1, r1 = putP 10000 t ⟨[], names0, []⟩ := ⟨_, rfl⟩
  obtain ⟨r2, hr2⟩ : ∃ r2, r2 = putP 10000 t ⟨[], r1.2.L, []⟩ := ⟨_, rfl⟩
  obtain ⟨r4, hr4⟩ : ∃ r4, r4 = putP 10000 shT ⟨r1.2.C, r1.2.L, [(0, r1.1.1)]⟩ := ⟨_, rfl⟩
  obtain ⟨K5, ⟨a1, a2, a4⟩, ⟨q1, q4⟩, c1, c4, le1, le2, g4⟩ := shares_pure hmt HRT.out hnt hdt hr1 hr2 hr4
  obtain ⟨r, hr⟩ : ∃ r, r = renT t := ⟨_, rfl⟩
  have hvr := variant_ren hmt
  have hsr := same_ren hmt
  rw [← hr] at hvr hsr g4
  have HVR := Lib.hid hvr
  have HSR := Lib.hid hsr
  clear hr2 hmt hnt hdt HRT hvr hsr hr
  have HR1 := Lib.hid hr1
  have HR4 := Lib.hid hr4
  clear hr1 hr4
  obtain ⟨⟨k1, e1⟩, ⟨C1, L1, V1⟩⟩ := r1
  obtain ⟨⟨k2, e2⟩, ⟨C2, L2, V2⟩⟩ := r2
  obtain ⟨⟨k4, e4⟩, ⟨C4, L4, V4⟩⟩ := r4
  simp only at a1 a2 a4 q1 q4 c1 c4 le1 le2 g4 HR1 HR4
  subst a1 a2 a4
  have HC1 := Lib.hid c1
  have HC4 := Lib.hid c4
  have HG4 := Lib.hid g4
  clear c1 c4 g4
  go_enter Try.func11, Try.ntmps11
  go_wp2_with fail
  refine HM.out.mono ?_
  rintro e w2 ⟨rfl, h5⟩
  have h6 := H2.out.trans h5
  have HT6 := Lib.hid (HT2.out.to h5)
  have hnd := Nodes_spec h6.ok HT6.out
  clear x0 x1 x2 x3 x4 x5 x6
  obtain ⟨⟨x0, x1, x2, x3, x4, x5⟩, -, x6⟩ := h6.ok.pt6
  generalize NodesT t = N at hg2 hnd
  have HND := Lib.hid hnd
  have H6 := Lib.hid h6
  clear hnd h6 h5 H2 HT2 HM
  go_wp2_with fail
  refine HND.out.mono ?_
  rintro e w3 ⟨rfl, h7⟩
  have h8 := H6.out.trans h7
  have HT7 := Lib.hid (HT6.out.to h7)
  have hdp := HDP.out _ _ _ _ h8.ok HT7.out
  clear x0 x1 x2 x3 x4 x5 x6
  obtain ⟨⟨x0, x1, x2, x3, x4, x5⟩, -, x6⟩ := h8.ok.pt6
  generalize depthT t = D at hg3 hdp
  have HDD := Lib.hid hdp
  have H7 := Lib.hid h8
  clear hdp h8 h7 H6 HND HT6 HDP
  go_wp2_with fail
  refine HDD.out.mono ?_
  rintro e w4 ⟨rfl, h9⟩
  have H8 := Lib.hid (H7.out.trans h9)
  have HT8 := Lib.hid (HT7.out.to h9)
  clear x0 x1 x2 x3 x4 x5 x6 h9 H7 HDD HT7
  go_wp2_with fail
  refine (new_spec H8.out.ok 10000 10000 rfl (by omega)).mono ?_
  rintro e w5 ⟨h, rfl, h9⟩
  have H9 := Lib.hid (H8.out.trans h9)
  have HT9 := Lib.hid (HT8.out.to h9)
  clear h9 H8 HT8
  go_wp2_with fail
  refine (anew_spec H9.out.ok).mono ?_
  rintro e w6 ⟨a, rfl, h10⟩
  have h10b := (H9.out.trans h10).p1
  have HT10 := Lib.hid (HT9.out.to h10)
  obtain ⟨⟨x0, x1, x2, x3, x4, x5⟩, -, x6⟩ := h10b.ok.p2.pt6
  have hput := put_nil h10b.ok HT10.out
  rw [← HR1.out] at hput
  have HP := Lib.hid hput
  have H10 := Lib.hid h10b
  clear h10 h10b hput H9 HT9 HR1
  go_wp2_with fail
  refine HP.out.mono ?_
  rintro e w7 ⟨rfl, h11⟩
  have H11 := Lib.hid (show To w S w7 S (HeapA h 10000 C1 :: AtomsA a L1 :: _) from H10.out.trans h11)
  have HT11 := Lib.hid (HT10.out.to h11)
  clear x0 x1 x2 x3 x4 x5 x6 h11 H10 HT10 HP
  go_wp2_with fail
  refine (new_spec H11.out.ok 10000 10000 rfl (by omega)).mono ?_
  rintro e w8 ⟨k, rfl, h12⟩
  have h12b := H11.out.trans h12
  have HT12 := Lib.hid (HT11.out.to h12)
  have hcp := copyTerm_spec (X := Src.other k h 10000 10000 C1) (K := []) h12b.ok k1 q1 rfl
  rw [show copyP (Src.other k h 10000 10000 C1).src (Src.other k h 10000 10000 C1).most k1 [] = finC (fun _ => C1) 10000 [⟨k1, -1, false⟩] 0 ⟨[], [], 0⟩ from rfl, HC1.out.1, HC1.out.2] at hcp
  have HCP := Lib.hid hcp
  have H12 := Lib.hid h12b
  clear hcp h12b h12 H11 HT11 HC1
  go_wp2_with fail
  refine HCP.out.mono ?_
  rintro e w9 ⟨rfl, h13⟩
  have h13b := (show To w S w9 S (HeapA k 10000 C2 :: HeapA h 10000 C1 :: AtomsA a L1 :: _) from H12.out.trans h13)
  have HT13 := Lib.hid (HT12.out.to h13)
  have hlk := len_spec h13b.ok.heapAR
  have HLK := Lib.hid hlk
  have H13 := Lib.hid h13b
  have hal := h13b.allocMap' (enc := Value.int .i64) (val := fun c : Nat => Value.int .u64 (c : Int)) w9.heap.size rfl
  have HT14 := Lib.hid (HT13.out.to (h13b.ok.to.allocMap (enc := Value.int .i64) (val := fun c : Nat => Value.int .u64 (c : Int))))
  have HAL := Lib.hid hal
  have hmm := @run_makeMap Try.prog
  clear hal hlk h13b h13 H12 HT12 HCP
  go_wp2_with fail
  refine HLK.out.mono ?_
  rintro e w' ⟨rfl, hww⟩
  subst w'
  clear HLK
  go_wp2_with (refine wpList_mapInsert (val := fun c : Nat => Value.int .u64 (c : Int)) rfl (.tmp 55) (.const (.int .i64 0)) (.tmp 56) 52 rfl HAL.out.ok.to (key_int .i64) Try.underlying52 Try.underlying2 0 k1 rfl rfl rfl ?_)
  intro w10 h14
  have HT15 := Lib.hid (HT14.out.to h14)
  have H14 := Lib.hid (show To w S w10 S (VarsA w9.heap.size [(0, k1)] :: HeapA k 10000 C2 :: HeapA h 10000 C1 :: AtomsA a L1 :: _) from HAL.out.trans h14)
  clear h14 HAL HT14 HT13 H13
  generalize w9.heap.size = m at H14 ⊢
  go_wp2_with fail
  refine (Var_spec 0 _).mono ?_
  rintro e w11 ⟨rfl, hB⟩
  have HT16 := Lib.hid (HT15.out.to (H14.out.ok.below hB))
  have H15 := Lib.hid (H14.out.below hB)
  clear hB H14 HT15
  go_wp2_with fail
  refine (Var_spec 0 _).mono ?_
  rintro e w12 ⟨rfl, hB⟩
  have HT17 := Lib.hid (HT16.out.to (H15.out.ok.below hB))
  have H16 := Lib.hid (H15.out.below hB)
  clear hB H15 HT16
  go_wp2_with fail
  refine (Var_spec 0 _).mono ?_
  rintro e w13 ⟨rfl, hB⟩
  have HT18 := HT17.out.to (H16.out.ok.below hB)
  have h17 := H16.out.below hB
  have ha := h17.ok.to.allocPt' args3 25 w13.heap.size rfl
  have hg := ha.ok.ptHeap
  have hs := ha.trans ha.ok.seal1
  obtain ⟨S2, hS2⟩ : ∃ S2 : Blk, S2 = fun x => S x ∨ x = w13.heap.size := ⟨_, rfl⟩
  rw [← hS2] at hs
  have HS2 := Lib.hid (show S2 w13.heap.size by rw [hS2]; exact .inr rfl)
  have HGG := Lib.hid hg
  have HT19 := Lib.hid (HT18.to hs)
  have H18 := Lib.hid (h17.trans hs)
  clear hB h17 ha hg hs hS2 H16 HT17 HT18
  go_wp2_with fail
  refine (Comp_spec _ _ _ _ _).mono ?_
  rintro e w14 ⟨rfl, hB⟩
  have hb := H18.out.ok.below hB
  have hT := sh_tm HS2.out ((hb.kept _ HS2.out).trans HGG.out)
  have HT20 := Lib.hid (HT19.out.to hb)
  have h19 := (H18.out.trans hb).p3.p3
  have hput := put_map_spec h19.ok hT (fun x hx => by simp at hx; subst hx; exact q1)
  rw [← HR4.out] at hput
  have HP := Lib.hid hput
  have H19 := Lib.hid h19
  clear hB hb hT hput h19 H18 HS2 HGG HT19
  go_wp2_with fail
  refine HP.out.mono ?_
  rintro e w15 ⟨rfl, h20⟩
  have HT21 := Lib.hid (HT20.out.to h20)
  have H20 := Lib.hid (show To w S w15 S2 (HeapA h 10000 C4 :: AtomsA a L4 :: VarsA m V4 :: _) from H19.out.trans h20)
  clear h20 H19 HP HT20
  go_wp2_with fail
  refine (new_spec H20.out.ok 10000 10000 rfl (by omega)).mono ?_
  rintro e w16 ⟨l, rfl, h21⟩
  have h21b := H20.out.trans h21
  have HT22 := Lib.hid (HT21.out.to h21)
  have hcp := copyTerm_spec (X := Src.other l h 10000 10000 C4) (K := []) h21b.ok k4 q4 rfl
  rw [show copyP (Src.other l h 10000 10000 C4).src (Src.other l h 10000 10000 C4).most k4 [] = finC (fun _ => C4) 10000 [⟨k4, -1, false⟩] 0 ⟨[], [], 0⟩ from rfl, HC4.out.1, HC4.out.2] at hcp
  have HCP := Lib.hid hcp
  have H21 := Lib.hid h21b
  clear hcp h21b h21 H20 HT21 HC4
  go_wp2_with fail
  refine HCP.out.mono ?_
  rintro e w17 ⟨rfl, h22⟩
  have h22b := (show To w S w17 S2 (HeapA l 10000 K5 :: HeapA h 10000 C4 :: AtomsA a L4 :: _) from H21.out.trans h22).p2.p1
  have HT23 := Lib.hid (HT22.out.to h22)
  have hget := get_nil h22b.ok (mkc 1 0) (mkc_lt 1 0 (by omega) (by omega)) rfl
  rw [HG4.out] at hget
  have HG := Lib.hid hget
  have H22 := Lib.hid h22b
  clear hget h22b h22 H21 HT22 HCP
  go_wp2_with fail
  refine HG.out.mono ?_
  rintro e w20 ⟨tc, S8, hq, rfl, h23, hk⟩
  obtain ⟨⟨k0, sx, n, re, im, xs⟩, A1, cp⟩ := tc
  simp only [Tc.six, Tm.k_mk, Tm.s_mk, Tm.n_mk, Tm.re_mk, Tm.im_mk, Tm.xs_mk] at hk
  simp only [Tm.mk.injEq] at hq
  obtain ⟨rfl, rfl, rfl, rfl, rfl, rfl⟩ := hq
  simp only [List.length_cons, List.length_nil, Nat.zero_add, Nat.reduceAdd] at hk
  obtain ⟨A9, cap9, e9, -, hkids⟩ := hk.form
  simp only [Tm.k_mk, Tm.s_mk, Tm.n_mk, Tm.re_mk, Tm.im_mk, Tm.xs_mk, List.length_cons, List.length_nil, Nat.zero_add, Nat.reduceAdd, List.cons.injEq, Value.slice.injEq, and_true, true_and] at e9 hkids
  obtain ⟨rfl, rfl⟩ := e9
  obtain ⟨g, o, B0, bc0, B1, bc1, rfl, hsg, ha6, hb6, hk0, hk1⟩ := kids2 hkids
  have ha := h23.ok.to.allocPt' #[.int .i64 5, .string ⟨#[102]⟩, .int .i64 0, .int .u64 0, .int .u64 0, .slice (some ⟨g, o, none⟩) 3 cp] 25 w20.heap.size rfl
  have h24 := ((H22.out.trans h23).trans ha).drew
  have HSg := Lib.hid hsg
  have HA21 := Lib.hid (SixAt.kept (S := S8) ha.drew hsg ha6)
  have HB21 := Lib.hid (SixAt.kept (S := S8) ha.drew hsg hb6)
  have HT21 := Lib.hid (((HT23.out.to h23).to ha).drewN 1)
  have HK21 := Lib.hid ((hk0.to ha).drewN 1)
  have HL21 := Lib.hid ((hk1.to ha).drewN 1)
  obtain ⟨⟨x0, x1, x2, x3, x4, x5⟩, -, x6⟩ := h24.ok.drop.drop.drop.p3.pt6
  obtain ⟨⟨-, -, -, -, -, u5⟩, -, u6⟩ := h24.ok.pt6
  obtain ⟨a0, a1, a2, a3, a4, a5⟩ := HA21.out
  obtain ⟨b0, b1, b2, b3, b4, b5⟩ := HB21.out
  have hln := len_spec h24.ok.p1.heapAR
  have HLN := Lib.hid hln
  have hvs := variant_spec h24.ok HK21.out HT21.out HVR.out
  have HVS := Lib.hid hvs
  have H21 := Lib.hid h24
  clear h23 ha h24 hk hkids hsg ha6 hb6 hk0 hk1 hln hvs H22 HT23 HG
  simp only [Tc.six, Tm.k_mk, Tm.s_mk, Tm.n_mk, Tm.re_mk, Tm.im_mk, Tm.xs_mk, List.length_cons, List.length_nil, Nat.zero_add, Nat.reduceAdd]
  have hle : (K5.length : Int) ≤ (C2.length : Int) + 4 := by omega
  have e8 : IntKind.i64.wrap ((C2.length : Int) + 4) = (C2.length : Int) + 4 := IntWalk.i64_in _ ⟨by omega, by omega⟩
  go_wp2_with fail
  refine wp_region_held_drew (S := fun X => X.cell? ⟨w.heap.size, 0, none⟩ = some (.int .i64 t.k) ∧ X.cell? ⟨w.heap.size, 1, none⟩ = some (.string t.s) ∧ X.cell? ⟨w.heap.size, 2, none⟩ = some (.int .i64 t.n) ∧ X.cell? ⟨w.heap.size, 3, none⟩ = some (.int .u64 t.re) ∧ X.cell? ⟨w.heap.size, 4, none⟩ = some (.int .u64 t.im) ∧ X.cell? ⟨w.heap.size, 5, none⟩ = some (.slice A t.xs.length cap) ∧ X.cell? ⟨w20.heap.size, 5, none⟩ = some (.slice (some ⟨g, o, none⟩) 3 cp) ∧ X.cell? ⟨g, o, none⟩ = some (.int .i64 r.k) ∧ X.cell? ⟨g, o + 1, none⟩ = some (.string r.s) ∧ X.cell? ⟨g, o + 2, none⟩ = some (.int .i64 r.n) ∧ X.cell? ⟨g, o + 3, none⟩ = some (.int .u64 r.re) ∧ X.cell? ⟨g, o + 4, none⟩ = some (.int .u64 r.im) ∧ X.cell? ⟨g, o + 5, none⟩ = some (.slice B0 r.xs.length bc0) ∧ X.cell? ⟨g, o + 6, none⟩ = some (.int .i64 r.k) ∧ X.cell? ⟨g, o + 7, none⟩ = some (.string r.s) ∧ X.cell? ⟨g, o + 8, none⟩ = some (.int .i64 r.n) ∧ X.cell? ⟨g, o + 9, none⟩ = some (.int .u64 r.re) ∧ X.cell? ⟨g, o + 10, none⟩ = some (.int .u64 r.im) ∧ X.cell? ⟨g, o + 11, none⟩ = some (.slice B1 r.xs.length bc1)) (by kernel_rfl) (⟨x0, x1, x2, x3, x4, x5, u5, a0, a1, a2, a3, a4, a5, b0, b1, b2, b3, b4, b5⟩) (fun hS => ?_)
  refine takeH (v := ?_) 0 91 rfl rfl (by kernel_rfl) (by kernel_rfl) (by kernel_rfl) (fun _ _ _ h => h) (by rfl) hS ?_ ?_
  rotate_left
  · intro X hX; obtain ⟨x0, x1, x2, x3, x4, x5, u5, a0, a1, a2, a3, a4, a5, b0, b1, b2, b3, b4, b5⟩ := hX; go_simp; first | done | rfl
  simp only [List.setIfInBounds_toArray, List.set_cons_zero, List.set_cons_succ]
  refine takeH (v := ?_) 1 92 rfl rfl (by kernel_rfl) (by kernel_rfl) (by kernel_rfl) (fun _ _ _ h => h) (by rfl) hS ?_ ?_
  rotate_left
  · intro X hX; obtain ⟨x0, x1, x2, x3, x4, x5, u5, a0, a1, a2, a3, a4, a5, b0, b1, b2, b3, b4, b5⟩ := hX; go_simp; first | done | rfl
  simp only [List.setIfInBounds_toArray, List.set_cons_zero, List.set_cons_succ]
  refine takeH (v := ?_) 2 93 rfl rfl (by kernel_rfl) (by kernel_rfl) (by kernel_rfl) (fun _ _ _ h => h) (by rfl) hS ?_ ?_
  rotate_left
  · intro X hX; obtain ⟨x0, x1, x2, x3, x4, x5, u5, a0, a1, a2, a3, a4, a5, b0, b1, b2, b3, b4, b5⟩ := hX; go_simp; first | done | rfl
  simp only [List.setIfInBounds_toArray, List.set_cons_zero, List.set_cons_succ]
  refine takeH (v := ?_) 3 94 rfl rfl (by kernel_rfl) (by kernel_rfl) (by kernel_rfl) (fun _ _ _ h => h) (by rfl) hS ?_ ?_
  rotate_left
  · intro X hX; obtain ⟨x0, x1, x2, x3, x4, x5, u5, a0, a1, a2, a3, a4, a5, b0, b1, b2, b3, b4, b5⟩ := hX; go_simp; first | done | rfl
  simp only [List.setIfInBounds_toArray, List.set_cons_zero, List.set_cons_succ]
  refine takeH (v := ?_) 5 96 rfl rfl (by kernel_rfl) (by kernel_rfl) (by kernel_rfl) (fun _ _ _ h => h) (by rfl) hS ?_ ?_
  rotate_left
  · intro X hX; obtain ⟨x0, x1, x2, x3, x4, x5, u5, a0, a1, a2, a3, a4, a5, b0, b1, b2, b3, b4, b5⟩ := hX; go_simp; first | done | rfl
  simp only [List.setIfInBounds_toArray, List.set_cons_zero, List.set_cons_succ]
  refine takeH (v := ?_) 6 97 rfl rfl (by kernel_rfl) (by kernel_rfl) (by kernel_rfl) (fun _ _ _ h => h) (by rfl) hS ?_ ?_
  rotate_left
  · intro X hX; obtain ⟨x0, x1, x2, x3, x4, x5, u5, a0, a1, a2, a3, a4, a5, b0, b1, b2, b3, b4, b5⟩ := hX; go_simp; first | done | rfl
  simp only [List.setIfInBounds_toArray, List.set_cons_zero, List.set_cons_succ]
  refine wpAnyH_ready (rs := [4]) (by kernel_rfl) (by simp) ?_
  refine AllReadyH.cons rfl (fun K hK => ?_) AllReadyH.nil
  go_simp
  go_at_call 31
  refine HLN.out.mono ?_
  rintro e w22 ⟨rfl, hww⟩
  subst w22
  go_wp2
  refine Shut.out hK _ _ (⟨x0, x1, x2, x3, x4, x5, u5, a0, a1, a2, a3, a4, a5, b0, b1, b2, b3, b4, b5⟩) (fun hS => ?_)
  clear hK K
  try simp only [Act.put, List.setIfInBounds_toArray, List.set_cons_zero, List.set_cons_succ]
  refine takeH (v := ?_) 7 98 rfl rfl (by kernel_rfl) (by kernel_rfl) (by kernel_rfl) (fun _ _ _ h => h) (by rfl) hS ?_ ?_
  rotate_left
  · intro X hX; obtain ⟨x0, x1, x2, x3, x4, x5, u5, a0, a1, a2, a3, a4, a5, b0, b1, b2, b3, b4, b5⟩ := hX; go_simp; first | done | rfl
  simp only [List.setIfInBounds_toArray, List.set_cons_zero, List.set_cons_succ]
  refine takeH (v := ?_) 8 99 rfl rfl (by kernel_rfl) (by kernel_rfl) (by kernel_rfl) (fun _ _ _ h => h) (by rfl) hS ?_ ?_
  rotate_left
  · intro X hX; obtain ⟨x0, x1, x2, x3, x4, x5, u5, a0, a1, a2, a3, a4, a5, b0, b1, b2, b3, b4, b5⟩ := hX; go_simp; first | done | rfl
  simp only [List.setIfInBounds_toArray, List.set_cons_zero, List.set_cons_succ]
  refine takeH (v := ?_) 9 100 rfl rfl (by kernel_rfl) (by kernel_rfl) (by kernel_rfl) (fun _ _ _ h => h) (by rfl) hS ?_ ?_
  rotate_left
  · intro X hX; obtain ⟨x0, x1, x2, x3, x4, x5, u5, a0, a1, a2, a3, a4, a5, b0, b1, b2, b3, b4, b5⟩ := hX; go_simp; first | done | rfl
  simp only [List.setIfInBounds_toArray, List.set_cons_zero, List.set_cons_succ]
  refine takeH (v := ?_) 10 101 rfl rfl (by kernel_rfl) (by kernel_rfl) (by kernel_rfl) (fun _ _ _ h => h) (by rfl) hS ?_ ?_
  rotate_left
  · intro X hX; obtain ⟨x0, x1, x2, x3, x4, x5, u5, a0, a1, a2, a3, a4, a5, b0, b1, b2, b3, b4, b5⟩ := hX; go_simp; first | done | rfl
  simp only [List.setIfInBounds_toArray, List.set_cons_zero, List.set_cons_succ]
  refine takeH (v := ?_) 11 102 rfl rfl (by kernel_rfl) (by kernel_rfl) (by kernel_rfl) (fun _ _ _ h => h) (by rfl) hS ?_ ?_
  rotate_left
  · intro X hX; obtain ⟨x0, x1, x2, x3, x4, x5, u5, a0, a1, a2, a3, a4, a5, b0, b1, b2, b3, b4, b5⟩ := hX; go_simp; first | done | rfl
  simp only [List.setIfInBounds_toArray, List.set_cons_zero, List.set_cons_succ]
  refine takeH (v := ?_) 12 103 rfl rfl (by kernel_rfl) (by kernel_rfl) (by kernel_rfl) (fun _ _ _ h => h) (by rfl) hS ?_ ?_
  rotate_left
  · intro X hX; obtain ⟨x0, x1, x2, x3, x4, x5, u5, a0, a1, a2, a3, a4, a5, b0, b1, b2, b3, b4, b5⟩ := hX; go_simp; first | done | rfl
  simp only [List.setIfInBounds_toArray, List.set_cons_zero, List.set_cons_succ]
  refine takeH (v := ?_) 13 104 rfl rfl (by kernel_rfl) (by kernel_rfl) (by kernel_rfl) (fun _ _ _ h => h) (by rfl) hS ?_ ?_
  rotate_left
  · intro X hX; obtain ⟨x0, x1, x2, x3, x4, x5, u5, a0, a1, a2, a3, a4, a5, b0, b1, b2, b3, b4, b5⟩ := hX; go_simp; first | done | rfl
  simp only [List.setIfInBounds_toArray, List.set_cons_zero, List.set_cons_succ]
  refine takeH (v := ?_) 14 105 rfl rfl (by kernel_rfl) (by kernel_rfl) (by kernel_rfl) (fun _ _ _ h => h) (by rfl) hS ?_ ?_
  rotate_left
  · intro X hX; obtain ⟨x0, x1, x2, x3, x4, x5, u5, a0, a1, a2, a3, a4, a5, b0, b1, b2, b3, b4, b5⟩ := hX; go_simp; first | done | rfl
  simp only [List.setIfInBounds_toArray, List.set_cons_zero, List.set_cons_succ]
  refine takeH (v := ?_) 15 106 rfl rfl (by kernel_rfl) (by kernel_rfl) (by kernel_rfl) (fun _ _ _ h => h) (by rfl) hS ?_ ?_
  rotate_left
  · intro X hX; obtain ⟨x0, x1, x2, x3, x4, x5, u5, a0, a1, a2, a3, a4, a5, b0, b1, b2, b3, b4, b5⟩ := hX; go_simp; first | done | rfl
  simp only [List.setIfInBounds_toArray, List.set_cons_zero, List.set_cons_succ]
  refine takeH (v := ?_) 16 107 rfl rfl (by kernel_rfl) (by kernel_rfl) (by kernel_rfl) (fun _ _ _ h => h) (by rfl) hS ?_ ?_
  rotate_left
  · intro X hX; obtain ⟨x0, x1, x2, x3, x4, x5, u5, a0, a1, a2, a3, a4, a5, b0, b1, b2, b3, b4, b5⟩ := hX; go_simp; first | done | rfl
  simp only [List.setIfInBounds_toArray, List.set_cons_zero, List.set_cons_succ]
  refine takeH (v := ?_) 17 108 rfl rfl (by kernel_rfl) (by kernel_rfl) (by kernel_rfl) (fun _ _ _ h => h) (by rfl) hS ?_ ?_
  rotate_left
  · intro X hX; obtain ⟨x0, x1, x2, x3, x4, x5, u5, a0, a1, a2, a3, a4, a5, b0, b1, b2, b3, b4, b5⟩ := hX; go_simp; first | done | rfl
  simp only [List.setIfInBounds_toArray, List.set_cons_zero, List.set_cons_succ]
  refine takeH (v := ?_) 18 109 rfl rfl (by kernel_rfl) (by kernel_rfl) (by kernel_rfl) (fun _ _ _ h => h) (by rfl) hS ?_ ?_
  rotate_left
  · intro X hX; obtain ⟨x0, x1, x2, x3, x4, x5, u5, a0, a1, a2, a3, a4, a5, b0, b1, b2, b3, b4, b5⟩ := hX; go_simp; first | done | rfl
  simp only [List.setIfInBounds_toArray, List.set_cons_zero, List.set_cons_succ]
  refine takeH (v := ?_) 19 110 rfl rfl (by kernel_rfl) (by kernel_rfl) (by kernel_rfl) (fun _ _ _ h => h) (by rfl) hS ?_ ?_
  rotate_left
  · intro X hX; obtain ⟨x0, x1, x2, x3, x4, x5, u5, a0, a1, a2, a3, a4, a5, b0, b1, b2, b3, b4, b5⟩ := hX; go_simp; first | done | rfl
  simp only [List.setIfInBounds_toArray, List.set_cons_zero, List.set_cons_succ]
  refine takeH (v := ?_) 20 111 rfl rfl (by kernel_rfl) (by kernel_rfl) (by kernel_rfl) (fun _ _ _ h => h) (by rfl) hS ?_ ?_
  rotate_left
  · intro X hX; obtain ⟨x0, x1, x2, x3, x4, x5, u5, a0, a1, a2, a3, a4, a5, b0, b1, b2, b3, b4, b5⟩ := hX; go_simp; first | done | rfl
  simp only [List.setIfInBounds_toArray, List.set_cons_zero, List.set_cons_succ]
  refine wpAnyH_ready (rs := [21]) (by kernel_rfl) (by simp) ?_
  refine AllReadyH.cons rfl (fun K hK => ?_) AllReadyH.nil
  go_simp
  go_at_call 43
  refine HVS.out.mono ?_
  rintro e w22 ⟨rfl, h22⟩
  have h22b := H21.out.trans h22
  clear x0 x1 x2 x3 x4 x5 u5 a0 a1 a2 a3 a4 a5 b0 b1 b2 b3 b4 b5 x6 u6
  obtain ⟨⟨x0, x1, x2, x3, x4, x5⟩, -, x6⟩ := h22b.ok.drop.drop.drop.p3.pt6
  obtain ⟨⟨-, -, -, -, -, u5⟩, -, u6⟩ := h22b.ok.pt6
  have HA22 := Lib.hid (SixAt.kept h22 HSg.out HA21.out)
  have HB22 := Lib.hid (SixAt.kept h22 HSg.out HB21.out)
  obtain ⟨a0, a1, a2, a3, a4, a5⟩ := HA22.out
  obtain ⟨b0, b1, b2, b3, b4, b5⟩ := HB22.out
  have HT22 := Lib.hid (HT21.out.to h22)
  have HK22 := Lib.hid (HK21.out.to h22)
  have HL22 := Lib.hid (HL21.out.to h22)
  have hsm := same_spec h22b.ok HK22.out HL22.out
  rw [HSR.out] at hsm
  have HSM := Lib.hid hsm
  have H22 := Lib.hid h22b
  clear hsm h22b h22
  go_wp2
  refine Shut.out hK _ _ (⟨x0, x1, x2, x3, x4, x5, u5, a0, a1, a2, a3, a4, a5, b0, b1, b2, b3, b4, b5⟩) (fun hS => ?_)
  clear hK K
  try simp only [Act.put, List.setIfInBounds_toArray, List.set_cons_zero, List.set_cons_succ]
  refine takeH (v := ?_) 22 113 rfl rfl (by kernel_rfl) (by kernel_rfl) (by kernel_rfl) (fun _ _ _ h => h) (by rfl) hS ?_ ?_
  rotate_left
  · intro X hX; obtain ⟨x0, x1, x2, x3, x4, x5, u5, a0, a1, a2, a3, a4, a5, b0, b1, b2, b3, b4, b5⟩ := hX; go_simp; first | done | rfl
  simp only [List.setIfInBounds_toArray, List.set_cons_zero, List.set_cons_succ]
  refine takeH (v := ?_) 23 114 rfl rfl (by kernel_rfl) (by kernel_rfl) (by kernel_rfl) (fun _ _ _ h => h) (by rfl) hS ?_ ?_
  rotate_left
  · intro X hX; obtain ⟨x0, x1, x2, x3, x4, x5, u5, a0, a1, a2, a3, a4, a5, b0, b1, b2, b3, b4, b5⟩ := hX; go_simp; first | done | rfl
  simp only [List.setIfInBounds_toArray, List.set_cons_zero, List.set_cons_succ]
  refine takeH (v := ?_) 24 115 rfl rfl (by kernel_rfl) (by kernel_rfl) (by kernel_rfl) (fun _ _ _ h => h) (by rfl) hS ?_ ?_
  rotate_left
  · intro X hX; obtain ⟨x0, x1, x2, x3, x4, x5, u5, a0, a1, a2, a3, a4, a5, b0, b1, b2, b3, b4, b5⟩ := hX; go_simp; first | done | rfl
  simp only [List.setIfInBounds_toArray, List.set_cons_zero, List.set_cons_succ]
  refine takeH (v := ?_) 25 116 rfl rfl (by kernel_rfl) (by kernel_rfl) (by kernel_rfl) (fun _ _ _ h => h) (by rfl) hS ?_ ?_
  rotate_left
  · intro X hX; obtain ⟨x0, x1, x2, x3, x4, x5, u5, a0, a1, a2, a3, a4, a5, b0, b1, b2, b3, b4, b5⟩ := hX; go_simp; first | done | rfl
  simp only [List.setIfInBounds_toArray, List.set_cons_zero, List.set_cons_succ]
  refine takeH (v := ?_) 26 117 rfl rfl (by kernel_rfl) (by kernel_rfl) (by kernel_rfl) (fun _ _ _ h => h) (by rfl) hS ?_ ?_
  rotate_left
  · intro X hX; obtain ⟨x0, x1, x2, x3, x4, x5, u5, a0, a1, a2, a3, a4, a5, b0, b1, b2, b3, b4, b5⟩ := hX; go_simp; first | done | rfl
  simp only [List.setIfInBounds_toArray, List.set_cons_zero, List.set_cons_succ]
  refine takeH (v := ?_) 27 118 rfl rfl (by kernel_rfl) (by kernel_rfl) (by kernel_rfl) (fun _ _ _ h => h) (by rfl) hS ?_ ?_
  rotate_left
  · intro X hX; obtain ⟨x0, x1, x2, x3, x4, x5, u5, a0, a1, a2, a3, a4, a5, b0, b1, b2, b3, b4, b5⟩ := hX; go_simp; first | done | rfl
  simp only [List.setIfInBounds_toArray, List.set_cons_zero, List.set_cons_succ]
  refine takeH (v := ?_) 28 119 rfl rfl (by kernel_rfl) (by kernel_rfl) (by kernel_rfl) (fun _ _ _ h => h) (by rfl) hS ?_ ?_
  rotate_left
  · intro X hX; obtain ⟨x0, x1, x2, x3, x4, x5, u5, a0, a1, a2, a3, a4, a5, b0, b1, b2, b3, b4, b5⟩ := hX; go_simp; first | done | rfl
  simp only [List.setIfInBounds_toArray, List.set_cons_zero, List.set_cons_succ]
  refine takeH (v := ?_) 29 120 rfl rfl (by kernel_rfl) (by kernel_rfl) (by kernel_rfl) (fun _ _ _ h => h) (by rfl) hS ?_ ?_
  rotate_left
  · intro X hX; obtain ⟨x0, x1, x2, x3, x4, x5, u5, a0, a1, a2, a3, a4, a5, b0, b1, b2, b3, b4, b5⟩ := hX; go_simp; first | done | rfl
  simp only [List.setIfInBounds_toArray, List.set_cons_zero, List.set_cons_succ]
  refine takeH (v := ?_) 30 121 rfl rfl (by kernel_rfl) (by kernel_rfl) (by kernel_rfl) (fun _ _ _ h => h) (by rfl) hS ?_ ?_
  rotate_left
  · intro X hX; obtain ⟨x0, x1, x2, x3, x4, x5, u5, a0, a1, a2, a3, a4, a5, b0, b1, b2, b3, b4, b5⟩ := hX; go_simp; first | done | rfl
  simp only [List.setIfInBounds_toArray, List.set_cons_zero, List.set_cons_succ]
  refine takeH (v := ?_) 31 122 rfl rfl (by kernel_rfl) (by kernel_rfl) (by kernel_rfl) (fun _ _ _ h => h) (by rfl) hS ?_ ?_
  rotate_left
  · intro X hX; obtain ⟨x0, x1, x2, x3, x4, x5, u5, a0, a1, a2, a3, a4, a5, b0, b1, b2, b3, b4, b5⟩ := hX; go_simp; first | done | rfl
  simp only [List.setIfInBounds_toArray, List.set_cons_zero, List.set_cons_succ]
  refine wpAnyH_ready (rs := [32]) (by kernel_rfl) (by simp) ?_
  refine AllReadyH.cons rfl (fun K hK => ?_) AllReadyH.nil
  go_simp
  go_at_call 51
  refine HSM.out.mono ?_
  rintro e w23 ⟨rfl, h23⟩
  have h23b := H22.out.trans h23
  clear x0 x1 x2 x3 x4 x5 u5 a0 a1 a2 a3 a4 a5 b0 b1 b2 b3 b4 b5 x6 u6
  obtain ⟨⟨x0, x1, x2, x3, x4, x5⟩, -, x6⟩ := h23b.ok.drop.drop.drop.p3.pt6
  obtain ⟨⟨-, -, -, -, -, u5⟩, -, u6⟩ := h23b.ok.pt6
  have HA23 := Lib.hid (SixAt.kept h23 HSg.out HA22.out)
  have HB23 := Lib.hid (SixAt.kept h23 HSg.out HB22.out)
  obtain ⟨a0, a1, a2, a3, a4, a5⟩ := HA23.out
  obtain ⟨b0, b1, b2, b3, b4, b5⟩ := HB23.out
  have HT23 := Lib.hid (HT22.out.to h23)
  have HK23 := Lib.hid (HK22.out.to h23)
  have HL23 := Lib.hid (HL22.out.to h23)
  have H23 := Lib.hid h23b
  clear h23b h23
  go_wp2
  refine Shut.out hK _ _ (⟨x0, x1, x2, x3, x4, x5, u5, a0, a1, a2, a3, a4, a5, b0, b1, b2, b3, b4, b5⟩) (fun hS => ?_)
  clear hK K
  try simp only [Act.put, List.setIfInBounds_toArray, List.set_cons_zero, List.set_cons_succ]
  refine takeH (v := ?_) 33 124 rfl rfl (by kernel_rfl) (by kernel_rfl) (by kernel_rfl) (fun _ _ _ h => h) (by rfl) hS ?_ ?_
  rotate_left
  · intro X hX; obtain ⟨x0, x1, x2, x3, x4, x5, u5, a0, a1, a2, a3, a4, a5, b0, b1, b2, b3, b4, b5⟩ := hX; go_simp; first | done | rfl
  simp only [List.setIfInBounds_toArray, List.set_cons_zero, List.set_cons_succ]
  refine takeH (v := ?_) 34 125 rfl rfl (by kernel_rfl) (by kernel_rfl) (by kernel_rfl) (fun _ _ _ h => h) (by rfl) hS ?_ ?_
  rotate_left
  · intro X hX; obtain ⟨x0, x1, x2, x3, x4, x5, u5, a0, a1, a2, a3, a4, a5, b0, b1, b2, b3, b4, b5⟩ := hX; go_simp; first | done | rfl
  simp only [List.setIfInBounds_toArray, List.set_cons_zero, List.set_cons_succ]
  refine wpAnyH_ready (rs := [35]) (by kernel_rfl) (by simp) ?_
  refine AllReadyH.cons rfl (fun K hK => ?_) AllReadyH.nil
  go_simp
  go_at_call 54
  refine (awake10_spec H23.out.ok).mono ?_
  rintro e w24 ⟨rfl, h24⟩
  have h24b := H23.out.trans h24
  clear x0 x1 x2 x3 x4 x5 u5 a0 a1 a2 a3 a4 a5 b0 b1 b2 b3 b4 b5 x6 u6
  obtain ⟨⟨x0, x1, x2, x3, x4, x5⟩, -, x6⟩ := h24b.ok.drop.drop.drop.p3.pt6
  obtain ⟨⟨-, -, -, -, -, u5⟩, -, u6⟩ := h24b.ok.pt6
  have HA24 := Lib.hid (SixAt.kept h24 HSg.out HA23.out)
  have HB24 := Lib.hid (SixAt.kept h24 HSg.out HB23.out)
  obtain ⟨a0, a1, a2, a3, a4, a5⟩ := HA24.out
  obtain ⟨b0, b1, b2, b3, b4, b5⟩ := HB24.out
  have HT24 := Lib.hid (HT23.out.to h24)
  have HK24 := Lib.hid (HK23.out.to h24)
  have HL24 := Lib.hid (HL23.out.to h24)
  have H24 := Lib.hid h24b
  clear h24b h24
  go_wp2
  refine Shut.out hK _ _ (⟨x0, x1, x2, x3, x4, x5, u5, a0, a1, a2, a3, a4, a5, b0, b1, b2, b3, b4, b5⟩) (fun hS => ?_)
  clear hK K
  try simp only [Act.put, List.setIfInBounds_toArray, List.set_cons_zero, List.set_cons_succ]
  refine takeH (v := ?_) 36 127 rfl rfl (by kernel_rfl) (by kernel_rfl) (by kernel_rfl) (fun _ _ _ h => h) (by rfl) hS ?_ ?_
  rotate_left
  · intro X hX; obtain ⟨x0, x1, x2, x3, x4, x5, u5, a0, a1, a2, a3, a4, a5, b0, b1, b2, b3, b4, b5⟩ := hX; go_simp; first | done | rfl
  simp only [List.setIfInBounds_toArray, List.set_cons_zero, List.set_cons_succ]
  refine takeH (v := ?_) 37 2 rfl rfl (by kernel_rfl) (by kernel_rfl) (by kernel_rfl) (fun _ _ _ h => h) (by rfl) hS ?_ ?_
  rotate_left
  · intro X hX; obtain ⟨x0, x1, x2, x3, x4, x5, u5, a0, a1, a2, a3, a4, a5, b0, b1, b2, b3, b4, b5⟩ := hX; go_simp; first | done | rfl
  simp only [List.setIfInBounds_toArray, List.set_cons_zero, List.set_cons_succ]
  refine wpAnyH_done (by kernel_rfl) ?_ _
  go_wp2
  go_ret
  exact ⟨rfl, H24.out.drop.drop.drop.drop.drop.drop.drop.small⟩
#print axioms copyShares_spec
end Go.Proofs.Ytceahdlcbiialaa
