/- A copy, its copy, a copy on its own heap: what they are. No condition. CopyTwice: what its function answers. -/
import Derived.Test.YtceahdlcbiialaaF9M2
import Derived.Test.YtceahdlcbiialaaF8M5
import Derived.Test.YtceahdlcbiialaaF9M1
import Derived.Test.YtceahdlcbiialaaF6M2
set_option linter.unusedVariables false
set_option linter.unusedSimpArgs false
set_option linter.unusedSectionVars false
namespace Go.Proofs.Ytceahdlcbiialaa
open Go.RowKit

theorem putP_lay {most : Nat} {t : Tm} {st : St} (ht : May t = 0) (he : (putP most t st).1.2 = 0) : lay most t (-1) st = putP most t st := by
  rcases hl : lay most t (-1) st with ⟨⟨x, e⟩, s1⟩
  have hp : putP most t st = if e ≠ 0 then ((0, e), s1) else fin most [] (if (-1 : Int) < 0 then x else 0) (s1.atI (-1) x) := by
    unfold putP
    rw [if_neg (by simp [ht]), fin_tm _ _ _ _ _ _ hl]
  rw [hp] at he ⊢
  by_cases h0 : e = 0
  · subst h0
    simp [fin, St.atI]
  · simp [h0] at he
theorem lay_putP {most : Nat} {t : Tm} {st : St} (ht : May t = 0) (he : (lay most t (-1) st).1.2 = 0) : (putP most t st).1.2 = 0 := by
  rcases hl : lay most t (-1) st with ⟨⟨x, e⟩, s1⟩
  have hp : putP most t st = if e ≠ 0 then ((0, e), s1) else fin most [] (if (-1 : Int) < 0 then x else 0) (s1.atI (-1) x) := by
    unfold putP
    rw [if_neg (by simp [ht]), fin_tm _ _ _ _ _ _ hl]
  rw [hl] at he
  simp only at he
  subst he
  rw [hp]
  simp [fin]
theorem put_rng {most : Nat} {t : Tm} {st : St} (ht : May t = 0) (he : (putP most t st).1.2 = 0) (h : LayOk st.C (fun _ => false) st.V) :
    rng (putP most t st).2.C (putP most t st).2.L (lk (putP most t st).2.V) t (putP most t st).1.1 st.C.length (putP most t st).2.C.length := by
  have hl := putP_lay ht he
  rcases hs : putP most t st with ⟨⟨c, e⟩, s1⟩
  rw [hs] at hl he
  simp only at he
  subst he
  refine lay_rng most t (-1) st c s1 _ (May_zero ht).2 hl h (fun h => by omega) ?_ (fun _ _ h => h) (fun _ _ h => h)
  intro i v hv
  exact (vw_in hv).2
section
variable {F : List Nat} {L : List ByteArray} {R : Int → Option Nat} {src : List Nat → List Nat} {most b : Nat}
theorem copy_put {t : Tm} {c lo hi : Nat} {K : List Nat} (ht : May t = 0) (hI : Inj R) (hR : ∀ n c, R n = some c → tg c = 0) (hb : b ≤ F.length) (hsrc : ∀ K : List Nat, (∀ i, i < b → K[i]? = F[i]?) → ∀ (i v : Nat), F[i]? = some v → (src K)[i]? = some v)
    (hr : rng F L R t c lo hi) (hG : ∀ i, i < b → K[i]? = F[i]?) (he : (putP most t ⟨K, L, []⟩).1.2 = 0) :
    (putP most t ⟨K, L, []⟩).2.L = L ∧ (finC src most [⟨c, -1, false⟩] 0 ⟨K, [], 0⟩).1 = (putP most t ⟨K, L, []⟩).1 ∧ (finC src most [⟨c, -1, false⟩] 0 ⟨K, [], 0⟩).2.K = (putP most t ⟨K, L, []⟩).2.C := by
  have hl := putP_lay ht he
  rcases hs : putP most t ⟨K, L, []⟩ with ⟨⟨o, e⟩, s1⟩
  rw [hs] at hl he
  simp only at he
  subst he
  obtain ⟨h1, h2⟩ := May_zero ht
  obtain ⟨z1, M', n', z2, z3, z4⟩ := cp_lay hI hR hb hsrc t 100001 c (-1) ⟨K, [], 0⟩ [] (fun _ => false) lo hi hi (Nat.le_refl _) h2 hr (by simp) (by simp only; omega) ⟨(fun _ _ _ => rfl), (fun _ _ h => by cases h)⟩ LayOk.none (fun h => by omega) (fun _ _ => rfl) hG o s1 hl
  have e1 : finC src most [⟨c, -1, false⟩] 0 ⟨K, [], 0⟩ = ((o, 0), ⟨s1.C, M', n'⟩) := by
    rw [finC, cpX, z2]
    simp [finC, CS.atI]
  rw [e1]
  exact ⟨z1, rfl, rfl⟩
end
theorem takes_le (t : Tm) (own : Int) (V : List (Int × Nat)) : takes t own V ≤ 3 * nodes t := by
  have hc := cnt_le t false
  unfold takes
  split
  · split
    · split <;> omega
    · omega
  · omega
theorem put_more {most : Nat} {t : Tm} (h : May t = 0) (st : St) (hL : allN (· ∈ st.L) t) (hC : st.C.length + 3 * nodes t ≤ most) :
    (putP most t st).1.2 = 0 ∧ (putP most t st).2.C.length ≤ st.C.length + 3 * nodes t ∧ (putP most t st).2.L = st.L := by
  have htk := takes_le t (-1) st.V
  obtain ⟨a, b, c⟩ := lay_known most t (-1) st (May_zero h).2 hL (by omega)
  have he := lay_putP h a
  rw [putP_lay h he] at b c
  exact ⟨he, by omega, c⟩
theorem stok1 : StOk 10000 ⟨[], names0, []⟩ := ⟨by simp, by omega, ⟨by simp [names0], by intro s hs; simp [names0] at hs; rcases hs with rfl | rfl <;> decide⟩, fun x hx => by cases hx⟩
theorem twice_pure {t : Tm} (ht : May t = 0) (rt : rngd t) (hn : nodes t ≤ 300) {r1 r2 r3 : (Nat × Nat) × St} (e1 : r1 = putP 10000 t ⟨[], names0, []⟩) (e2 : r2 = putP 10000 t ⟨[], r1.2.L, []⟩) (e3 : r3 = putP 10000 t ⟨r1.2.C, r1.2.L, []⟩) :
    (r1.1.2 = 0 ∧ r2.1.2 = 0 ∧ r3.1.2 = 0) ∧ (r1.1.1 < 18446744073709551616 ∧ r2.1.1 < 18446744073709551616 ∧ r3.1.1 < 18446744073709551616) ∧
    ((finC (fun _ => r1.2.C) 10000 [⟨r1.1.1, -1, false⟩] 0 ⟨[], [], 0⟩).1 = (r2.1.1, 0) ∧ (finC (fun _ => r1.2.C) 10000 [⟨r1.1.1, -1, false⟩] 0 ⟨[], [], 0⟩).2.K = r2.2.C) ∧
    ((finC (fun _ => r2.2.C) 10000 [⟨r2.1.1, -1, false⟩] 0 ⟨[], [], 0⟩).1 = (r2.1.1, 0) ∧ (finC (fun _ => r2.2.C) 10000 [⟨r2.1.1, -1, false⟩] 0 ⟨[], [], 0⟩).2.K = r2.2.C) ∧
    ((finC (fun K => K) 10000 [⟨r1.1.1, -1, false⟩] 0 ⟨r1.2.C, [], 0⟩).1 = (r3.1.1, 0) ∧ (finC (fun K => K) 10000 [⟨r1.1.1, -1, false⟩] 0 ⟨r1.2.C, [], 0⟩).2.K = r3.2.C) ∧
    (rd r2.2.C r1.2.L 500 r2.1.1 ⟨[], 0⟩).1 = (renT t, 0) ∧ (rd r3.2.C r1.2.L 500 r1.1.1 ⟨[], 0⟩).1 = (renT t, 0) ∧ (rd r3.2.C r1.2.L 500 r3.1.1 ⟨[], 0⟩).1 = (renT t, 0) := by
  have nt := (May_zero ht).1
  have hn0 : names0.length = 2 := rfl
  obtain ⟨a1, a2, a3⟩ := put_fits (most := 10000) ht ⟨[], names0, []⟩ (by simp only; omega) (by simp)
  have g1 := put_rng (most := 10000) ht a1 LayOk.none
  have l1 := put_dir (most := 10000) ht a1 (st := ⟨[], names0, []⟩) LayOk.none
  have o1 := put_ok (most := 10000) ht ⟨[], names0, []⟩ stok1 a1
  rw [← e1] at a1 a2 a3 g1 l1 o1
  simp only [List.length_nil] at a2 a3
  have d1 := l1.dir
  have hN := dir_names t _ d1
  obtain ⟨b1, b2, b3⟩ := put_more (most := 10000) ht ⟨[], r1.2.L, []⟩ hN (by simp only [List.length_nil]; omega)
  have g2 := put_rng (most := 10000) ht b1 LayOk.none
  have l2 := put_dir (most := 10000) ht b1 LayOk.none
  have o2 := put_ok (most := 10000) ht ⟨[], r1.2.L, []⟩ ⟨by simp, by omega, o1.2.names, fun x hx => by cases hx⟩ b1
  have c1 := copy_put (src := fun _ => r1.2.C) (most := 10000) (b := 0) ht l1.ok.isInj (fun n c h => (l1.ok.vars n c h).1) (Nat.zero_le _) (fun K _ i v h => h) g1 (fun i hi => by omega) b1
  rw [← e2] at b1 b2 b3 g2 l2 o2 c1
  simp only at b3
  rw [b3] at g2
  obtain ⟨f1, f2, f3⟩ := put_more (most := 10000) ht ⟨r1.2.C, r1.2.L, []⟩ hN (by simp only; omega)
  have l3 := put_dir (most := 10000) ht f1 LayOk.none
  have o3 := put_ok (most := 10000) ht ⟨r1.2.C, r1.2.L, []⟩ ⟨o1.2.len, by omega, o1.2.names, fun x hx => by cases hx⟩ f1
  have c3 := copy_put (src := fun K => K) (most := 10000) (b := r1.2.C.length) (K := r1.2.C) ht l1.ok.isInj (fun n c h => (l1.ok.vars n c h).1) (Nat.le_refl _) (fun K hK i v h => by rw [hK i (List.getElem?_eq_some_iff.1 h).1]; exact h) g1 (fun i hi => rfl) f1
  rw [← e3] at f1 f2 f3 l3 o3 c3
  simp only at f3
  have c2 := copy_put (src := fun _ => r2.2.C) (most := 10000) (b := 0) (K := []) ht l2.ok.isInj (fun n c h => (l2.ok.vars n c h).1) (Nat.zero_le _) (fun K _ i v h => h) g2 (fun i hi => by omega) (by rw [← e2]; exact b1)
  rw [← e2] at c2
  have h1 : r1.1 = (r1.1.1, 0) := Prod.ext rfl a1
  have h2 : r2.1 = (r2.1.1, 0) := Prod.ext rfl b1
  have h3 : r3.1 = (r3.1.1, 0) := Prod.ext rfl f1
  have d2 := l2.dir
  have d3 := l3.dir
  have d13 : dir (vw r3.2.C (fun _ => false)) (r3.2.L[·]?) (lk r1.2.V) t r1.1.1 := dir_mono l3.gr.cells l3.gr.names (fun _ _ h => h) t r1.1.1 d1
  rw [vw_none] at d2 d3 d13
  rw [f3] at d3 d13
  rw [b3] at d2
  obtain ⟨V2, q2, -, -⟩ := read_dir l2.ok.isInj rt ht d2 (l := []) (V := []) VR.none
  obtain ⟨V3, q3, -, -⟩ := read_dir l3.ok.isInj rt ht d3 (l := []) (V := []) VR.none
  obtain ⟨V4, q4, -, -⟩ := read_dir l1.ok.isInj rt ht d13 (l := []) (V := []) VR.none
  rw [renT_eq ht] at q2 q3 q4
  rw [h2] at c1 c2
  rw [h3] at c3
  exact ⟨⟨a1, b1, f1⟩, ⟨o1.1, o2.1, o3.1⟩, c1.2, c2.2, c3.2, q2, q4, q3⟩
#print axioms twice_pure
end Go.Proofs.Ytceahdlcbiialaa
set_option linter.unusedVariables false
set_option linter.unusedSimpArgs false
namespace Go.Proofs.Ytceahdlcbiialaa
open Go.RowKit

set_option maxRecDepth 100000 in
set_option maxHeartbeats 8000000 in
theorem copyTwice_spec {w : World} {S : Blk} {Γ : List Asn} {cs : List Value} {t : Tm} (hO : Ok w S Γ) (hT : TmC w S cs t) : Calls Try.prog 10 #[.agg cs.toArray] w fun e w' => e = .returned (.bool true) ∧ To w S w' S Γ := by
  have rt := hT.rngd
  obtain ⟨A, cap, rfl⟩ := hT.form0
  have h2 := hO.to.allocPt' #[.int .i64 t.k, .string t.s, .int .i64 t.n, .int .u64 t.re, .int .u64 t.im, .slice A t.xs.length cap] 25 w.heap.size rfl
  obtain ⟨⟨x0, x1, x2, x3, x4, x5⟩, -, x6⟩ := h2.ok.pt6
  have hm := May_spec h2.ok (hT.to h2)
  have HM := Lib.hid hm
  have H2 := Lib.hid h2
  have HT2 := Lib.hid (hT.to h2)
  have HRT := Lib.hid rt
  clear h2 hT hO rt hm
  by_cases hmt : May t = 0
  case neg =>
    have hmb : ((May t : Int) != 0) = true := by simp [bne]; omega
    clear hmt
    go_enter Try.func10, Try.ntmps10
    go_wp2_with fail
    refine HM.out.mono ?_
    rintro e w2 ⟨rfl, h5⟩
    have H5 := Lib.hid (H2.out.trans h5)
    clear h5
    go_wp2_with fail
    refine (awake10_spec H5.out.ok).mono ?_
    rintro e w2 ⟨rfl, h5⟩
    have H6 := Lib.hid (H5.out.trans h5).drop
    clear h5
    go_wp2
    go_ret
    exact ⟨rfl, H6.out⟩
  rw [hmt] at HM
  by_cases hnt : nodes t ≤ 300
  case neg =>
    have hnb : NodesT t = nodes t := NodesT_eq hmt
    have hg2 : (300 : Int) < (NodesT t : Int) := by omega
    clear hmt hnt hnb
    go_enter Try.func10, Try.ntmps10
    go_wp2_with fail
    refine HM.out.mono ?_
    rintro e w2 ⟨rfl, h5⟩
    have h6 := H2.out.trans h5
    have hnd := Nodes_spec h6.ok (HT2.out.to h5)
    clear x0 x1 x2 x3 x4 x5 x6
    obtain ⟨⟨x0, x1, x2, x3, x4, x5⟩, -, x6⟩ := h6.ok.pt6
    generalize NodesT t = N at hg2 hnd
    have HND := Lib.hid hnd
    have H6 := Lib.hid h6
    clear hnd h6 h5 H2 HT2 HM
    go_wp2_with fail
    refine HND.out.mono ?_
    rintro e w3 ⟨rfl, h7⟩
    have H7 := Lib.hid (H6.out.trans h7)
    clear h7 H6 HND
    go_wp2_with fail
    refine (awake10_spec H7.out.ok).mono ?_
    rintro e w2 ⟨rfl, h5⟩
    have H8 := Lib.hid (H7.out.trans h5).drop
    clear h5
    go_wp2
    go_ret
    exact ⟨rfl, H8.out⟩
  have hnb : NodesT t = nodes t := NodesT_eq hmt
  have hg2 : ¬ (300 : Int) < (NodesT t : Int) := by omega
  clear hnb
  obtain ⟨r1, hr1⟩ : ∃ r1, r1 = putP 10000 t ⟨[], names0, []⟩ := ⟨_, rfl⟩
  obtain ⟨r2, hr2⟩ : ∃ r2, r2 = putP 10000 t ⟨[], r1.2.L, []⟩ := ⟨_, rfl⟩
  obtain ⟨r3, hr3⟩ : ∃ r3, r3 = putP 10000 t ⟨r1.2.C, r1.2.L, []⟩ := ⟨_, rfl⟩
  obtain ⟨⟨a1, a2, a3⟩, ⟨q1, q2, q3⟩, c1, c2, c3, g1, g2, g3⟩ := twice_pure hmt HRT.out hnt hr1 hr2 hr3
  have HV := Lib.hid (variant_ren hmt)
  clear hr2 hr3 hmt hnt HRT
  have HR1 := Lib.hid hr1
  clear hr1
  obtain ⟨⟨k1, e1⟩, ⟨C1, L1, V1⟩⟩ := r1
  obtain ⟨⟨k2, e2⟩, ⟨C2, L2, V2⟩⟩ := r2
  obtain ⟨⟨k3, e3⟩, ⟨C3, L3, V3⟩⟩ := r3
  simp only at a1 a2 a3 q1 q2 q3 c1 c2 c3 g1 g2 g3 HR1
  subst a1 a2 a3
  have HC1 := Lib.hid c1
  have HC2 := Lib.hid c2
  have HC3 := Lib.hid c3
  have HG1 := Lib.hid g1
  have HG2 := Lib.hid g2
  have HG3 := Lib.hid g3
  clear c1 c2 c3 g1 g2 g3
  go_enter Try.func10, Try.ntmps10
  go_wp2_with fail
  refine HM.out.mono ?_
  rintro e w2 ⟨rfl, h5⟩
  have h6 := H2.out.trans h5
  have HT6 := Lib.hid (HT2.out.to h5)
  have hnd := Nodes_spec h6.ok HT6.out
  clear x0 x1 x2 x3 x4 x5 x6
  obtain ⟨⟨x0, x1, x2, x3, x4, x5⟩, -, x6⟩ := h6.ok.pt6
  generalize NodesT t = N at hg2 hnd
  have HND := Lib.hid hnd
  have H6 := Lib.hid h6
  clear hnd h6 h5 H2 HT2 HM
  go_wp2_with fail
  refine HND.out.mono ?_
  rintro e w3 ⟨rfl, h7⟩
  have H7 := Lib.hid (H6.out.trans h7)
  have HT7 := Lib.hid (HT6.out.to h7)
  clear x0 x1 x2 x3 x4 x5 x6 h7 H6 HND HT6
  go_wp2_with fail
  refine (new_spec H7.out.ok 10000 10000 rfl (by omega)).mono ?_
  rintro e w4 ⟨h, rfl, h8⟩
  have H8 := Lib.hid (H7.out.trans h8)
  have HT8 := Lib.hid (HT7.out.to h8)
  clear h8 H7 HT7
  go_wp2_with fail
  refine (anew_spec H8.out.ok).mono ?_
  rintro e w5 ⟨a, rfl, h9⟩
  have h9b := (H8.out.trans h9).p1
  have HT9 := Lib.hid (HT8.out.to h9)
  obtain ⟨⟨x0, x1, x2, x3, x4, x5⟩, -, x6⟩ := h9b.ok.p2.pt6
  have hput := put_nil h9b.ok HT9.out
  rw [← HR1.out] at hput
  have HP := Lib.hid hput
  have H9 := Lib.hid h9b
  clear h9 h9b hput H8 HT8 HR1
  go_wp2_with fail
  refine HP.out.mono ?_
  rintro e w6 ⟨rfl, h10⟩
  have H10 := Lib.hid (show To w S w6 S (HeapA h 10000 C1 :: AtomsA a L1 :: _) from H9.out.trans h10)
  have HT10 := Lib.hid (HT9.out.to h10)
  clear x0 x1 x2 x3 x4 x5 x6 h10 H9 HT9 HP
  go_wp2_with fail
  refine (new_spec H10.out.ok 10000 10000 rfl (by omega)).mono ?_
  rintro e w7 ⟨k, rfl, h11⟩
  have H11 := Lib.hid (H10.out.trans h11)
  have HT11 := Lib.hid (HT10.out.to h11)
  clear h11 H10 HT10
  go_wp2_with fail
  refine (new_spec H11.out.ok 10000 10000 rfl (by omega)).mono ?_
  rintro e w8 ⟨l, rfl, h12⟩
  have h12b := (H11.out.trans h12).p2.p2
  have HT12 := Lib.hid (HT11.out.to h12)
  have hcp := copyTerm_spec (X := Src.other k h 10000 10000 C1) (K := []) h12b.ok k1 q1 rfl
  rw [show copyP (Src.other k h 10000 10000 C1).src (Src.other k h 10000 10000 C1).most k1 [] = finC (fun _ => C1) 10000 [⟨k1, -1, false⟩] 0 ⟨[], [], 0⟩ from rfl, HC1.out.1, HC1.out.2] at hcp
  have HCP := Lib.hid hcp
  have H12 := Lib.hid h12b
  clear hcp h12b h12 H11 HT11 HC1
  go_wp2_with fail
  refine HCP.out.mono ?_
  rintro e w9 ⟨rfl, h13⟩
  have h13b := (show To w S w9 S (HeapA k 10000 C2 :: HeapA h 10000 C1 :: HeapA l 10000 [] :: AtomsA a L1 :: _) from H12.out.trans h13).p2
  have HT13 := Lib.hid (HT12.out.to h13)
  have hcp := copyTerm_spec (X := Src.other l k 10000 10000 C2) (K := []) h13b.ok k2 q2 rfl
  rw [show copyP (Src.other l k 10000 10000 C2).src (Src.other l k 10000 10000 C2).most k2 [] = finC (fun _ => C2) 10000 [⟨k2, -1, false⟩] 0 ⟨[], [], 0⟩ from rfl, HC2.out.1, HC2.out.2] at hcp
  have HCP := Lib.hid hcp
  have H13 := Lib.hid h13b
  clear hcp h13b h13 H12 HT12 HC2
  go_wp2_with fail
  refine HCP.out.mono ?_
  rintro e w10 ⟨rfl, h14⟩
  have h14b := (show To w S w10 S (HeapA l 10000 C2 :: HeapA k 10000 C2 :: HeapA h 10000 C1 :: AtomsA a L1 :: _) from H13.out.trans h14)
  have HT14 := Lib.hid (HT13.out.to h14)
  have hl1 := len_spec h14b.ok.heapAR
  have hl2 := len_spec h14b.p1.ok.heapAR
  have h14c := h14b.p3.p1
  have hget := get_nil h14c.ok k2 q2 rfl
  rw [HG1.out] at hget
  have HL1 := Lib.hid hl1
  have HL2 := Lib.hid hl2
  have HG := Lib.hid hget
  have H14 := Lib.hid h14c
  clear hl1 hl2 hget h14c h14b h14 H13 HT13 HCP HG1
  go_wp2_with fail
  refine HL1.out.mono ?_
  rintro e w' ⟨rfl, hww⟩
  subst w'
  go_wp2_with fail
  refine HL2.out.mono ?_
  rintro e w' ⟨rfl, hww⟩
  subst w'
  go_wp2_with fail
  refine HG.out.mono ?_
  rintro e w11 ⟨tc, Sx, hqx, rfl, hx0, hkx⟩
  obtain ⟨⟨kx, sxx, nx, rex, imx, xsx⟩, Ax, cpx⟩ := tc
  simp only [Tc.six, Tm.k_mk, Tm.s_mk, Tm.n_mk, Tm.re_mk, Tm.im_mk, Tm.xs_mk] at hkx
  have hax := hx0.ok.to.allocPt' #[.int .i64 kx, .string sxx, .int .i64 nx, .int .u64 rex, .int .u64 imx, .slice Ax xsx.length cpx] 25 w11.heap.size rfl
  have h15 := ((H14.out.trans hx0).trans hax).p4.re fun k => k.empI
  have h15b := h15.p1
  have HT15 := Lib.hid ((HT14.out.to hx0).to hax)
  have HK1 := Lib.hid (hkx.to hax)
  have HQ1 := Lib.hid hqx
  have hcp := copyTerm_spec (X := Src.own h 10000) (K := C1) h15b.ok k1 q1 rfl
  rw [show copyP (Src.own h 10000).src (Src.own h 10000).most k1 C1 = finC (fun K => K) 10000 [⟨k1, -1, false⟩] 0 ⟨C1, [], 0⟩ from rfl, HC3.out.1, HC3.out.2] at hcp
  have HCP := Lib.hid hcp
  have H15 := Lib.hid h15b
  clear hx0 hax hqx hkx h15 h15b hcp H14 HT14 HL1 HL2 HG HC3
  simp only [Tc.six, Tm.k_mk, Tm.s_mk, Tm.n_mk, Tm.re_mk, Tm.im_mk, Tm.xs_mk]
  go_wp2_with fail
  refine HCP.out.mono ?_
  rintro e w12 ⟨rfl, h16⟩
  have h16b := (show To w S w12 Sx (HeapA h 10000 C3 :: Asn.emp :: _) from H15.out.trans h16).p1.drop.p3.p1
  have HT16 := Lib.hid (HT15.out.to h16)
  have HK16 := Lib.hid (HK1.out.to h16)
  have hget := get_nil h16b.ok k1 q1 rfl
  rw [HG2.out] at hget
  have HG := Lib.hid hget
  have H16 := Lib.hid h16b
  clear hget h16b h16 H15 HT15 HK1 HCP HG2
  go_wp2_with fail
  refine HG.out.mono ?_
  rintro e w13 ⟨tc, Sy, hqy, rfl, hy0, hky⟩
  obtain ⟨⟨ky, sxy, ny, rey, imy, xsy⟩, Ay, cpy⟩ := tc
  simp only [Tc.six, Tm.k_mk, Tm.s_mk, Tm.n_mk, Tm.re_mk, Tm.im_mk, Tm.xs_mk] at hky
  have hay := hy0.ok.to.allocPt' #[.int .i64 ky, .string sxy, .int .i64 ny, .int .u64 rey, .int .u64 imy, .slice Ay xsy.length cpy] 25 w13.heap.size rfl
  have h17 := ((H16.out.trans hy0).trans hay).p2.p2
  have HT17 := Lib.hid ((HT16.out.to hy0).to hay)
  have HK17 := Lib.hid ((HK16.out.to hy0).to hay)
  have HKY := Lib.hid (hky.to hay)
  have HQ2 := Lib.hid hqy
  have hget := get_nil h17.ok k3 q3 rfl
  rw [HG3.out] at hget
  have HG := Lib.hid hget
  have H17 := Lib.hid h17
  clear hy0 hay hqy hky h17 hget H16 HT16 HK16 HG3
  simp only [Tc.six, Tm.k_mk, Tm.s_mk, Tm.n_mk, Tm.re_mk, Tm.im_mk, Tm.xs_mk]
  go_wp2_with fail
  refine HG.out.mono ?_
  rintro e w14 ⟨tc, Sz, hqz, rfl, hz0, hkz⟩
  obtain ⟨⟨kz, sxz, nz, rez, imz, xsz⟩, Az, cpz⟩ := tc
  simp only [Tc.six, Tm.k_mk, Tm.s_mk, Tm.n_mk, Tm.re_mk, Tm.im_mk, Tm.xs_mk] at hkz
  have haz := hz0.ok.to.allocPt' #[.int .i64 kz, .string sxz, .int .i64 nz, .int .u64 rez, .int .u64 imz, .slice Az xsz.length cpz] 25 w14.heap.size rfl
  have h18 := (H17.out.trans hz0).trans haz
  have HT18 := Lib.hid ((HT17.out.to hz0).to haz)
  have HK18 := Lib.hid ((HK17.out.to hz0).to haz)
  have HKY18 := Lib.hid ((HKY.out.to hz0).to haz)
  have HKZ := Lib.hid (hkz.to haz)
  have HQ3 := Lib.hid hqz
  obtain ⟨⟨x0, x1, x2, x3, x4, x5⟩, -, x6⟩ := h18.ok.p4.pt6
  obtain ⟨⟨y0, y1, y2, y3, y4, y5⟩, -, y6⟩ := h18.ok.drop.drop.drop.drop.p3.pt6
  have hvs := variant_spec h18.ok HK18.out HT18.out (by rw [HQ1.out]; exact HV.out)
  have HVS := Lib.hid hvs
  have H18 := Lib.hid h18
  clear hz0 haz hqz hkz h18 hvs H17 HT17 HK17 HKY HG
  simp only [Tc.six, Tm.k_mk, Tm.s_mk, Tm.n_mk, Tm.re_mk, Tm.im_mk, Tm.xs_mk]
  go_wp2_with fail
  refine HVS.out.mono ?_
  rintro e w15 ⟨rfl, h19⟩
  have h19b := H18.out.trans h19
  have HT19 := Lib.hid (HT18.out.to h19)
  have HKY19 := Lib.hid (HKY18.out.to h19)
  have HKZ19 := Lib.hid (HKZ.out.to h19)
  clear x0 x1 x2 x3 x4 x5 x6 y0 y1 y2 y3 y4 y5 y6
  obtain ⟨⟨x0, x1, x2, x3, x4, x5⟩, -, x6⟩ := h19b.ok.p3.pt6
  obtain ⟨⟨y0, y1, y2, y3, y4, y5⟩, -, y6⟩ := h19b.ok.drop.drop.drop.drop.p3.pt6
  have hvs := variant_spec h19b.ok HKY19.out HT19.out (by rw [HQ2.out]; exact HV.out)
  have HVS := Lib.hid hvs
  have H19 := Lib.hid h19b
  clear h19 h19b hvs H18 HT18 HKY18 HKZ HK18
  go_wp2_with fail
  refine HVS.out.mono ?_
  rintro e w16 ⟨rfl, h20⟩
  have h20b := H19.out.trans h20
  have HT20 := Lib.hid (HT19.out.to h20)
  have HKZ20 := Lib.hid (HKZ19.out.to h20)
  clear x0 x1 x2 x3 x4 x5 x6 y0 y1 y2 y3 y4 y5 y6
  obtain ⟨⟨x0, x1, x2, x3, x4, x5⟩, -, x6⟩ := h20b.ok.pt6
  obtain ⟨⟨y0, y1, y2, y3, y4, y5⟩, -, y6⟩ := h20b.ok.drop.drop.drop.drop.p3.pt6
  have hvs := variant_spec h20b.ok HKZ20.out HT20.out (by rw [HQ3.out]; exact HV.out)
  have HVS := Lib.hid hvs
  have H20 := Lib.hid h20b
  clear h20 h20b hvs H19 HT19 HKY19 HKZ19
  go_wp2_with fail
  refine HVS.out.mono ?_
  rintro e w17 ⟨rfl, h21⟩
  have H21 := Lib.hid (H20.out.trans h21)
  clear h21 H20
  go_wp2_with fail
  refine (awake10_spec H21.out.ok).mono ?_
  rintro e w18 ⟨rfl, h22⟩
  have H22 := Lib.hid (H21.out.trans h22).drop.drop.drop.drop.drop.drop.drop.drop.small
  clear h22
  go_wp2
  go_ret
  exact ⟨rfl, H22.out⟩
#print axioms copyTwice_spec
end Go.Proofs.Ytceahdlcbiialaa
