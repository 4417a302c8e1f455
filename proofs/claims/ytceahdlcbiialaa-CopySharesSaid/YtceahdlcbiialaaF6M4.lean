/- What is put is read back, renamed. No condition. StoreTwo: what its function answers. -/
import Derived.Test.YtceahdlcbiialaaF6M3
import Derived.Test.YtceahdlcbiialaaF5M28
import Derived.Test.YtceahdlcbiialaaF5M25
import Derived.Test.YtceahdlcbiialaaF6M2
import Derived.Test.YtceahdlcbiialaaF5M14
import Derived.Test.YtceahdlcbiialaaF5M15
import Derived.Test.YtceahdlcbiialaaF5M17
set_option linter.unusedVariables false
set_option linter.unusedSimpArgs false
namespace Go.Proofs.Ytceahdlcbiialaa
open Go.RowKit

theorem vw_none (C : List Nat) : vw C (fun _ => false) = fun i => C[i]? := by funext i; simp [vw]
theorem LayOk.isInj {C : List Nat} {P : Nat → Bool} {V : List (Int × Nat)} (h : LayOk C P V) : Inj (lk V) := by
  intro n m c d hc hd e
  have h1 := (h.vars n c hc).1
  have h2 := (h.vars m d hd).1
  have e2 : c = d := by rw [← mkc_eta c, ← mkc_eta d, h1, h2, e]
  subst e2
  exact h.inj n m c hc hd
theorem LayOk.none {C : List Nat} : LayOk C (fun _ => false) [] := ⟨(fun i h => by cases h), (fun n c h => by cases h), (fun n m c h _ => by cases h)⟩
/-- A cell that stands for a term reads as it. -/
theorem read_dir {C : List Nat} {L : List ByteArray} {R : Int → Option Nat} (hI : Inj R) {t : Tm} {c : Nat} (hr : rngd t) (hm : May t = 0) (hd : dir (C[·]?) (L[·]?) R t c) {l : List Int} {V : List (Nat × Nat)} (hV : VR R l V) :
    ∃ V', (rd C L 500 c ⟨V, 0⟩).1 = (nm (varsT t l) t, 0) ∧ (rd C L 500 c ⟨V, 0⟩).2.V = V' ∧ VR R (varsT t l) V' := by
  have h : may t 1 (0, 0) = ((may t 1 (0, 0)).1, 0) := Prod.ext rfl (by unfold May at hm; exact hm)
  obtain ⟨V', e, hv⟩ := rd_dir hI t 1 0 _ l V c hr h hd hV
  rw [show (501 - 1 : Nat) = 500 from rfl] at e
  rw [e]
  exact ⟨V', rfl, rfl, hv⟩
theorem VR.none {R : Int → Option Nat} : VR R [] [] := ⟨rfl, fun _ _ _ => rfl⟩
theorem renT_eq {t : Tm} (h : May t = 0) : nm (varsT t []) t = renT t := by unfold renT; rw [if_neg (by simp [h])]
theorem put_fits {most : Nat} {t : Tm} (h : May t = 0) (st : St) (hL : st.L.length + nodes t ≤ 4096) (hC : st.C.length + 6001 ≤ most) :
    (putP most t st).1.2 = 0 ∧ (putP most t st).2.C.length ≤ st.C.length + 6001 ∧ (putP most t st).2.L.length ≤ st.L.length + nodes t := by
  obtain ⟨hn, hg⟩ := May_zero h
  have hc := cnt_le t false
  have htk : takes t (-1) st.V ≤ 6001 := by
    unfold takes
    split
    · split
      · split <;> omega
      · omega
    · omega
  obtain ⟨a, b, c⟩ := lay_small most t (-1) st hg hL (by omega)
  rcases hl : lay most t (-1) st with ⟨⟨x, e⟩, s1⟩
  rw [hl] at a b c
  simp only at a b c
  subst a
  have hp : putP most t st = ((x, 0), s1) := by
    unfold putP
    rw [if_neg (by simp [h]), fin_tm _ _ _ _ _ _ hl]
    simp [fin, St.atI]
  rw [hp]
  exact ⟨rfl, by simp only; omega, c⟩
theorem put_ok {most : Nat} {t : Tm} (h : May t = 0) (st : St) (hs : StOk most st) (he : (putP most t st).1.2 = 0) : (putP most t st).1.1 < 18446744073709551616 ∧ StOk most (putP most t st).2 := by
  have hk := lay_ok most t (-1) st hs (by omega)
  rcases hl : lay most t (-1) st with ⟨⟨x, e⟩, s1⟩
  have hp : putP most t st = if e ≠ 0 then ((0, e), s1) else fin most [] (if (-1 : Int) < 0 then x else 0) (s1.atI (-1) x) := by
    unfold putP
    rw [if_neg (by simp [h]), fin_tm _ _ _ _ _ _ hl]
  rw [hl] at hk
  rw [hp] at he ⊢
  by_cases h0 : e = 0
  · subst h0
    simpa [fin, St.atI] using ⟨hk.1, hk.2.1⟩
  · simp [h0] at he
theorem stok0 : StOk 1048576 ⟨[], names0, []⟩ := ⟨by simp, by omega, ⟨by simp [names0], by intro s hs; simp [names0] at hs; rcases hs with rfl | rfl <;> decide⟩, fun x hx => by cases hx⟩
/-- Two terms, one behind the other, each without the other's variables. -/
theorem two_back {s t : Tm} (hs : May s = 0) (ht : May t = 0) (rs : rngd s) (rt : rngd t) {r1 r2 : (Nat × Nat) × St} (e1 : r1 = putP 1048576 s ⟨[], names0, []⟩) (e2 : r2 = putP 1048576 t ⟨r1.2.C, r1.2.L, []⟩) :
    r1.1.2 = 0 ∧ r2.1.2 = 0 ∧ (rd r2.2.C r2.2.L 500 r1.1.1 ⟨[], 0⟩).1 = (renT s, 0) ∧ (rd r2.2.C r2.2.L 500 r2.1.1 ⟨[], 0⟩).1 = (renT t, 0) ∧ r1.1.1 < 18446744073709551616 ∧ r2.1.1 < 18446744073709551616 := by
  have ns := (May_zero hs).1
  have nt := (May_zero ht).1
  have hn0 : names0.length = 2 := rfl
  obtain ⟨a1, a2, a3⟩ := put_fits (most := 1048576) hs ⟨[], names0, []⟩ (by simp only; omega) (by simp)
  rw [← e1] at a1 a2 a3
  simp only [List.length_nil] at a2 a3
  obtain ⟨b1, b2, b3⟩ := put_fits (most := 1048576) ht ⟨r1.2.C, r1.2.L, []⟩ (by simp only; omega) (by simp only; omega)
  rw [← e2] at b1 b2 b3
  have l1 := put_dir (most := 1048576) hs (by rw [← e1]; exact a1) (st := ⟨[], names0, []⟩) LayOk.none
  rw [← e1] at l1
  have l2 := put_dir (most := 1048576) ht (by rw [← e2]; exact b1) (st := ⟨r1.2.C, r1.2.L, []⟩) LayOk.none
  rw [← e2] at l2
  have d1 := l1.dir
  have d2 := l2.dir
  have g := l2.gr
  have d1' : dir (vw r2.2.C (fun _ => false)) (r2.2.L[·]?) (lk r1.2.V) s r1.1.1 := dir_mono g.cells g.names (fun _ _ h => h) s r1.1.1 d1
  rw [vw_none] at d1' d2
  obtain ⟨V1, q1, -, -⟩ := read_dir l1.ok.isInj rs hs d1' (l := []) (V := []) VR.none
  obtain ⟨V2, q2, -, -⟩ := read_dir l2.ok.isInj rt ht d2 (l := []) (V := []) VR.none
  rw [renT_eq hs] at q1
  rw [renT_eq ht] at q2
  have o1 := put_ok hs _ stok0 (by rw [← e1]; exact a1)
  rw [← e1] at o1
  have o2 := put_ok (most := 1048576) ht ⟨r1.2.C, r1.2.L, []⟩ ⟨o1.2.len, o1.2.most, o1.2.names, fun x hx => by cases hx⟩ (by rw [← e2]; exact b1)
  rw [← e2] at o2
  exact ⟨a1, b1, q1, q2, o1.1, o2.1⟩
/-- One term laid, and read. -/
theorem one_back {t : Tm} (ht : May t = 0) (rt : rngd t) {r1 : (Nat × Nat) × St} (e1 : r1 = putP 1048576 t ⟨[], names0, []⟩) : r1.1.2 = 0 ∧ (rd r1.2.C r1.2.L 500 r1.1.1 ⟨[], 0⟩).1 = (renT t, 0) ∧ r1.2.C.length ≤ 6001 ∧ r1.2.L.length ≤ 2 + nodes t ∧ r1.1.1 < 18446744073709551616 ∧ StOk 1048576 r1.2 := by
  have nt := (May_zero ht).1
  have hn0 : names0.length = 2 := rfl
  obtain ⟨a1, a2, a3⟩ := put_fits (most := 1048576) ht ⟨[], names0, []⟩ (by simp only; omega) (by simp)
  rw [← e1] at a1 a2 a3
  simp only [List.length_nil] at a2 a3
  have l1 := put_dir (most := 1048576) ht (by rw [← e1]; exact a1) (st := ⟨[], names0, []⟩) LayOk.none
  rw [← e1] at l1
  have d1 := l1.dir
  rw [vw_none] at d1
  obtain ⟨V1, q1, -, -⟩ := read_dir l1.ok.isInj rt ht d1 (l := []) (V := []) VR.none
  rw [renT_eq ht] at q1
  have o1 := put_ok ht _ stok0 (by rw [← e1]; exact a1)
  rw [← e1] at o1
  exact ⟨a1, q1, by omega, by omega, o1⟩
#print axioms two_back
end Go.Proofs.Ytceahdlcbiialaa
set_option linter.unusedVariables false
set_option linter.unusedSimpArgs false
namespace Go.Proofs.Ytceahdlcbiialaa
open Go.RowKit

/-- Two terms in a block of their own. -/
theorem kids_two {w : World} {S : Blk} {g : Nat} {s t : Tm} {A A' : Option Addr} {cap cap' : Nat} (hS : S g) (hg : w.heap[g]? = some (.cells #[.int .i64 s.k, .string s.s, .int .i64 s.n, .int .u64 s.re, .int .u64 s.im, .slice A s.xs.length cap, .int .i64 t.k, .string t.s, .int .i64 t.n, .int .u64 t.re, .int .u64 t.im, .slice A' t.xs.length cap'] 25 (0, 0)))
    (hs : TmC w S [.int .i64 s.k, .string s.s, .int .i64 s.n, .int .u64 s.re, .int .u64 s.im, .slice A s.xs.length cap] s) (hT : TmC w S [.int .i64 t.k, .string t.s, .int .i64 t.n, .int .u64 t.re, .int .u64 t.im, .slice A' t.xs.length cap'] t) : Kids w S (some ⟨g, 0, none⟩) [s, t] := by
  intro i x hx
  match i, hx with
  | 0, hx =>
    simp at hx
    subst hx
    refine ⟨g, 0, A, cap, rfl, hS, ?_, ?_, ?_, ?_, ?_, ?_, hs⟩ <;> simp [World.cell?, hg]
  | 1, hx =>
    simp at hx
    subst hx
    refine ⟨g, 0, A', cap', rfl, hS, ?_, ?_, ?_, ?_, ?_, ?_, hT⟩ <;> simp [World.cell?, hg]
  | i + 2, hx => simp at hx
set_option maxRecDepth 100000 in
set_option maxHeartbeats 8000000 in
theorem two_spec {w : World} {S : Blk} {Γ : List Asn} {cs cs' : List Value} {s t : Tm} (hO : Ok w S Γ) (hT : TmC w S cs s) (hT' : TmC w S cs' t) : Calls Try.prog 6 #[.agg cs.toArray, .agg cs'.toArray] w fun e w' => e = .returned (.bool true) ∧ To w S w' S Γ := by
  have rs := hT.rngd
  have rt := hT'.rngd
  obtain ⟨A, cap, rfl⟩ := hT.form0
  obtain ⟨A', cap', rfl⟩ := hT'.form0
  have h2 := ((hO.to.allocPt' #[.int .i64 s.k, .string s.s, .int .i64 s.n, .int .u64 s.re, .int .u64 s.im, .slice A s.xs.length cap] 25 w.heap.size rfl).allocPt' #[.int .i64 t.k, .string t.s, .int .i64 t.n, .int .u64 t.re, .int .u64 t.im, .slice A' t.xs.length cap'] 25 (w.heap.size + 1) (by simp)).allocPt' #[.int .i64 s.k, .string s.s, .int .i64 s.n, .int .u64 s.re, .int .u64 s.im, .slice A s.xs.length cap, .int .i64 t.k, .string t.s, .int .i64 t.n, .int .u64 t.re, .int .u64 t.im, .slice A' t.xs.length cap'] 25 (w.heap.size + 1 + 1) (by simp)
  have hg := h2.ok.ptHeap
  have h3 := h2.trans h2.ok.seal1
  obtain ⟨S1, hS1⟩ : ∃ S1 : Blk, S1 = fun x => S x ∨ x = w.heap.size + 1 + 1 := ⟨_, rfl⟩
  rw [← hS1] at h3
  have hsb : S1 (w.heap.size + 1 + 1) := by rw [hS1]; exact .inr rfl
  have hL := Light_spec (cap := 2) (kids_two hsb hg (hT.to h3) (hT'.to h3)) (by simp)
  obtain ⟨⟨y0, y1, y2, y3, y4, y5⟩, -, y6⟩ := h3.ok.pt6
  obtain ⟨⟨x0, x1, x2, x3, x4, x5⟩, -, x6⟩ := h3.p1.ok.pt6
  have HL := Lib.hid hL
  have H3 := Lib.hid h3
  have HT := Lib.hid (hT.to h3)
  have HT' := Lib.hid (hT'.to h3)
  have HRS := Lib.hid rs
  have HRT := Lib.hid rt
  clear hS1 h2 h3 hL hg hT hT' hO hsb rs rt
  generalize hlv : Light [s, t] 0 4000 = lv at HL
  clear hlv
  cases lv with
  | false =>
    go_enter Try.func6, Try.ntmps6
    go_wp2_with fail
    refine HL.out.mono ?_
    rintro e w1 ⟨rfl, hB⟩
    have H4 := Lib.hid (H3.out.below hB)
    clear hB
    go_wp2_with fail
    refine (awake7_spec H4.out.ok).mono ?_
    rintro e w2 ⟨rfl, h5⟩
    have H5 := Lib.hid (H4.out.trans h5).drop.drop.small
    clear h5
    go_wp2
    go_ret
    exact ⟨rfl, H5.out⟩
  | true =>
    go_enter Try.func6, Try.ntmps6
    go_wp2_with fail
    refine HL.out.mono ?_
    rintro e w1 ⟨rfl, hB⟩
    have h4 := H3.out.below hB
    have HT4 := Lib.hid (HT.out.to (H3.out.ok.below hB))
    have HT4' := Lib.hid (HT'.out.to (H3.out.ok.below hB))
    clear x0 x1 x2 x3 x4 x5 x6 y0 y1 y2 y3 y4 y5 y6 hB HL H3 HT HT'
    obtain ⟨⟨y0, y1, y2, y3, y4, y5⟩, -, y6⟩ := h4.ok.pt6
    obtain ⟨⟨x0, x1, x2, x3, x4, x5⟩, -, x6⟩ := h4.p1.ok.pt6
    have hm := May_spec h4.ok HT4.out
    have HM := Lib.hid hm
    have H4 := Lib.hid h4
    clear hm h4
    by_cases hms : May s = 0
    case neg =>
      have hmb : ((May s : Int) != 0) = true := by simp [bne]; omega
      clear hms
      go_wp2_with fail
      refine HM.out.mono ?_
      rintro e w2 ⟨rfl, h5⟩
      have H5 := Lib.hid (H4.out.trans h5)
      clear h5
      go_wp2_with fail
      refine (awake7_spec H5.out.ok).mono ?_
      rintro e w2 ⟨rfl, h5⟩
      have H6 := Lib.hid (H5.out.trans h5).drop.drop.small
      clear h5
      go_wp2
      go_ret
      exact ⟨rfl, H6.out⟩
    rw [hms] at HM
    go_wp2_with fail
    refine HM.out.mono ?_
    rintro e w2 ⟨rfl, h5⟩
    have h5b := H4.out.trans h5
    have HT5 := Lib.hid (HT4.out.to h5)
    have HT5' := Lib.hid (HT4'.out.to h5)
    clear x0 x1 x2 x3 x4 x5 x6 y0 y1 y2 y3 y4 y5 y6 h5 HM H4 HT4 HT4'
    obtain ⟨⟨y0, y1, y2, y3, y4, y5⟩, -, y6⟩ := h5b.ok.pt6
    obtain ⟨⟨x0, x1, x2, x3, x4, x5⟩, -, x6⟩ := h5b.p1.ok.pt6
    have hm := May_spec h5b.ok HT5'.out
    have HM := Lib.hid hm
    have H5 := Lib.hid h5b
    clear hm h5b
    by_cases hmt : May t = 0
    case neg =>
      have hmb : ((May t : Int) != 0) = true := by simp [bne]; omega
      clear hmt hms
      go_wp2_with fail
      refine HM.out.mono ?_
      rintro e w2 ⟨rfl, h5⟩
      have H6 := Lib.hid (H5.out.trans h5)
      clear h5
      go_wp2_with fail
      refine (awake7_spec H6.out.ok).mono ?_
      rintro e w2 ⟨rfl, h5⟩
      have H7 := Lib.hid (H6.out.trans h5).drop.drop.small
      clear h5
      go_wp2
      go_ret
      exact ⟨rfl, H7.out⟩
    rw [hmt] at HM
    obtain ⟨r1, hr1⟩ : ∃ r1, r1 = putP 1048576 s ⟨[], names0, []⟩ := ⟨_, rfl⟩
    obtain ⟨r2, hr2⟩ : ∃ r2, r2 = putP 1048576 t ⟨r1.2.C, r1.2.L, []⟩ := ⟨_, rfl⟩
    obtain ⟨q1, q2, q3, q4, q5, q6⟩ := two_back hms hmt HRS.out HRT.out hr1 hr2
    have HVS := Lib.hid (variant_ren hms)
    have HVT := Lib.hid (variant_ren hmt)
    clear hms hmt HRS HRT
    have HR1 := Lib.hid hr1
    have HR2 := Lib.hid hr2
    clear hr1 hr2
    obtain ⟨⟨c1, e1⟩, st1⟩ := r1
    obtain ⟨⟨c2, e2⟩, st2⟩ := r2
    simp only at q1 q2 q3 q4 q5 q6 HR1 HR2
    subst q1 q2
    have HQ3 := Lib.hid q3
    have HQ4 := Lib.hid q4
    clear q3 q4
    go_wp2_with fail
    refine HM.out.mono ?_
    rintro e w3 ⟨rfl, h6⟩
    have H6 := Lib.hid (H5.out.trans h6)
    have HT6 := Lib.hid (HT5.out.to h6)
    have HT6' := Lib.hid (HT5'.out.to h6)
    clear x0 x1 x2 x3 x4 x5 x6 y0 y1 y2 y3 y4 y5 y6 h6 HM H5 HT5 HT5'
    go_wp2_with fail
    refine (new_spec H6.out.ok (1048576 : Int) 1048576 rfl (by omega)).mono ?_
    rintro e w4 ⟨p, rfl, h7⟩
    have H7 := Lib.hid (H6.out.trans h7)
    have HT7 := Lib.hid (HT6.out.to h7)
    have HT7' := Lib.hid (HT6'.out.to h7)
    clear h7 H6 HT6 HT6'
    go_wp2_with fail
    refine (anew_spec H7.out.ok).mono ?_
    rintro e w5 ⟨a, rfl, h8⟩
    have h8b := (H7.out.trans h8).p1
    have HT8 := Lib.hid (HT7.out.to h8)
    have HT8' := Lib.hid (HT7'.out.to h8)
    obtain ⟨⟨y0, y1, y2, y3, y4, y5⟩, -, y6⟩ := h8b.p2.ok.pt6
    obtain ⟨⟨x0, x1, x2, x3, x4, x5⟩, -, x6⟩ := h8b.p3.ok.pt6
    have hput := put_nil h8b.ok HT8.out
    rw [← HR1.out] at hput
    have HP := Lib.hid hput
    have H8 := Lib.hid h8b
    clear h8 h8b hput H7 HT7 HT7'
    go_wp2_with fail
    refine HP.out.mono ?_
    rintro e w6 ⟨rfl, h9⟩
    have h9b := H8.out.trans h9
    have HT9 := Lib.hid (HT8.out.to h9)
    have HT9' := Lib.hid (HT8'.out.to h9)
    clear x0 x1 x2 x3 x4 x5 x6 y0 y1 y2 y3 y4 y5 y6
    obtain ⟨⟨y0, y1, y2, y3, y4, y5⟩, -, y6⟩ := h9b.p2.ok.pt6
    obtain ⟨⟨x0, x1, x2, x3, x4, x5⟩, -, x6⟩ := h9b.p3.ok.pt6
    have hput := put_nil h9b.ok HT9'.out
    rw [← HR2.out] at hput
    have HP := Lib.hid hput
    have H9 := Lib.hid h9b
    clear h9 h9b hput H8 HT8 HT8'
    go_wp2_with fail
    refine HP.out.mono ?_
    rintro e w7 ⟨rfl, h10⟩
    have h10b := H9.out.trans h10
    have HT10 := Lib.hid (HT9.out.to h10)
    have HT10' := Lib.hid (HT9'.out.to h10)
    have hget := get_nil h10b.ok c1 q5 rfl
    rw [HQ3.out] at hget
    have HG := Lib.hid hget
    have H10 := Lib.hid h10b
    clear x0 x1 x2 x3 x4 x5 x6 y0 y1 y2 y3 y4 y5 y6 h10 h10b hget H9 HT9 HT9' HP HR1 HR2 HQ3
    go_wp2_with fail
    refine HG.out.mono ?_
    rintro e w8 ⟨tc, S8, hq, rfl, h11, hk⟩
    obtain ⟨⟨k, sx, n, re, im, xs⟩, A1, cp⟩ := tc
    simp only [Tc.six, Tm.k, Tm.s, Tm.n, Tm.re, Tm.im, Tm.xs] at hk
    have ha := h11.ok.to.allocPt' #[.int .i64 k, .string sx, .int .i64 n, .int .u64 re, .int .u64 im, .slice A1 xs.length cp] 25 w8.heap.size rfl
    have h12 := ((H10.out.trans h11).trans ha).p2.p2
    have HT12 := Lib.hid ((HT10.out.to h11).to ha)
    have HT12' := Lib.hid ((HT10'.out.to h11).to ha)
    have HK12 := Lib.hid (hk.to ha)
    have hget := get_nil h12.ok c2 q6 rfl
    rw [HQ4.out] at hget
    have HG := Lib.hid hget
    have H12 := Lib.hid h12
    have HQ := Lib.hid hq
    clear h11 ha h12 hk hq hget H10 HT10 HT10' HQ4
    simp only [Tc.six, Tm.k, Tm.s, Tm.n, Tm.re, Tm.im, Tm.xs]
    go_wp2_with fail
    refine HG.out.mono ?_
    rintro e w9 ⟨tc, S9, hq2, rfl, h13, hk⟩
    obtain ⟨⟨k2, sx2, n2, re2, im2, xs2⟩, A2, cp2⟩ := tc
    simp only [Tc.six, Tm.k, Tm.s, Tm.n, Tm.re, Tm.im, Tm.xs] at hk
    have ha := h13.ok.to.allocPt' #[.int .i64 k2, .string sx2, .int .i64 n2, .int .u64 re2, .int .u64 im2, .slice A2 xs2.length cp2] 25 w9.heap.size rfl
    have h14 := (H12.out.trans h13).trans ha
    have HT14 := Lib.hid ((HT12.out.to h13).to ha)
    have HT14' := Lib.hid ((HT12'.out.to h13).to ha)
    have HK14 := Lib.hid ((HK12.out.to h13).to ha)
    have HK14' := Lib.hid (hk.to ha)
    obtain ⟨⟨u0, u1, u2, u3, u4, u5⟩, -, u6⟩ := h14.ok.pt6
    obtain ⟨⟨v0, v1, v2, v3, v4, v5⟩, -, v6⟩ := h14.p3.ok.pt6
    obtain ⟨⟨y0, y1, y2, y3, y4, y5⟩, -, y6⟩ := h14.p4.ok.pt6
    obtain ⟨⟨x0, x1, x2, x3, x4, x5⟩, -, x6⟩ := h14.p5.ok.pt6
    have hv := variant_spec h14.ok HK14.out HT14.out (by rw [HQ.out]; exact HVS.out)
    have HV := Lib.hid hv
    have H14 := Lib.hid h14
    have HQ2 := Lib.hid hq2
    clear h13 ha h14 hk hq2 hv H12 HT12 HT12' HK12 HVS
    simp only [Tc.six, Tm.k, Tm.s, Tm.n, Tm.re, Tm.im, Tm.xs]
    go_wp2_with fail
    refine HV.out.mono ?_
    rintro e w10 ⟨rfl, h15⟩
    have h15b := H14.out.trans h15
    clear x0 x1 x2 x3 x4 x5 x6 y0 y1 y2 y3 y4 y5 y6 u0 u1 u2 u3 u4 u5 u6 v0 v1 v2 v3 v4 v5 v6
    obtain ⟨⟨u0, u1, u2, u3, u4, u5⟩, -, u6⟩ := h15b.ok.pt6
    obtain ⟨⟨y0, y1, y2, y3, y4, y5⟩, -, y6⟩ := h15b.p4.ok.pt6
    have hv := variant_spec h15b.ok (HK14'.out.to h15) (HT14'.out.to h15) (by rw [HQ2.out]; exact HVT.out)
    have HV := Lib.hid hv
    have H15 := Lib.hid h15b
    clear h15 h15b hv H14 HT14 HT14' HK14 HK14'
    go_wp2_with fail
    refine HV.out.mono ?_
    rintro e w11 ⟨rfl, h16⟩
    have H16 := Lib.hid (H15.out.trans h16)
    clear h16 H15 HV u0 u1 u2 u3 u4 u5 u6 y0 y1 y2 y3 y4 y5 y6
    go_wp2_with fail
    refine (awake7_spec H16.out.ok).mono ?_
    rintro e w12 ⟨rfl, h17⟩
    have H17 := Lib.hid (H16.out.trans h17).drop.drop.drop.drop.drop.drop.small
    clear h17 H16
    go_wp2
    go_ret
    exact ⟨rfl, H17.out⟩
#print axioms two_spec
end Go.Proofs.Ytceahdlcbiialaa
