/- The reference's Plain, plainOne, vars, Vars. -/
import Derived.Test.YtceahdlcbiialaaF5M19
import Derived.Test.YtceahdlcbiialaaF5M16
set_option linter.unusedVariables false
set_option linter.unusedSimpArgs false
namespace Go.Proofs.Ytceahdlcbiialaa
open Go.RowKit

mutual
theorem good_slim : ∀ (t : Tm), good t → slim t
  | .mk k s n re im xs, ⟨h1, h2⟩ => by
    unfold slim
    intro h5
    have := one_len (t := .mk k s n re im xs) h1 h5
    simp only [Tm.xs] at this
    exact ⟨by omega, goodL_slim xs (h2 h5)⟩
theorem goodL_slim : ∀ (l : List Tm), goodL l → slimL l
  | [], _ => trivial
  | t :: r, ⟨h1, h2⟩ => ⟨good_slim t h1, goodL_slim r h2⟩
end
abbrev zero6 : Array Value := #[.int .i64 0, .string ⟨#[]⟩, .int .i64 0, .int .u64 0, .int .u64 0, .slice none 0 0]
theorem none_tm {w : World} {S : Blk} : TmC w S zero6.toList tNone := leaf_any (by omega) (by decide) (by omega) (by omega) (by omega) 0
def PlainT (t : Tm) : Tm := if May t ≠ 0 then tNone else plainT t

set_option maxRecDepth 100000 in
set_option maxHeartbeats 1000000 in
theorem Plain_spec {w : World} {S : Blk} {Γ : List Asn} {cs : List Value} {t : Tm} (hO : Ok w S Γ) (hT : TmC w S cs t) :
    Calls Try.prog 90 #[.agg cs.toArray] w fun e w' => ∃ (c : Tc) (S' : Blk), c.t = PlainT t ∧ e = .returned (.agg c.six.toArray) ∧ To w S w' S' Γ ∧ TmC w' S' c.six c.t := by
  obtain ⟨A, cap, rfl⟩ := hT.form0
  have h1 := (hO.to.allocPt' #[.int .i64 t.k, .string t.s, .int .i64 t.n, .int .u64 t.re, .int .u64 t.im, .slice A t.xs.length cap] 25 w.heap.size rfl).allocPt' zero6 25 (w.heap.size + 1) (by simp)
  have hm := May_spec h1.ok (hT.to h1)
  have HM := Lib.hid hm; clear hm
  have HT := Lib.hid hT; clear hT
  have H1 := Lib.hid h1; clear h1 hO
  by_cases h0 : May t = 0
  · have HS := Lib.hid (good_slim t (May_zero h0).2)
    have hPT : PlainT t = plainT t := by unfold PlainT; rw [if_neg (by simp [h0])]
    rw [hPT]
    rw [h0] at HM
    clear hPT h0
    go_enter Try.func90, Try.ntmps90
    go_wp2_with (go_at_call 24; refine HM.out.mono ?_; rintro e w2 ⟨rfl, h2⟩; obtain ⟨⟨x0, x1, x2, x3, x4, x5⟩, -, x6⟩ := h2.p1.ok.pt6; have hT2 := (HT.out.to H1.out).to h2; have H2 := Lib.hid (H1.out.trans h2); have HT2 := Lib.hid hT2; clear h2 hT2)
    refine (plain_spec t _ _ _ _ H2.out.ok HT2.out HS.out).mono ?_
    rintro e w3 ⟨c, S3, hc, rfl, h3, hT3⟩
    obtain ⟨⟨z0, z1, z2, z3, z4, z5⟩, ⟨y0, y1, y2, y3, y4, y5⟩, y6⟩ := h3.ok.pt6
    have h4 := (H2.out.trans h3).ptSet6 (.int .i64 c.t.k) (.string c.t.s) (.int .i64 c.t.n) (.int .u64 c.t.re) (.int .u64 c.t.im) (.slice c.A c.t.xs.length c.c)
    have hT4 := hT3.to (h3.ok.to.ptSet6 (.int .i64 c.t.k) (.string c.t.s) (.int .i64 c.t.n) (.int .u64 c.t.re) (.int .u64 c.t.im) (.slice c.A c.t.xs.length c.c))
    have H4 := Lib.hid h4.drop.drop
    have HT4 := Lib.hid hT4
    have HC := Lib.hid hc
    clear h3 hT3 h4 hT4 hc H1 H2 HM HT x0 x1 x2 x3 x4 x5
    go_wp2
    refine bodyPost_ret (v := .agg c.six.toArray) (by simp [results, Try.results90, *, go_sem]) rfl ?_
    exact ⟨c, S3, HC.out, rfl, H4.out, HT4.out⟩
  · have hPT : PlainT t = tNone := by unfold PlainT; rw [if_pos h0]
    rw [hPT]
    have hb : ((May t : Int) != 0) = true := by simp [bne]; omega
    clear hPT h0
    go_enter Try.func90, Try.ntmps90
    go_wp2_with (go_at_call 24; refine HM.out.mono ?_; rintro e w2 ⟨rfl, h2⟩; obtain ⟨⟨z0, z1, z2, z3, z4, z5⟩, ⟨y0, y1, y2, y3, y4, y5⟩, y6⟩ := h2.ok.pt6; have H2 := Lib.hid ((H1.out.trans h2).ptSet6 (.int .i64 0) (.string ⟨#[]⟩) (.int .i64 0) (.int .u64 0) (.int .u64 0) (.slice none 0 0)).drop.drop; clear h2)
    refine bodyPost_ret (v := .agg zero6) (by simp [results, Try.results90, *, go_sem]) rfl ?_
    exact ⟨⟨tNone, none, 0⟩, S, rfl, rfl, H2.out, none_tm⟩
#print axioms Plain_spec

def intsV (l : List Int) : List Value := l.map fun x => Value.int .i64 x
/-- A slice that reads as these numbers. -/
theorem row_readI {w : World} {S : Blk} {v : Value} {e : TypeId} {l : List Int} {Γ : List Asn} (h : Ok w S (Row v e 1 l.length (intsV l) :: Γ)) : ∃ A c, v = .slice A l.length c ∧ ∀ (i : Nat) (x : Int), l[i]? = some x → ∃ ad, A = some ad ∧ w.cell? (ad.add i) = some (.int .i64 x) := by
  have ho := h.rowOwns
  rcases ho.2 with ⟨rfl, hn⟩ | ⟨g, cap, cur, rfl, _⟩
  · refine ⟨none, 0, by rw [hn], fun i x hx => ?_⟩
    have := (List.getElem?_eq_some_iff.1 hx).1
    omega
  · refine ⟨_, cap, rfl, fun i x hx => ⟨_, rfl, ho.cells (g := g) rfl i _ (by simp [intsV, hx])⟩⟩
mutual
/-- The variables of a term, behind those that were met. -/
def varsT : Tm → List Int → List Int
  | .mk k _ n _ _ xs, l => if k = 1 then (if n ∈ l then l else l ++ [n]) else if k = 5 then varsL xs l else l
def varsL : List Tm → List Int → List Int
  | [], l => l
  | t :: r, l => varsL r (varsT t l)
end
theorem varsL_take (xs : List Tm) (l : List Int) : ∀ (j : Nat) (x : Tm), xs[j]? = some x → varsL (xs.take (j + 1)) l = varsT x (varsL (xs.take j) l) := by
  induction xs generalizing l with
  | nil => intro j x h; simp at h
  | cons t r ih =>
    intro j x h
    cases j with
    | zero => simp at h; subst h; simp [varsL]
    | succ j => simp only [List.take_succ_cons, varsL]; exact ih _ j x (by simpa using h)
mutual
theorem varsT_len : ∀ (t : Tm) (l : List Int), (varsT t l).length ≤ l.length + nodes t
  | .mk k s n re im xs, l => by
    unfold varsT
    simp only [nodes]
    split
    · split <;> simp
    · split
      · have := varsL_len xs l; omega
      · omega
theorem varsL_len : ∀ (xs : List Tm) (l : List Int), (varsL xs l).length ≤ l.length + nodesL xs
  | [], l => by simp [varsL, nodesL]
  | t :: r, l => by
    have h1 := varsT_len t l
    have h2 := varsL_len r (varsT t l)
    simp only [varsL, nodesL]
    omega
end
theorem nodesL_get : ∀ (xs : List Tm) (j : Nat) (x : Tm), xs[j]? = some x → nodesL (xs.take j) + nodes x ≤ nodesL xs
  | [], j, x, h => by simp at h
  | t :: r, 0, x, h => by simp at h; subst h; simp [nodesL]
  | t :: r, j + 1, x, h => by
    have := nodesL_get r j x (by simpa using h)
    simp only [List.take_succ_cons, nodesL]
    omega
theorem info2 : (Try.prog.info? 2).map (fun i => (i.zero, i.size, i.bytes)) = some (some (.int .i64 0), 1, 8) := by kernel_rfl
def VarsS (t : Tm) : Prop := ∀ (w : World) (S : Blk) (Γ : List Asn) (cs : List Value) (v : Value) (l : List Int), Ok w S (Row v 2 1 l.length (intsV l) :: Γ) → TmC w S cs t → l.length + nodes t ≤ 10000 →
  Calls Try.prog 89 #[.agg cs.toArray, v] w fun e w' => ∃ v', e = .returned v' ∧ To w S w' S (Row v' 2 1 (varsT t l).length (intsV (varsT t l)) :: Γ)
set_option maxRecDepth 100000 in
set_option maxHeartbeats 4000000 in
theorem vars_spec (t : Tm) : VarsS t := by
  refine Tm.ind ?_ t
  intro k s n re im xs ih w S Γ cs v l hO hT hb
  obtain ⟨A, cap, rfl, ⟨hk, hsz, hn, hre, him, hxl⟩, hA⟩ := hT.form
  simp only [Tm.k, Tm.s, Tm.n, Tm.re, Tm.im, Tm.xs] at hk hsz hn hre him hxl hA hT ⊢
  obtain ⟨A0, c0, rfl, hr⟩ := row_readI hO
  have h1 := hO.to.allocPt' #[.int .i64 k, .string s, .int .i64 n, .int .u64 re, .int .u64 im, .slice A xs.length cap] 25 w.heap.size rfl
  have HR := Lib.hid hr; clear hr
  have HA := Lib.hid hA; clear hA
  have HT := Lib.hid hT; clear hT
  by_cases k1 : k = 1
  · subst k1
    have hl : l.length ≤ 10000 := by omega
    have H1 := Lib.hid h1; clear h1 hO
    have e0 : varsT (.mk 1 s n re im xs) l = if n ∈ l then l else l ++ [n] := by simp [varsT]
    generalize varsT (.mk 1 s n re im xs) l = r at e0
    have HE := Lib.hid e0; clear e0
    clear HR
    go_enter Try.func89, Try.ntmps89
    go_wp2
    go_loopw [14] (fun i wr => ∃ j : Nat, i = .int .i64 j ∧ j ≤ l.length ∧ (∀ x ∈ l.take j, x ≠ n) ∧ To w S wr S (Pt w.heap.size #[.int .i64 1, .string s, .int .i64 n, .int .u64 re, .int .u64 im, .slice A xs.length cap] 25 :: Row (.slice A0 l.length c0) 2 1 l.length (intsV l) :: Γ)) (fun i _ => l.length - (intOf i).toNat)
    case atStart => exact ⟨0, rfl, Nat.zero_le _, by simp, H1.out⟩
    case round =>
      obtain ⟨j, rfl, hj, hne, hTo⟩ := hrel
      have f2 : wr.cell? ⟨w.heap.size, 2, none⟩ = some (.int .i64 n) := hTo.ok.ptCell 2 _ rfl
      by_cases hlt : j < l.length
      · obtain ⟨A1, c1, e1, hr1⟩ := row_readI hTo.p1.ok
        cases e1
        obtain ⟨ad, rfl, hc⟩ := hr1 j l[j] (List.getElem?_eq_getElem hlt)
        have hmem : l[j] ∈ l := List.getElem_mem hlt
        have htake : l.take (j + 1) = l.take j ++ [l[j]] := by rw [List.take_add_one, List.getElem?_eq_getElem hlt]; rfl
        generalize l[j] = y at hc hmem htake
        have HTo := Lib.hid hTo; clear hTo
        by_cases hy : y = n
        · subst hy
          have HMEM := Lib.hid hmem; clear hmem hne htake hr1
          go_wp2
          go_ret
          have e1 := HE.out
          rw [if_pos HMEM.out] at e1
          rw [e1]
          exact ⟨_, rfl, HTo.out.drop⟩
        · have hyb : (y == n) = false := beq_eq_false_iff_ne.2 hy
          have HNE := Lib.hid hne
          have HTK := Lib.hid htake
          clear hne htake hr1 hmem
          go_wp2
          go_roundw
          case rel =>
            refine ⟨j + 1, by go_num, by omega, ?_, HTo.out⟩
            rw [HTK.out]
            intro x hx
            rcases List.mem_append.1 hx with hx | hx
            · exact HNE.out x hx
            · rw [List.mem_singleton.1 hx]; exact hy
          case measure => simp [intOf]; omega
      · obtain rfl : j = l.length := by omega
        rw [List.take_length] at hne
        have HTo := Lib.hid hTo; clear hTo
        have HNE := Lib.hid hne; clear hne
        go_wp2_with (at_builtin; refine wpList_append_new rfl (.tmp 24) (.tmp 27) 42 2 (.int .i64 0) 1 8 rfl Try.underlying42 info2 rfl (by decide) (by decide) HTo.out.p1 rfl #[.int .i64 n] rfl rfl (by simp [Value.oneCell']) (by omega) ?_)
        intro A' c' W' H2
        have H3 := Lib.hid H2.p1.drop
        clear H2
        go_wp2
        go_ret
        have e1 := HE.out
        rw [if_neg (fun hm => HNE.out n hm rfl)] at e1
        rw [e1]
        refine ⟨_, rfl, ?_⟩
        have h4 := H3.out
        simpa [intsV] using h4
  by_cases k5 : k = 5
  · subst k5
    have e0 : varsT (.mk 5 s n re im xs) l = varsL xs l := by simp [varsT]
    rw [e0]
    simp only [nodes, if_true] at hb
    have H1 := Lib.hid h1; clear h1 hO
    clear e0 HR
    go_enter Try.func89, Try.ntmps89
    go_wp2
    go_loopw [35, 1] (fun i u wr => ∃ (j : Nat), i = .int .i64 j ∧ j ≤ xs.length ∧ To w S wr S (Pt w.heap.size #[.int .i64 5, .string s, .int .i64 n, .int .u64 re, .int .u64 im, .slice A xs.length cap] 25 :: Row u 2 1 (varsL (xs.take j) l).length (intsV (varsL (xs.take j) l)) :: Γ)) (fun i _ _ => xs.length - (intOf i).toNat)
    case atStart => exact ⟨0, rfl, Nat.zero_le _, H1.out⟩
    case round =>
      obtain ⟨j, rfl, hj, hTo⟩ := hrel
      by_cases hlt : j < xs.length
      · have hx : xs[j]? = some xs[j] := List.getElem?_eq_getElem hlt
        obtain ⟨g, o, A', cap', rfl, hS, g0, g1, g2, g3, g4, g5, hxT⟩ := HA.out j _ hx
        have f0 := hTo.cell (a := ⟨g, _, none⟩) hS g0
        have f1 := hTo.cell (a := ⟨g, _, none⟩) hS g1
        have f2 := hTo.cell (a := ⟨g, _, none⟩) hS g2
        have f3 := hTo.cell (a := ⟨g, _, none⟩) hS g3
        have f4 := hTo.cell (a := ⟨g, _, none⟩) hS g4
        have f5 := hTo.cell (a := ⟨g, _, none⟩) hS g5
        have hal := hTo.alloc (.cells #[.int .i64 xs[j].k, .string xs[j].s, .int .i64 xs[j].n, .int .u64 xs[j].re, .int .u64 xs[j].im, .slice A' xs[j].xs.length cap'] 25)
        have hbb : (varsL (xs.take j) l).length + nodes xs[j] ≤ 10000 := by
          have := varsL_len (xs.take j) l
          have := nodesL_get xs j _ hx
          omega
        have hcall := (ih _ (List.getElem_mem hlt)) _ S _ _ _ _ hal.p1.ok (hxT.to hal) hbb
        rw [← varsL_take xs l j _ hx] at hcall
        have HC := Lib.hid hcall; clear hcall
        have HAL := Lib.hid hal; clear hal hTo
        clear g0 g1 g2 g3 g4 g5 hbb
        go_wp2_with (go_at_call 89; refine HC.out.mono ?_; rintro e w2 ⟨v2, rfl, h2⟩; have H2 := Lib.hid ((HAL.out.p1.trans h2).p1); clear h2)
        clear f0 f1 f2 f3 f4 f5
        go_roundw
        case rel => exact ⟨j + 1, by go_num, by omega, H2.out⟩
        case measure => simp [intOf]; omega
      · obtain rfl : j = xs.length := by omega
        rw [List.take_length] at hTo
        have HTo := Lib.hid hTo; clear hTo
        go_wp2
        go_ret
        exact ⟨_, rfl, HTo.out.drop⟩
  · have e0 : varsT (.mk k s n re im xs) l = l := by simp [varsT, k1, k5]
    rw [e0]
    have b1 : (k == 1) = false := beq_eq_false_iff_ne.2 k1
    have b5 : (k == 5) = false := beq_eq_false_iff_ne.2 k5
    have H1 := Lib.hid h1; clear h1 hO e0 HR
    go_enter Try.func89, Try.ntmps89
    go_wp2
    go_ret
    exact ⟨_, rfl, H1.out.drop⟩
#print axioms vars_spec
def VarsT (t : Tm) : List Int := if May t ≠ 0 then [] else varsT t []
set_option maxRecDepth 100000 in
set_option maxHeartbeats 1000000 in
theorem Vars_spec {w : World} {S : Blk} {Γ : List Asn} {cs : List Value} {t : Tm} (hO : Ok w S Γ) (hT : TmC w S cs t) :
    Calls Try.prog 32 #[.agg cs.toArray] w fun e w' => ∃ v, e = .returned v ∧ To w S w' S (Row v 2 1 (VarsT t).length (intsV (VarsT t)) :: Γ) := by
  obtain ⟨A, cap, rfl⟩ := hT.form0
  have h1 := hO.to.allocPt' #[.int .i64 t.k, .string t.s, .int .i64 t.n, .int .u64 t.re, .int .u64 t.im, .slice A t.xs.length cap] 25 w.heap.size rfl
  have hm := May_spec h1.ok (hT.to h1)
  have HM := Lib.hid hm; clear hm
  have HT := Lib.hid hT; clear hT
  have H1 := Lib.hid h1; clear h1 hO
  by_cases h0 : May t = 0
  · have HN := Lib.hid (May_zero h0).1
    have hPT : VarsT t = varsT t [] := by unfold VarsT; rw [if_neg (by simp [h0])]
    rw [hPT]
    rw [h0] at HM
    clear hPT h0
    go_enter Try.func32, Try.ntmps32
    go_wp2_with (go_at_call 24; refine HM.out.mono ?_; rintro e w2 ⟨rfl, h2⟩; obtain ⟨⟨x0, x1, x2, x3, x4, x5⟩, -, x6⟩ := h2.ok.pt6; have hT2 := (HT.out.to H1.out).to h2; have H2 := Lib.hid ((H1.out.trans h2).re fun kk => kk.rowNil 2 1); have HT2 := Lib.hid hT2; clear h2 hT2)
    refine (vars_spec t _ _ _ _ _ [] H2.out.ok HT2.out (by have := HN.out; simp only [List.length_nil]; omega)).mono ?_
    rintro e w3 ⟨v, rfl, h3⟩
    have H3 := Lib.hid (H2.out.trans h3).p1.drop
    clear h3 x0 x1 x2 x3 x4 x5
    go_wp2
    go_ret
    exact ⟨_, rfl, H3.out⟩
  · have hPT : VarsT t = [] := by unfold VarsT; rw [if_pos h0]
    rw [hPT]
    have hb : ((May t : Int) != 0) = true := by simp [bne]; omega
    clear hPT h0
    go_enter Try.func32, Try.ntmps32
    go_wp2_with (go_at_call 24; refine HM.out.mono ?_; rintro e w2 ⟨rfl, h2⟩; have H2 := Lib.hid ((H1.out.trans h2).re fun kk => kk.rowNil 2 1).p1.drop; clear h2)
    go_ret
    exact ⟨_, rfl, H2.out⟩
#print axioms Vars_spec
end Go.Proofs.Ytceahdlcbiialaa
