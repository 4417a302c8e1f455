/- The laws' Map, at their function values. The same term with other numbers of variables is laid alike. No condition. -/
import Derived.Test.YtceahdlcbiialaaF5M20
set_option linter.unusedVariables false
set_option linter.unusedSimpArgs false
namespace Go.Proofs.Ytceahdlcbiialaa
open Go.RowKit

mutual
/-- Each variable by what a function tells. -/
def mapT (f : Int → Tm) : Tm → Tm
  | .mk k s n re im xs => if k = 1 then f n else if k ≠ 5 then PlainT (.mk k s n re im xs) else .mk 5 s 0 0 0 (mapL f xs)
def mapL (f : Int → Tm) : List Tm → List Tm
  | [] => []
  | t :: r => mapT f t :: mapL f r
end
theorem mapL_map (f : Int → Tm) : ∀ l : List Tm, mapL f l = l.map (mapT f)
  | [] => rfl
  | t :: r => by simp [mapL, mapL_map f r]
set_option maxRecDepth 100000 in
set_option maxHeartbeats 1000000 in
theorem add_spec (n by' : Int) (b : Nat) (w : World) (hb : w.cell? ⟨b, 0, none⟩ = some (.int .i64 by')) : Calls Try.prog 34 #[.int .i64 n, .pointer (some ⟨b, 0, none⟩)] w fun e w' => e = .returned (.agg #[.int .i64 1, .string ⟨#[]⟩, .int .i64 (wrap64 (n + by')), .int .u64 0, .int .u64 0, .slice none 0 0]) ∧ Below w.heap.size w w' := by
  have hbl := World.block_lt_of_cell? w _ hb
  have h1 := (Below.refl w.heap.size w).alloc (Nat.le_refl _) (.cells zero6 25)
  have HV := Lib.hid (Var_spec (wrap64 (n + by')) (w.alloc (.cells zero6 25)))
  have H1 := Lib.hid h1; clear h1
  go_enter Try.func34, Try.ntmps34
  go_wp2_with fail
  refine HV.out.mono ?_
  rintro e w2 ⟨rfl, h2⟩
  have hz : (w.alloc (.cells zero6 25)).heap.size = w.heap.size + 1 := by simp
  have hblk : w2.heap[w.heap.size]? = some (.cells zero6 25 (0, 0)) := (h2.block _ (by omega)).trans (World.alloc_heap_new w _)
  have z0 : w2.cell? ⟨w.heap.size, 0, none⟩ = some (.int .i64 0) := by simp [World.cell?, hblk]
  have z1 : w2.cell? ⟨w.heap.size, 1, none⟩ = some (.string ⟨#[]⟩) := by simp [World.cell?, hblk]
  have z2 : w2.cell? ⟨w.heap.size, 2, none⟩ = some (.int .i64 0) := by simp [World.cell?, hblk]
  have z3 : w2.cell? ⟨w.heap.size, 3, none⟩ = some (.int .u64 0) := by simp [World.cell?, hblk]
  have z4 : w2.cell? ⟨w.heap.size, 4, none⟩ = some (.int .u64 0) := by simp [World.cell?, hblk]
  have z5 : w2.cell? ⟨w.heap.size, 5, none⟩ = some (.slice none 0 0) := by simp [World.cell?, hblk]
  have y : ∀ i : Nat, w2.frozen? ⟨w.heap.size, i, none⟩ = false := fun i => by simp [World.frozen?, hblk]
  have HBF := Lib.hid (H1.out.trans (h2.mono (by omega)))
  clear h2 hblk
  go_wp2
  refine bodyPost_ret (v := .agg #[.int .i64 1, .string ⟨#[]⟩, .int .i64 (wrap64 (n + by')), .int .u64 0, .int .u64 0, .slice none 0 0]) (by simp [results, Try.results34, *, go_sem]) rfl ?_
  refine ⟨rfl, ?_⟩
  have h9 := HBF.out
  exact (((((h9.setCell (Nat.le_refl _) _).setCell (Nat.le_refl _) _).setCell (Nat.le_refl _) _).setCell (Nat.le_refl _) _).setCell (Nat.le_refl _) _).setCell (Nat.le_refl _) _

def MapByS (t : Tm) : Prop := ∀ (w : World) (S : Blk) (Γ : List Asn) (cs : List Value) (bb : Nat) (by' : Int), Ok w S Γ → TmC w S cs t → slim t → S bb → w.cell? ⟨bb, 0, none⟩ = some (.int .i64 by') →
  Calls Try.prog 33 #[.agg cs.toArray, .func (.func 34) #[] #[.pointer (some ⟨bb, 0, none⟩)]] w fun e w' => ∃ (c : Tc) (S' : Blk), c.t = mapT (fun n => tVar (wrap64 (n + by'))) t ∧ e = .returned (.agg c.six.toArray) ∧ To w S w' S' Γ ∧ TmC w' S' c.six c.t
set_option maxRecDepth 100000 in
set_option maxHeartbeats 4000000 in
theorem MapBy_spec (t : Tm) : MapByS t := by
  refine Tm.ind ?_ t
  intro k s n re im xs ih w S Γ cs bb by' hO hT hsl hSb hbb
  obtain ⟨A, cap, rfl, ⟨hk, hsz, hn, hre, him, hxl⟩, hA⟩ := hT.form
  simp only [Tm.k, Tm.s, Tm.n, Tm.re, Tm.im, Tm.xs] at hk hsz hn hre him hxl hA hT ⊢
  have H := Lib.hid hO; clear hO
  have HA := Lib.hid hA; clear hA
  have HT := Lib.hid hT; clear hT
  by_cases k1 : k = 1
  · subst k1
    have h1 := (H.out.to.alloc (.cells #[.int .i64 1, .string s, .int .i64 n, .int .u64 re, .int .u64 im, .slice A xs.length cap] 25)).allocPt' zero6 25 (w.heap.size + 1) (by simp)
    have hcall := add_spec n by' bb _ (h1.cell (a := ⟨bb, 0, none⟩) hSb hbb)
    have HC := Lib.hid hcall; clear hcall
    have H1 := Lib.hid h1; clear h1
    have eR : mapT (fun n => tVar (wrap64 (n + by'))) (.mk 1 s n re im xs) = (tVar (wrap64 (n + by'))) := by simp [mapT]
    have ER := Lib.hid eR; clear eR
    go_enter Try.func33, Try.ntmps33
    go_wp2_with (go_at_call 34; refine HC.out.mono ?_; rintro e w2 ⟨rfl, hb⟩; have h2 := H1.out.below hb; obtain ⟨-, ⟨y0, y1, y2, y3, y4, y5⟩, y6⟩ := h2.ok.pt6; obtain ⟨⟨z0, z1, z2, z3, z4, z5⟩, -, -⟩ := h2.ok.pt6; have H2 := Lib.hid h2; clear h2 hb)
    have h3 := H2.out.ptSet6 (.int .i64 1) (.string ⟨#[]⟩) (.int .i64 (wrap64 (n + by'))) (.int .u64 0) (.int .u64 0) (.slice none 0 0)
    have H3 := Lib.hid h3.drop; clear h3
    refine bodyPost_ret (v := .agg #[.int .i64 1, .string ⟨#[]⟩, .int .i64 (wrap64 (n + by')), .int .u64 0, .int .u64 0, .slice none 0 0]) (by simp [results, Try.results33, *, go_sem]) rfl ?_
    refine ⟨⟨(tVar (wrap64 (n + by'))), none, 0⟩, S, ER.out.symm, rfl, H3.out, ?_⟩
    exact leaf_any (k := 1) (s := ⟨#[]⟩) (n := wrap64 (n + by')) (re := 0) (im := 0) (by omega) (by decide) (by (try unfold wrap64); omega) (by omega) (by omega) 0
  have b1 : (k == 1) = false := beq_eq_false_iff_ne.2 k1
  by_cases k5 : k = 5
  case neg =>
    have b5 : (k != 5) = true := by simp [k5]
    have h1 := (H.out.to.alloc (.cells #[.int .i64 k, .string s, .int .i64 n, .int .u64 re, .int .u64 im, .slice A xs.length cap] 25)).allocPt' zero6 25 (w.heap.size + 1) (by simp)
    have hcall := Plain_spec h1.ok (HT.out.to h1)
    have HC := Lib.hid hcall; clear hcall
    have H1 := Lib.hid h1; clear h1
    have eR : mapT (fun n => tVar (wrap64 (n + by'))) (.mk k s n re im xs) = PlainT (.mk k s n re im xs) := by simp [mapT, k1, k5]
    have ER := Lib.hid eR; clear eR
    go_enter Try.func33, Try.ntmps33
    go_wp2_with fail
    refine HC.out.mono ?_
    rintro e w2 ⟨c, S2, hc, rfl, h2, hT2⟩
    obtain ⟨⟨z0, z1, z2, z3, z4, z5⟩, ⟨y0, y1, y2, y3, y4, y5⟩, y6⟩ := h2.ok.pt6
    have h3 := (H1.out.trans h2).ptSet6 (.int .i64 c.t.k) (.string c.t.s) (.int .i64 c.t.n) (.int .u64 c.t.re) (.int .u64 c.t.im) (.slice c.A c.t.xs.length c.c)
    have HT3 := Lib.hid (hT2.to (h2.ok.to.ptSet6 (.int .i64 c.t.k) (.string c.t.s) (.int .i64 c.t.n) (.int .u64 c.t.re) (.int .u64 c.t.im) (.slice c.A c.t.xs.length c.c)))
    have H3 := Lib.hid h3.drop
    have HCE := Lib.hid hc
    clear h2 hT2 h3 hc
    go_wp2
    refine bodyPost_ret (v := .agg c.six.toArray) (by simp [results, Try.results33, *, go_sem]) rfl ?_
    exact ⟨c, S2, by rw [ER.out]; exact HCE.out, rfl, H3.out, HT3.out⟩
  subst k5
  clear b1 k1
  obtain ⟨hx100, hsx⟩ := hsl rfl
  have hb := ((H.out.to.alloc (.cells #[.int .i64 5, .string s, .int .i64 n, .int .u64 re, .int .u64 im, .slice A xs.length cap] 25)).allocPt' #[.int .i64 0, .string ⟨#[]⟩, .int .i64 0, .int .u64 0, .int .u64 0, .slice none 0 0] 25 (w.heap.size + 1) (by simp)).allocPt' #[.int .i64 5, .string s, .int .i64 0, .int .u64 0, .int .u64 0, .slice none 0 0] 25 (w.heap.size + 1 + 1) (by simp)
  have HB := Lib.hid hb; clear hb
  go_enter Try.func33, Try.ntmps33
  go_wp2
  go_loopw [28] (fun i wr => ∃ (j : Nat) (l : List Tc) (v : Value) (S1 : Blk), i = .int .i64 j ∧ j ≤ xs.length ∧ l.map (·.t) = (xs.take j).map (mapT (fun n => tVar (wrap64 (n + by')))) ∧ (∀ x ∈ l, TmC wr S1 x.six x.t) ∧
    To w S wr S1 (Pt (w.heap.size + 1 + 1) #[.int .i64 5, .string s, .int .i64 0, .int .u64 0, .int .u64 0, v] 25 :: Row v 25 6 j (tcV l) :: Pt (w.heap.size + 1) #[.int .i64 0, .string ⟨#[]⟩, .int .i64 0, .int .u64 0, .int .u64 0, .slice none 0 0] 25 :: Γ)) (fun i _ => xs.length - (intOf i).toNat)
  case atStart => exact ⟨0, [], _, S, rfl, Nat.zero_le _, by simp, by simp, HB.out.re fun kk => (kk.rowNil 25 6).p1⟩
  case round =>
    obtain ⟨j, l, v, S1, rfl, hj, hl, hlT, hTo⟩ := hrel
    have hlj : l.length = j := by
      have := congrArg List.length hl
      simp at this
      omega
    by_cases hlt : j < xs.length
    · have hx : xs[j]? = some xs[j] := List.getElem?_eq_getElem hlt
      obtain ⟨g, o, A', cap', rfl, hS, g0, g1, g2, g3, g4, g5, hxT⟩ := HA.out j _ hx
      have f0 := hTo.cell (a := ⟨g, _, none⟩) hS g0
      have f1 := hTo.cell (a := ⟨g, _, none⟩) hS g1
      have f2 := hTo.cell (a := ⟨g, _, none⟩) hS g2
      have f3 := hTo.cell (a := ⟨g, _, none⟩) hS g3
      have f4 := hTo.cell (a := ⟨g, _, none⟩) hS g4
      have f5 := hTo.cell (a := ⟨g, _, none⟩) hS g5
      have f6 : wr.cell? ⟨w.heap.size + 1 + 1, 5, none⟩ = some v := hTo.ok.ptCell 5 _ rfl
      have f7 := hTo.ok.ptLt
      have hal := hTo.alloc (.cells #[.int .i64 xs[j].k, .string xs[j].s, .int .i64 xs[j].n, .int .u64 xs[j].re, .int .u64 xs[j].im, .slice A' xs[j].xs.length cap'] 25)
      have hcall := (ih _ (List.getElem_mem hlt)) _ S1 _ _ bb by' hal.drew.ok (hxT.to hal.drew) (slimL_get hsx hx) (hTo.sub _ hSb) (hal.drew.cell (a := ⟨bb, 0, none⟩) hSb hbb)
      have HC := Lib.hid hcall; clear hcall
      have HL := Lib.hid hlT; clear hlT
      have HBASE := Lib.hid (hTo.ok.to.alloc (.cells #[.int .i64 xs[j].k, .string xs[j].s, .int .i64 xs[j].n, .int .u64 xs[j].re, .int .u64 xs[j].im, .slice A' xs[j].xs.length cap'] 25)).drew
      have HTo := Lib.hid hTo; clear hTo
      clear g0 g1 g2 g3 g4 g5
      go_wp2
      go_region_law (first | (go_simp; go_at_call 33; refine HC.out.mono ?_; rintro e w2 ⟨c, S2, hc, rfl, h2, hT2⟩; have HCE := Lib.hid hc; clear hc; have q1 : w2.cell? ⟨w.heap.size + 1 + 1, 5, none⟩ = some v := h2.ok.ptCell 5 _ rfl; have q2 := h2.ok.ptLt; have H2 := Lib.hid h2.ok.to; have H20 := Lib.hid h2; have HT2 := Lib.hid hT2; clear h2 hT2) | (refine step_append_new rfl (.tmp 33) (.tmp 37) 23 25 _ 6 72 rfl Try.underlying23 info25 rfl (by decide) (by decide) H2.out.p1 rfl c.six.toArray rfl rfl (by simp [Value.oneCell']) (by omega) ?_; intro A3 c3 W3 H3; have r1 : W3.cell? ⟨w.heap.size + 1 + 1, 5, none⟩ = some v := H3.p1.ok.ptCell 5 _ rfl; have r2 := H3.p1.ok.ptFree 5; have r3 := H3.p1.ok.ptLt; have HH3 := Lib.hid H3; clear H3))
      all_goals
        clear f0 f1 f2 f3 f4 f5 f6 f7 q1 q2
        have h6 := (HBASE.out.trans (H20.out.trans HH3.out)).p1.ptSet 5 (.slice A3 (j + 1) c3)
        have hT6 := HT2.out.to (HH3.out.p1.ptSet 5 (.slice A3 (j + 1) c3))
        have H6 := Lib.hid h6; clear h6
        have HT6 := Lib.hid hT6; clear hT6
        clear HH3 H20 H2 HBASE HT2
        go_wp2
        go_roundw
        case rel =>
          refine ⟨j + 1, l ++ [c], .slice A3 (j + 1) c3, S2, by go_num, by omega, ?_, ?_, ?_⟩
          · rw [List.map_append, hl, List.map_singleton, HCE.out, List.take_add_one, List.map_append, hx]; rfl
          · intro x hx
            rcases List.mem_append.1 hx with hx | hx
            · exact (HL.out x hx).to H6.out
            · rw [List.mem_singleton.1 hx]; exact HT6.out
          · have h7 := HTo.out.trans H6.out
            rw [tcV_append]
            simpa [tcV] using h7
        case measure => simp [intOf]; omega
    · obtain rfl : j = xs.length := by omega
      obtain ⟨A6, c6, rfl⟩ := hTo.p1.ok.rowShape
      obtain ⟨⟨f0, f1, f2, f3, f4, f5⟩, -, f6⟩ := hTo.ok.pt6
      obtain ⟨⟨z0, z1, z2, z3, z4, z5⟩, ⟨y0, y1, y2, y3, y4, y5⟩, y6⟩ := hTo.p2.ok.pt6
      have HW := Lib.hid (hTo.ok.to.p2.ptSet6 (.int .i64 5) (.string s) (.int .i64 0) (.int .u64 0) (.int .u64 0) (.slice A6 xs.length c6))
      have HTo := Lib.hid hTo; clear hTo
      have HL := Lib.hid hlT; clear hlT
      clear HB
      go_wp2
      refine bodyPost_ret (v := .agg #[.int .i64 5, .string s, .int .i64 0, .int .u64 0, .int .u64 0, .slice A6 xs.length c6]) (by simp [results, Try.results33, *, go_sem]) rfl ?_
      have e1 : l.map (·.t) = mapL (fun n => tVar (wrap64 (n + by'))) xs := by rw [hl, List.take_length, mapL_map]
      obtain ⟨S2, h8, hk8⟩ := HW.out.p2.ok.rowTerm (k := 5) (n := 0) (re := 0) (im := 0) (s := s) hlj (fun x hx => (HL.out x hx).to HW.out) ⟨by simp only [Tm.k]; omega, hsz, by simp only [Tm.n]; omega, by simp only [Tm.re]; omega, by simp only [Tm.im]; omega, by simp only [Tm.xs, List.length_map]; omega⟩
      have hh := ((HTo.out.trans HW.out).trans h8).drop.drop
      clear HW HL h8
      refine ⟨⟨.mk 5 s 0 0 0 (l.map (·.t)), A6, c6⟩, S2, ?_, ?_, ?_, ?_⟩
      · rw [e1]; simp [mapT]
      · simp only [Tc.six, Tm.k, Tm.s, Tm.n, Tm.re, Tm.im, Tm.xs, List.length_map, hlj]
      · exact hh
      · simp only [Tc.six, Tm.k, Tm.s, Tm.n, Tm.re, Tm.im, Tm.xs, List.length_map]
        rw [hlj]
        exact hk8
#print axioms MapBy_spec
end Go.Proofs.Ytceahdlcbiialaa
set_option linter.unusedVariables false
set_option linter.unusedSimpArgs false
namespace Go.Proofs.Ytceahdlcbiialaa
open Go.RowKit

mutual
/-- What is said of each variable's number. -/
def allV (P : Int → Prop) : Tm → Prop
  | .mk k _ n _ _ xs => (k = 1 → P n) ∧ (k = 5 → allVL P xs)
def allVL (P : Int → Prop) : List Tm → Prop
  | [] => True
  | t :: r => allV P t ∧ allVL P r
end
mutual
theorem varsT_sub : ∀ (t : Tm) (l : List Int), ∀ x ∈ l, x ∈ varsT t l
  | .mk k s n re im xs, l, x, hx => by
    unfold varsT
    split
    · split
      · exact hx
      · exact List.mem_append_left _ hx
    · split
      · exact varsL_sub xs l x hx
      · exact hx
theorem varsL_sub : ∀ (xs : List Tm) (l : List Int), ∀ x ∈ l, x ∈ varsL xs l
  | [], l, x, hx => hx
  | t :: r, l, x, hx => varsL_sub r _ x (varsT_sub t l x hx)
end
mutual
theorem allV_vars (P : Int → Prop) : ∀ (t : Tm) (l : List Int), (∀ x ∈ varsT t l, P x) → allV P t
  | .mk k s n re im xs, l, h => by
    unfold allV
    refine ⟨fun k1 => h n ?_, fun k5 => allVL_vars P xs l fun x hx => h x ?_⟩
    · unfold varsT
      rw [if_pos k1]
      split
      · assumption
      · simp
    · unfold varsT
      rw [if_neg (by omega), if_pos k5]
      exact hx
theorem allVL_vars (P : Int → Prop) : ∀ (xs : List Tm) (l : List Int), (∀ x ∈ varsL xs l, P x) → allVL P xs
  | [], l, h => trivial
  | t :: r, l, h => ⟨allV_vars P t l fun x hx => h x (by simp only [varsL]; exact varsL_sub r _ x hx), allVL_vars P r (varsT t l) h⟩
end
theorem one_zero {t : Tm} : one t = 0 ↔ 1 ≤ t.k ∧ t.k ≤ 5 ∧ (t.k = 1 → 0 ≤ t.n) ∧ (t.k = 5 → 1 ≤ t.xs.length ∧ t.xs.length ≤ 20) ∧ ((t.k = 2 ∨ t.k = 5) → t.s.size ≤ 200) := by
  unfold one
  split
  · constructor
    · intro h; cases h
    · intro h; omega
  · split
    · constructor
      · intro h; cases h
      · intro h; omega
    · constructor
      · intro h; omega
      · intro h; rfl
theorem may_leaf {k n re im : Int} {s : ByteArray} {xs : List Tm} (h1 : one (.mk k s n re im xs) = 0) (h5 : k ≠ 5) (d c : Nat) : may (.mk k s n re im xs) d (c, 0) = if 2000 < c + 1 ∨ 500 < d then (c + 1, 3) else (c + 1, 0) := by
  rw [may_eq]
  simp [h1, h5]
theorem plain_leaf {k n re im : Int} {s : ByteArray} {xs : List Tm} (h1 : one (.mk k s n re im xs) = 0) (h5 : k ≠ 5) : PlainT (.mk k s n re im xs) = .mk k (if k = 2 ∨ k = 5 then s else ⟨#[]⟩) (if k = 1 ∨ k = 3 then n else 0) (if k = 4 then re else 0) (if k = 4 then im else 0) [] := by
  have hm : May (.mk k s n re im xs) = 0 := by
    unfold May
    rw [may_leaf h1 h5]
    simp
  unfold PlainT
  rw [if_neg (by simp [hm])]
  simp [plainT, h5]
theorem one_plain {k n re im : Int} {s : ByteArray} {xs : List Tm} (h1 : one (.mk k s n re im xs) = 0) (h5 : k ≠ 5) : one (.mk k (if k = 2 ∨ k = 5 then s else ⟨#[]⟩) (if k = 1 ∨ k = 3 then n else 0) (if k = 4 then re else 0) (if k = 4 then im else 0) []) = 0 := by
  obtain ⟨a, b, c, d, e⟩ := one_zero.1 h1
  simp only [Tm.k, Tm.n, Tm.s, Tm.xs] at a b c d e
  refine one_zero.2 ⟨a, b, ?_, fun h => absurd h h5, ?_⟩
  · intro h
    simp only [Tm.k] at h
    simp only [Tm.n, h, true_or, if_true]
    exact c h
  · intro h
    simp only [Tm.k] at h
    simp only [Tm.s, h, if_true]
    exact e h
theorem leaf_plain (most : Nat) {k n re im : Int} {s : ByteArray} {xs : List Tm} (h1 : one (.mk k s n re im xs) = 0) (h5 : k ≠ 5) (own : Int) (st : St) :
    leaf most (.mk k (if k = 2 ∨ k = 5 then s else ⟨#[]⟩) (if k = 1 ∨ k = 3 then n else 0) (if k = 4 then re else 0) (if k = 4 then im else 0) []) own st = leaf most (.mk k s n re im []) own st := by
  have hk := one_k h1
  simp only [Tm.k] at hk
  have : k = 1 ∨ k = 2 ∨ k = 3 ∨ k = 4 := by omega
  rcases this with rfl | rfl | rfl | rfl <;> rfl

/-- The variables' cells under other numbers. -/
def shV (b : Int) (V : List (Int × Nat)) : List (Int × Nat) := V.map fun p => (p.1 + b, p.2)
def St.sh (b : Int) (s : St) : St := { s with V := shV b s.V }
theorem lk_sh (b : Int) (n : Int) : ∀ V : List (Int × Nat), lk (shV b V) (n + b) = lk V n
  | [] => rfl
  | (x, c) :: V => by
    have ih := lk_sh b n V
    simp only [shV, List.map_cons, lk] at ih ⊢
    by_cases h : n = x
    · simp [h]
    · rw [if_neg h, if_neg (by omega)]; exact ih
theorem up_sh (b : Int) (n : Int) (c : Nat) : ∀ V : List (Int × Nat), up (shV b V) (n + b) c = shV b (up V n c)
  | [] => rfl
  | (x, d) :: V => by
    have ih := up_sh b n c V
    simp only [shV, List.map_cons, up] at ih ⊢
    by_cases h : n = x
    · simp [h]
    · rw [if_neg h, if_neg (by omega), ih]; rfl
def small40 (n : Int) : Prop := 0 ≤ n ∧ n ≤ 1099511627776
set_option linter.unusedSectionVars false
section
variable (b : Int) (hb : 0 ≤ b ∧ b ≤ 1048575)
include hb
theorem map_leaf1 {n : Int} (hn : small40 n) : tVar (wrap64 (n + b)) = .mk 1 ⟨#[]⟩ (n + b) 0 0 [] := by
  unfold small40 at hn
  rw [IntWalk.wrap64_in _ (by omega)]
  rfl
mutual
theorem may_map : ∀ (t : Tm) (d c : Nat) (e : Nat), good t → allV small40 t → may (mapT (fun n => tVar (wrap64 (n + b))) t) d (c, e) = may t d (c, e)
  | .mk k s n re im xs, d, c, e, ⟨h1, h2⟩, ha => by
    obtain ⟨a1, a2⟩ := ha
    by_cases he : e = 0
    case neg => rw [may_err _ _ _ _ he, may_err _ _ _ _ he]
    subst he
    by_cases k1 : k = 1
    · subst k1
      have hm : mapT (fun n => tVar (wrap64 (n + b))) (.mk 1 s n re im xs) = .mk 1 ⟨#[]⟩ (n + b) 0 0 [] := by
        rw [mapT, if_pos rfl]
        exact map_leaf1 b hb (a1 rfl)
      have hn := a1 rfl
      unfold small40 at hn
      have h3 : one (.mk 1 ⟨#[]⟩ (n + b) 0 0 []) = 0 := one_zero.2 ⟨by simp [Tm.k], by simp [Tm.k], fun _ => by simp only [Tm.n]; omega, fun h => by simp [Tm.k] at h, fun h => by simp [Tm.k] at h⟩
      rw [hm, may_leaf h3 (by omega), may_leaf h1 (by omega)]
    · by_cases k5 : k = 5
      · subst k5
        have hm : mapT (fun n => tVar (wrap64 (n + b))) (.mk 5 s n re im xs) = .mk 5 s 0 0 0 (mapL (fun n => tVar (wrap64 (n + b))) xs) := by rw [mapT, if_neg (by omega), if_neg (by simp)]
        have hl : (mapL (fun n => tVar (wrap64 (n + b))) xs).length = xs.length := by rw [mapL_map]; simp
        have h3 : one (.mk 5 s 0 0 0 (mapL (fun n => tVar (wrap64 (n + b))) xs)) = 0 := by
          obtain ⟨x1, x2, x3, x4, x5⟩ := one_zero.1 h1
          exact one_zero.2 ⟨x1, x2, fun h => by simp [Tm.k] at h, fun h => by simp only [Tm.xs, hl] at x4 ⊢; exact x4 rfl, fun h => x5 (.inr rfl)⟩
        rw [hm, may_eq, may_eq, h3]
        simp only [h1, mayL_map xs (d + 1) (c + 1) 0 (h2 rfl) (a2 rfl)]
      · have hm : mapT (fun n => tVar (wrap64 (n + b))) (.mk k s n re im xs) = PlainT (.mk k s n re im xs) := by rw [mapT, if_neg k1, if_pos k5]
        rw [hm, plain_leaf h1 k5, may_leaf (one_plain h1 k5) k5, may_leaf h1 k5]
theorem mayL_map : ∀ (l : List Tm) (d c : Nat) (e : Nat), goodL l → allVL small40 l → mayL (mapL (fun n => tVar (wrap64 (n + b))) l) d (c, e) = mayL l d (c, e)
  | [], d, c, e, _, _ => rfl
  | t :: r, d, c, e, ⟨h1, h2⟩, ⟨a1, a2⟩ => by
    simp only [mapL, mayL]
    rw [may_map t d c e h1 a1]
    rcases may t d (c, e) with ⟨c1, e1⟩
    exact mayL_map r d c1 e1 h2 a2
end
theorem varP_sh (most : Nat) (n own : Int) (st : St) : varP most (n + b) own (st.sh b) = ((varP most n own st).1, (varP most n own st).2.sh b) := by
  obtain ⟨C, L, V⟩ := st
  unfold varP
  simp only [St.sh, lk_sh, up_sh]
  cases lk V n with
  | some c => rfl
  | none =>
    simp only
    split
    · split <;> rfl
    · rfl
theorem leaf_sh (most : Nat) {k n re im : Int} {s : ByteArray} {xs : List Tm} (h1 : one (.mk k s n re im xs) = 0) (k1 : k ≠ 1) (k5 : k ≠ 5) (own : Int) (st : St) : leaf most (.mk k s n re im []) own (st.sh b) = ((leaf most (.mk k s n re im []) own st).1, (leaf most (.mk k s n re im []) own st).2.sh b) := by
  have hw : ∀ tag l, wordsP most tag l (st.sh b) = ((wordsP most tag l st).1, (wordsP most tag l st).2.sh b) := by
    intro tag l
    obtain ⟨C, L, V⟩ := st
    by_cases hp : (pushAll most l C).1 = 0 <;> simp [wordsP, St.sh, hp]
  have hk := one_k h1
  simp only [Tm.k] at hk
  have : k = 2 ∨ k = 3 ∨ k = 4 := by omega
  rcases this with rfl | rfl | rfl
  · rfl
  · rw [leaf_3, leaf_3]
    by_cases hs : smallOk n = true
    · simp [hs]
    · simp only [hs, if_false, Bool.false_eq_true]; exact hw 4 _
  · rw [leaf_4, leaf_4]; exact hw 5 _
theorem opn_sh (most : Nat) (s : ByteArray) (n : Nat) (st : St) : opn most s n (st.sh b) = ((opn most s n st).1, (opn most s n st).2.sh b) := by
  obtain ⟨C, L, V⟩ := st
  by_cases h1 : (number L s).1.2 = 0
  · by_cases h2 : C.length < most
    · by_cases h3 : (varAll most n (C ++ [fun6 (number L s).1.1 n])).1 = 0 <;> simp [opn, St.sh, h1, h2, h3]
    · simp [opn, St.sh, h1, h2]
  · simp [opn, St.sh, h1]
mutual
theorem lay_map (most : Nat) : ∀ (t : Tm) (own : Int) (st : St), good t → allV small40 t → lay most (mapT (fun n => tVar (wrap64 (n + b))) t) own (st.sh b) = ((lay most t own st).1, (lay most t own st).2.sh b)
  | .mk k s n re im xs, own, st, ⟨h1, h2⟩, ⟨a1, a2⟩ => by
    by_cases k1 : k = 1
    · subst k1
      have hm : mapT (fun n => tVar (wrap64 (n + b))) (.mk 1 s n re im xs) = .mk 1 ⟨#[]⟩ (n + b) 0 0 [] := by
        rw [mapT, if_pos rfl]
        exact map_leaf1 b hb (a1 rfl)
      rw [hm]
      unfold lay
      rw [if_neg (by omega), if_neg (by omega), leaf_1, leaf_1]
      exact varP_sh b hb most n own st
    · by_cases k5 : k = 5
      · subst k5
        have hm : mapT (fun n => tVar (wrap64 (n + b))) (.mk 5 s n re im xs) = .mk 5 s 0 0 0 (mapL (fun n => tVar (wrap64 (n + b))) xs) := by rw [mapT, if_neg (by omega), if_neg (by simp)]
        have hl : (mapL (fun n => tVar (wrap64 (n + b))) xs).length = xs.length := by rw [mapL_map]; simp
        rw [hm]
        unfold lay
        simp only [if_true, hl, opn_sh b hb]
        by_cases ho : (opn most s xs.length st).1.2 = 0
        · simp only [ho, ne_eq, not_true_eq_false, if_false]
          rw [layL_map most xs _ _ (h2 rfl) (a2 rfl)]
          simp only
          split <;> rfl
        · simp only [ne_eq, ho, not_false_eq_true, if_true]
      · have hm : mapT (fun n => tVar (wrap64 (n + b))) (.mk k s n re im xs) = PlainT (.mk k s n re im xs) := by rw [mapT, if_neg k1, if_pos k5]
        rw [hm, plain_leaf h1 k5]
        unfold lay
        rw [if_neg k5, if_neg k5, leaf_plain most h1 k5, leaf_sh b hb most h1 k1 k5]
theorem layL_map (most : Nat) : ∀ (l : List Tm) (i : Nat) (st : St), goodL l → allVL small40 l → layL most (mapL (fun n => tVar (wrap64 (n + b))) l) i (st.sh b) = ((layL most l i st).1, (layL most l i st).2.sh b)
  | [], i, st, _, _ => rfl
  | t :: r, i, st, ⟨h1, h2⟩, ⟨a1, a2⟩ => by
    simp only [mapL, layL]
    rw [lay_map most t i st h1 a1]
    simp only
    by_cases he : (lay most t i st).1.2 = 0
    · simp only [he, ne_eq, not_true_eq_false, if_false]
      have e : ((lay most t i st).2.sh b).at i (lay most t i st).1.1 = ((lay most t i st).2.at i (lay most t i st).1.1).sh b := rfl
      rw [e]
      exact layL_map most r (i + 1) _ h2 a2
    · simp only [ne_eq, he, not_false_eq_true, if_true]
end
theorem put_map (most : Nat) {t : Tm} (h : May t = 0) (ha : allV small40 t) (C : List Nat) (L : List ByteArray) :
    May (mapT (fun n => tVar (wrap64 (n + b))) t) = 0 ∧ putP most (mapT (fun n => tVar (wrap64 (n + b))) t) ⟨C, L, []⟩ = ((putP most t ⟨C, L, []⟩).1, (putP most t ⟨C, L, []⟩).2.sh b) := by
  have hg := (May_zero h).2
  have hm : May (mapT (fun n => tVar (wrap64 (n + b))) t) = 0 := by
    unfold May
    rw [may_map b hb t 1 0 0 hg ha]
    exact h
  refine ⟨hm, ?_⟩
  have hl := lay_map b hb most t (-1) ⟨C, L, []⟩ hg ha
  have e : (St.mk C L []).sh b = ⟨C, L, []⟩ := rfl
  rw [e] at hl
  unfold putP
  rw [if_neg (by simp [hm]), if_neg (by simp [h])]
  rcases hq : lay most t (-1) ⟨C, L, []⟩ with ⟨⟨c, e1⟩, s1⟩
  rw [hq] at hl
  rw [fin_tm _ _ _ _ _ _ hl, fin_tm _ _ _ _ _ _ hq]
  split
  · rfl
  · simp [fin, St.atI]
end
end Go.Proofs.Ytceahdlcbiialaa
