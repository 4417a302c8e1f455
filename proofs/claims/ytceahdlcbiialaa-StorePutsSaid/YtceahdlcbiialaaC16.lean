/- The laws' Map, at their function values. -/
import Derived.Test.YtceahdlcbiialaaC15
set_option linter.unusedVariables false
set_option linter.unusedSimpArgs false
namespace Go.Proofs.Ytceahdlcbiialaa
open Go.RowKit

mutual
/-- Each variable by what a function tells. -/
def mapT (f : Int → Tm) : Tm → Tm
  | .mk k s n re im xs => if k = 1 then f n else if k ≠ 5 then PlainT (.mk k s n re im xs) else .mk 5 s 0 0 0 (mapL f xs)
def mapL (f : Int → Tm) : List Tm → List Tm
  | [] => []
  | t :: r => mapT f t :: mapL f r
end
theorem mapL_map (f : Int → Tm) : ∀ l : List Tm, mapL f l = l.map (mapT f)
  | [] => rfl
  | t :: r => by simp [mapL, mapL_map f r]
set_option maxRecDepth 100000 in
set_option maxHeartbeats 1000000 in
theorem add_spec (n by' : Int) (b : Nat) (w : World) (hb : w.cell? ⟨b, 0, none⟩ = some (.int .i64 by')) : Calls Try.prog 34 #[.int .i64 n, .pointer (some ⟨b, 0, none⟩)] w fun e w' => e = .returned (.agg #[.int .i64 1, .string ⟨#[]⟩, .int .i64 (wrap64 (n + by')), .int .u64 0, .int .u64 0, .slice none 0 0]) ∧ Below w.heap.size w w' := by
  have hbl := World.block_lt_of_cell? w _ hb
  have h1 := (Below.refl w.heap.size w).alloc (Nat.le_refl _) (.cells zero6 25)
  have HV := Lib.hid (Var_spec (wrap64 (n + by')) (w.alloc (.cells zero6 25)))
  have H1 := Lib.hid h1; clear h1
  go_enter Try.func34, Try.ntmps34
  go_wp2_with fail
  refine HV.out.mono ?_
  rintro e w2 ⟨rfl, h2⟩
  have hz : (w.alloc (.cells zero6 25)).heap.size = w.heap.size + 1 := by simp
  have hblk : w2.heap[w.heap.size]? = some (.cells zero6 25 (0, 0)) := (h2.block _ (by omega)).trans (World.alloc_heap_new w _)
  have z0 : w2.cell? ⟨w.heap.size, 0, none⟩ = some (.int .i64 0) := by simp [World.cell?, hblk]
  have z1 : w2.cell? ⟨w.heap.size, 1, none⟩ = some (.string ⟨#[]⟩) := by simp [World.cell?, hblk]
  have z2 : w2.cell? ⟨w.heap.size, 2, none⟩ = some (.int .i64 0) := by simp [World.cell?, hblk]
  have z3 : w2.cell? ⟨w.heap.size, 3, none⟩ = some (.int .u64 0) := by simp [World.cell?, hblk]
  have z4 : w2.cell? ⟨w.heap.size, 4, none⟩ = some (.int .u64 0) := by simp [World.cell?, hblk]
  have z5 : w2.cell? ⟨w.heap.size, 5, none⟩ = some (.slice none 0 0) := by simp [World.cell?, hblk]
  have y : ∀ i : Nat, w2.frozen? ⟨w.heap.size, i, none⟩ = false := fun i => by simp [World.frozen?, hblk]
  have HBF := Lib.hid (H1.out.trans (h2.mono (by omega)))
  clear h2 hblk
  go_wp2
  refine bodyPost_ret (v := .agg #[.int .i64 1, .string ⟨#[]⟩, .int .i64 (wrap64 (n + by')), .int .u64 0, .int .u64 0, .slice none 0 0]) (by simp [results, Try.results34, *, go_sem]) rfl ?_
  refine ⟨rfl, ?_⟩
  have h9 := HBF.out
  exact (((((h9.setCell (Nat.le_refl _) _).setCell (Nat.le_refl _) _).setCell (Nat.le_refl _) _).setCell (Nat.le_refl _) _).setCell (Nat.le_refl _) _).setCell (Nat.le_refl _) _

def MapByS (t : Tm) : Prop := ∀ (w : World) (S : Blk) (Γ : List Asn) (cs : List Value) (bb : Nat) (by' : Int), Ok w S Γ → TmC w S cs t → slim t → S bb → w.cell? ⟨bb, 0, none⟩ = some (.int .i64 by') →
  Calls Try.prog 33 #[.agg cs.toArray, .func (.func 34) #[] #[.pointer (some ⟨bb, 0, none⟩)]] w fun e w' => ∃ (c : Tc) (S' : Blk), c.t = mapT (fun n => tVar (wrap64 (n + by'))) t ∧ e = .returned (.agg c.six.toArray) ∧ To w S w' S' Γ ∧ TmC w' S' c.six c.t
set_option maxRecDepth 100000 in
set_option maxHeartbeats 4000000 in
theorem MapBy_spec (t : Tm) : MapByS t := by
  refine Tm.ind ?_ t
  intro k s n re im xs ih w S Γ cs bb by' hO hT hsl hSb hbb
  obtain ⟨A, cap, rfl, ⟨hk, hsz, hn, hre, him, hxl⟩, hA⟩ := hT.form
  simp only [Tm.k, Tm.s, Tm.n, Tm.re, Tm.im, Tm.xs] at hk hsz hn hre him hxl hA hT ⊢
  have H := Lib.hid hO; clear hO
  have HA := Lib.hid hA; clear hA
  have HT := Lib.hid hT; clear hT
  by_cases k1 : k = 1
  · subst k1
    have h1 := (H.out.to.alloc (.cells #[.int .i64 1, .string s, .int .i64 n, .int .u64 re, .int .u64 im, .slice A xs.length cap] 25)).allocPt' zero6 25 (w.heap.size + 1) (by simp)
    have hcall := add_spec n by' bb _ (h1.cell (a := ⟨bb, 0, none⟩) hSb hbb)
    have HC := Lib.hid hcall; clear hcall
    have H1 := Lib.hid h1; clear h1
    have eR : mapT (fun n => tVar (wrap64 (n + by'))) (.mk 1 s n re im xs) = (tVar (wrap64 (n + by'))) := by simp [mapT]
    have ER := Lib.hid eR; clear eR
    go_enter Try.func33, Try.ntmps33
    go_wp2_with (go_at_call 34; refine HC.out.mono ?_; rintro e w2 ⟨rfl, hb⟩; have h2 := H1.out.below hb; obtain ⟨-, ⟨y0, y1, y2, y3, y4, y5⟩, y6⟩ := h2.ok.pt6; obtain ⟨⟨z0, z1, z2, z3, z4, z5⟩, -, -⟩ := h2.ok.pt6; have H2 := Lib.hid h2; clear h2 hb)
    have h3 := H2.out.ptSet6 (.int .i64 1) (.string ⟨#[]⟩) (.int .i64 (wrap64 (n + by'))) (.int .u64 0) (.int .u64 0) (.slice none 0 0)
    have H3 := Lib.hid h3.drop; clear h3
    refine bodyPost_ret (v := .agg #[.int .i64 1, .string ⟨#[]⟩, .int .i64 (wrap64 (n + by')), .int .u64 0, .int .u64 0, .slice none 0 0]) (by simp [results, Try.results33, *, go_sem]) rfl ?_
    refine ⟨⟨(tVar (wrap64 (n + by'))), none, 0⟩, S, ER.out.symm, rfl, H3.out, ?_⟩
    exact leaf_any (k := 1) (s := ⟨#[]⟩) (n := wrap64 (n + by')) (re := 0) (im := 0) (by omega) (by decide) (by (try unfold wrap64); omega) (by omega) (by omega) 0
  have b1 : (k == 1) = false := beq_eq_false_iff_ne.2 k1
  by_cases k5 : k = 5
  case neg =>
    have b5 : (k != 5) = true := by simp [k5]
    have h1 := (H.out.to.alloc (.cells #[.int .i64 k, .string s, .int .i64 n, .int .u64 re, .int .u64 im, .slice A xs.length cap] 25)).allocPt' zero6 25 (w.heap.size + 1) (by simp)
    have hcall := Plain_spec h1.ok (HT.out.to h1)
    have HC := Lib.hid hcall; clear hcall
    have H1 := Lib.hid h1; clear h1
    have eR : mapT (fun n => tVar (wrap64 (n + by'))) (.mk k s n re im xs) = PlainT (.mk k s n re im xs) := by simp [mapT, k1, k5]
    have ER := Lib.hid eR; clear eR
    go_enter Try.func33, Try.ntmps33
    go_wp2_with fail
    refine HC.out.mono ?_
    rintro e w2 ⟨c, S2, hc, rfl, h2, hT2⟩
    obtain ⟨⟨z0, z1, z2, z3, z4, z5⟩, ⟨y0, y1, y2, y3, y4, y5⟩, y6⟩ := h2.ok.pt6
    have h3 := (H1.out.trans h2).ptSet6 (.int .i64 c.t.k) (.string c.t.s) (.int .i64 c.t.n) (.int .u64 c.t.re) (.int .u64 c.t.im) (.slice c.A c.t.xs.length c.c)
    have HT3 := Lib.hid (hT2.to (h2.ok.to.ptSet6 (.int .i64 c.t.k) (.string c.t.s) (.int .i64 c.t.n) (.int .u64 c.t.re) (.int .u64 c.t.im) (.slice c.A c.t.xs.length c.c)))
    have H3 := Lib.hid h3.drop
    have HCE := Lib.hid hc
    clear h2 hT2 h3 hc
    go_wp2
    refine bodyPost_ret (v := .agg c.six.toArray) (by simp [results, Try.results33, *, go_sem]) rfl ?_
    exact ⟨c, S2, by rw [ER.out]; exact HCE.out, rfl, H3.out, HT3.out⟩
  subst k5
  clear b1 k1
  obtain ⟨hx100, hsx⟩ := hsl rfl
  have hb := ((H.out.to.alloc (.cells #[.int .i64 5, .string s, .int .i64 n, .int .u64 re, .int .u64 im, .slice A xs.length cap] 25)).allocPt' #[.int .i64 0, .string ⟨#[]⟩, .int .i64 0, .int .u64 0, .int .u64 0, .slice none 0 0] 25 (w.heap.size + 1) (by simp)).allocPt' #[.int .i64 5, .string s, .int .i64 0, .int .u64 0, .int .u64 0, .slice none 0 0] 25 (w.heap.size + 1 + 1) (by simp)
  have HB := Lib.hid hb; clear hb
  go_enter Try.func33, Try.ntmps33
  go_wp2
  go_loopw [28] (fun i wr => ∃ (j : Nat) (l : List Tc) (v : Value) (S1 : Blk), i = .int .i64 j ∧ j ≤ xs.length ∧ l.map (·.t) = (xs.take j).map (mapT (fun n => tVar (wrap64 (n + by')))) ∧ (∀ x ∈ l, TmC wr S1 x.six x.t) ∧
    To w S wr S1 (Pt (w.heap.size + 1 + 1) #[.int .i64 5, .string s, .int .i64 0, .int .u64 0, .int .u64 0, v] 25 :: Row v 25 6 j (tcV l) :: Pt (w.heap.size + 1) #[.int .i64 0, .string ⟨#[]⟩, .int .i64 0, .int .u64 0, .int .u64 0, .slice none 0 0] 25 :: Γ)) (fun i _ => xs.length - (intOf i).toNat)
  case atStart => exact ⟨0, [], _, S, rfl, Nat.zero_le _, by simp, by simp, HB.out.re fun kk => (kk.rowNil 25 6).p1⟩
  case round =>
    obtain ⟨j, l, v, S1, rfl, hj, hl, hlT, hTo⟩ := hrel
    have hlj : l.length = j := by
      have := congrArg List.length hl
      simp at this
      omega
    by_cases hlt : j < xs.length
    · have hx : xs[j]? = some xs[j] := List.getElem?_eq_getElem hlt
      obtain ⟨g, o, A', cap', rfl, hS, g0, g1, g2, g3, g4, g5, hxT⟩ := HA.out j _ hx
      have f0 := hTo.cell (a := ⟨g, _, none⟩) hS g0
      have f1 := hTo.cell (a := ⟨g, _, none⟩) hS g1
      have f2 := hTo.cell (a := ⟨g, _, none⟩) hS g2
      have f3 := hTo.cell (a := ⟨g, _, none⟩) hS g3
      have f4 := hTo.cell (a := ⟨g, _, none⟩) hS g4
      have f5 := hTo.cell (a := ⟨g, _, none⟩) hS g5
      have f6 : wr.cell? ⟨w.heap.size + 1 + 1, 5, none⟩ = some v := hTo.ok.ptCell 5 _ rfl
      have f7 := hTo.ok.ptLt
      have hal := hTo.alloc (.cells #[.int .i64 xs[j].k, .string xs[j].s, .int .i64 xs[j].n, .int .u64 xs[j].re, .int .u64 xs[j].im, .slice A' xs[j].xs.length cap'] 25)
      have hcall := (ih _ (List.getElem_mem hlt)) _ S1 _ _ bb by' hal.drew.ok (hxT.to hal.drew) (slimL_get hsx hx) (hTo.sub _ hSb) (hal.drew.cell (a := ⟨bb, 0, none⟩) hSb hbb)
      have HC := Lib.hid hcall; clear hcall
      have HL := Lib.hid hlT; clear hlT
      have HBASE := Lib.hid (hTo.ok.to.alloc (.cells #[.int .i64 xs[j].k, .string xs[j].s, .int .i64 xs[j].n, .int .u64 xs[j].re, .int .u64 xs[j].im, .slice A' xs[j].xs.length cap'] 25)).drew
      have HTo := Lib.hid hTo; clear hTo
      clear g0 g1 g2 g3 g4 g5
      go_wp2
      go_region_law (first | (go_simp; go_at_call 33; refine HC.out.mono ?_; rintro e w2 ⟨c, S2, hc, rfl, h2, hT2⟩; have HCE := Lib.hid hc; clear hc; have q1 : w2.cell? ⟨w.heap.size + 1 + 1, 5, none⟩ = some v := h2.ok.ptCell 5 _ rfl; have q2 := h2.ok.ptLt; have H2 := Lib.hid h2.ok.to; have H20 := Lib.hid h2; have HT2 := Lib.hid hT2; clear h2 hT2) | (refine step_append_new rfl (.tmp 33) (.tmp 37) 23 25 _ 6 72 rfl Try.underlying23 info25 rfl (by decide) (by decide) H2.out.p1 rfl c.six.toArray rfl rfl (by simp [Value.oneCell']) (by omega) ?_; intro A3 c3 W3 H3; have r1 : W3.cell? ⟨w.heap.size + 1 + 1, 5, none⟩ = some v := H3.p1.ok.ptCell 5 _ rfl; have r2 := H3.p1.ok.ptFree 5; have r3 := H3.p1.ok.ptLt; have HH3 := Lib.hid H3; clear H3))
      all_goals
        clear f0 f1 f2 f3 f4 f5 f6 f7 q1 q2
        have h6 := (HBASE.out.trans (H20.out.trans HH3.out)).p1.ptSet 5 (.slice A3 (j + 1) c3)
        have hT6 := HT2.out.to (HH3.out.p1.ptSet 5 (.slice A3 (j + 1) c3))
        have H6 := Lib.hid h6; clear h6
        have HT6 := Lib.hid hT6; clear hT6
        clear HH3 H20 H2 HBASE HT2
        go_wp2
        go_roundw
        case rel =>
          refine ⟨j + 1, l ++ [c], .slice A3 (j + 1) c3, S2, by go_num, by omega, ?_, ?_, ?_⟩
          · rw [List.map_append, hl, List.map_singleton, HCE.out, List.take_add_one, List.map_append, hx]; rfl
          · intro x hx
            rcases List.mem_append.1 hx with hx | hx
            · exact (HL.out x hx).to H6.out
            · rw [List.mem_singleton.1 hx]; exact HT6.out
          · have h7 := HTo.out.trans H6.out
            rw [tcV_append]
            simpa [tcV] using h7
        case measure => simp [intOf]; omega
    · obtain rfl : j = xs.length := by omega
      obtain ⟨A6, c6, rfl⟩ := hTo.p1.ok.rowShape
      obtain ⟨⟨f0, f1, f2, f3, f4, f5⟩, -, f6⟩ := hTo.ok.pt6
      obtain ⟨⟨z0, z1, z2, z3, z4, z5⟩, ⟨y0, y1, y2, y3, y4, y5⟩, y6⟩ := hTo.p2.ok.pt6
      have HW := Lib.hid (hTo.ok.to.p2.ptSet6 (.int .i64 5) (.string s) (.int .i64 0) (.int .u64 0) (.int .u64 0) (.slice A6 xs.length c6))
      have HTo := Lib.hid hTo; clear hTo
      have HL := Lib.hid hlT; clear hlT
      clear HB
      go_wp2
      refine bodyPost_ret (v := .agg #[.int .i64 5, .string s, .int .i64 0, .int .u64 0, .int .u64 0, .slice A6 xs.length c6]) (by simp [results, Try.results33, *, go_sem]) rfl ?_
      have e1 : l.map (·.t) = mapL (fun n => tVar (wrap64 (n + by'))) xs := by rw [hl, List.take_length, mapL_map]
      obtain ⟨S2, h8, hk8⟩ := HW.out.p2.ok.rowTerm (k := 5) (n := 0) (re := 0) (im := 0) (s := s) hlj (fun x hx => (HL.out x hx).to HW.out) ⟨by simp only [Tm.k]; omega, hsz, by simp only [Tm.n]; omega, by simp only [Tm.re]; omega, by simp only [Tm.im]; omega, by simp only [Tm.xs, List.length_map]; omega⟩
      have hh := ((HTo.out.trans HW.out).trans h8).drop.drop
      clear HW HL h8
      refine ⟨⟨.mk 5 s 0 0 0 (l.map (·.t)), A6, c6⟩, S2, ?_, ?_, ?_, ?_⟩
      · rw [e1]; simp [mapT]
      · simp only [Tc.six, Tm.k, Tm.s, Tm.n, Tm.re, Tm.im, Tm.xs, List.length_map, hlj]
      · exact hh
      · simp only [Tc.six, Tm.k, Tm.s, Tm.n, Tm.re, Tm.im, Tm.xs, List.length_map]
        rw [hlj]
        exact hk8
#print axioms MapBy_spec
end Go.Proofs.Ytceahdlcbiialaa
