/- The reference's plain, Plain, plainOne, Map. -/
import Derived.Deep.RegionLaw
import Derived.Test.YtceahdlcbiialaaF5M17
import Derived.Test.YtceahdlcbiialaaF5M15
set_option linter.unusedVariables false
set_option linter.unusedSimpArgs false
namespace Go.Proofs.Ytceahdlcbiialaa
open Go.RowKit

theorem leaf_any {w : World} {S : Blk} {k n re im : Int} {s : ByteArray} (hk : -9223372036854775808 ≤ k ∧ k ≤ 9223372036854775807) (hs : s.size ≤ 140737488351232) (hn : -9223372036854775808 ≤ n ∧ n ≤ 9223372036854775807)
    (hr : 0 ≤ re ∧ re ≤ 18446744073709551615) (hi : 0 ≤ im ∧ im ≤ 18446744073709551615) (cap : Nat) : TmC w S [.int .i64 k, .string s, .int .i64 n, .int .u64 re, .int .u64 im, .slice none 0 cap] (.mk k s n re im []) :=
  TmC.of (t := .mk k s n re im []) (A := none) (cap := cap) ⟨hk, hs, hn, hr, hi, by simp [Tm.xs]⟩ (fun i x hx => by simp [Tm.xs] at hx)
def PlainS (t : Tm) : Prop := ∀ (w : World) (S : Blk) (Γ : List Asn) (cs : List Value), Ok w S Γ → TmC w S cs t → slim t →
  Calls Try.prog 106 #[.agg cs.toArray] w fun e w' => ∃ (c : Tc) (S' : Blk), c.t = plainT t ∧ e = .returned (.agg c.six.toArray) ∧ To w S w' S' Γ ∧ TmC w' S' c.six c.t
set_option maxRecDepth 100000 in
set_option maxHeartbeats 4000000 in
theorem plain_spec (t : Tm) : PlainS t := by
  refine Tm.ind ?_ t
  intro k s n re im xs ih w S Γ cs hO hT hsl
  obtain ⟨A, cap, rfl, ⟨hk, hsz, hn, hre, him, hxl⟩, hA⟩ := hT.form
  simp only [Tm.k, Tm.s, Tm.n, Tm.re, Tm.im, Tm.xs] at hk hsz hn hre him hxl hA hT ⊢
  have H := Lib.hid hO; clear hO
  have HA := Lib.hid hA; clear hA
  have HT := Lib.hid hT; clear hT
  by_cases k1 : k = 1
  · subst k1
    have hb := ((H.out.to.alloc (.cells #[.int .i64 1, .string s, .int .i64 n, .int .u64 re, .int .u64 im, .slice A xs.length cap] 25)).alloc (.cells #[.int .i64 1, .string ⟨#[]⟩, .int .i64 n, .int .u64 0, .int .u64 0, .slice none 0 0] 25)).alloc (.cells #[.int .i64 1, .string ⟨#[]⟩, .int .i64 n, .int .u64 0, .int .u64 0, .slice none 0 0] 25)
    have HB := Lib.hid hb; clear hb
    go_enter Try.func106, Try.ntmps106
    go_wp2
    refine bodyPost_ret (v := .agg #[.int .i64 1, .string ⟨#[]⟩, .int .i64 n, .int .u64 0, .int .u64 0, .slice none 0 0]) (by simp [results, Try.results106, go_sem]) rfl ?_
    exact ⟨⟨.mk 1 ⟨#[]⟩ n 0 0 [], none, 0⟩, S, by simp [plainT], rfl, HB.out, leaf_any (k := 1) (s := ⟨#[]⟩) (n := n) (re := 0) (im := 0) (by omega) (by first | assumption | decide) (by omega) (by omega) (by omega) 0⟩
  by_cases k3 : k = 3
  · subst k3
    have hb := ((H.out.to.alloc (.cells #[.int .i64 3, .string s, .int .i64 n, .int .u64 re, .int .u64 im, .slice A xs.length cap] 25)).alloc (.cells #[.int .i64 3, .string ⟨#[]⟩, .int .i64 n, .int .u64 0, .int .u64 0, .slice none 0 0] 25)).alloc (.cells #[.int .i64 3, .string ⟨#[]⟩, .int .i64 n, .int .u64 0, .int .u64 0, .slice none 0 0] 25)
    have HB := Lib.hid hb; clear hb
    go_enter Try.func106, Try.ntmps106
    go_wp2
    refine bodyPost_ret (v := .agg #[.int .i64 3, .string ⟨#[]⟩, .int .i64 n, .int .u64 0, .int .u64 0, .slice none 0 0]) (by simp [results, Try.results106, go_sem]) rfl ?_
    exact ⟨⟨.mk 3 ⟨#[]⟩ n 0 0 [], none, 0⟩, S, by simp [plainT], rfl, HB.out, leaf_any (k := 3) (s := ⟨#[]⟩) (n := n) (re := 0) (im := 0) (by omega) (by first | assumption | decide) (by omega) (by omega) (by omega) 0⟩
  by_cases k2 : k = 2
  · subst k2
    have hb := ((H.out.to.alloc (.cells #[.int .i64 2, .string s, .int .i64 n, .int .u64 re, .int .u64 im, .slice A xs.length cap] 25)).alloc (.cells #[.int .i64 2, .string s, .int .i64 0, .int .u64 0, .int .u64 0, .slice none 0 0] 25)).alloc (.cells #[.int .i64 2, .string s, .int .i64 0, .int .u64 0, .int .u64 0, .slice none 0 0] 25)
    have HB := Lib.hid hb; clear hb
    go_enter Try.func106, Try.ntmps106
    go_wp2
    refine bodyPost_ret (v := .agg #[.int .i64 2, .string s, .int .i64 0, .int .u64 0, .int .u64 0, .slice none 0 0]) (by simp [results, Try.results106, go_sem]) rfl ?_
    exact ⟨⟨.mk 2 s 0 0 0 [], none, 0⟩, S, by simp [plainT], rfl, HB.out, leaf_any (k := 2) (s := s) (n := 0) (re := 0) (im := 0) (by omega) (by first | assumption | decide) (by omega) (by omega) (by omega) 0⟩
  by_cases k4 : k = 4
  · subst k4
    have hb := ((H.out.to.alloc (.cells #[.int .i64 4, .string s, .int .i64 n, .int .u64 re, .int .u64 im, .slice A xs.length cap] 25)).alloc (.cells #[.int .i64 4, .string ⟨#[]⟩, .int .i64 0, .int .u64 re, .int .u64 im, .slice none 0 0] 25)).alloc (.cells #[.int .i64 4, .string ⟨#[]⟩, .int .i64 0, .int .u64 re, .int .u64 im, .slice none 0 0] 25)
    have HB := Lib.hid hb; clear hb
    go_enter Try.func106, Try.ntmps106
    go_wp2
    go_big_region
    go_wp2
    refine bodyPost_ret (v := .agg #[.int .i64 4, .string ⟨#[]⟩, .int .i64 0, .int .u64 re, .int .u64 im, .slice none 0 0]) (by simp [results, Try.results106, go_sem]) rfl ?_
    exact ⟨⟨.mk 4 ⟨#[]⟩ 0 re im [], none, 0⟩, S, by simp [plainT], rfl, HB.out.drew, leaf_any (k := 4) (s := ⟨#[]⟩) (n := 0) (re := re) (im := im) (by omega) (by first | assumption | decide) (by omega) (by omega) (by omega) 0⟩
  have b1 : (k == 1) = false := beq_eq_false_iff_ne.2 k1
  have b3 : (k == 3) = false := beq_eq_false_iff_ne.2 k3
  have b2 : (k == 2) = false := beq_eq_false_iff_ne.2 k2
  have b4 : (k == 4) = false := beq_eq_false_iff_ne.2 k4
  by_cases k5 : k = 5
  case neg =>
    have b5 : (k == 5) = false := beq_eq_false_iff_ne.2 k5
    have hb := ((H.out.to.alloc (.cells #[.int .i64 k, .string s, .int .i64 n, .int .u64 re, .int .u64 im, .slice A xs.length cap] 25)).alloc (.cells #[.int .i64 k, .string ⟨#[]⟩, .int .i64 0, .int .u64 0, .int .u64 0, .slice none 0 0] 25)).alloc (.cells #[.int .i64 k, .string ⟨#[]⟩, .int .i64 0, .int .u64 0, .int .u64 0, .slice none 0 0] 25)
    have HB := Lib.hid hb; clear hb
    go_enter Try.func106, Try.ntmps106
    go_wp2
    refine bodyPost_ret (v := .agg #[.int .i64 k, .string ⟨#[]⟩, .int .i64 0, .int .u64 0, .int .u64 0, .slice none 0 0]) (by simp [results, Try.results106, go_sem]) rfl ?_
    exact ⟨⟨.mk k ⟨#[]⟩ 0 0 0 [], none, 0⟩, S, by simp [plainT, k1, k2, k3, k4, k5], rfl, HB.out, leaf_any (k := k) (s := ⟨#[]⟩) (n := 0) (re := 0) (im := 0) (by omega) (by first | assumption | decide) (by omega) (by omega) (by omega) 0⟩
  subst k5
  clear b1 b2 b3 b4 k1 k2 k3 k4
  obtain ⟨hx100, hsx⟩ := hsl rfl
  have hb := ((H.out.to.alloc (.cells #[.int .i64 5, .string s, .int .i64 n, .int .u64 re, .int .u64 im, .slice A xs.length cap] 25)).allocPt' #[.int .i64 0, .string ⟨#[]⟩, .int .i64 0, .int .u64 0, .int .u64 0, .slice none 0 0] 25 (w.heap.size + 1) (by simp)).allocPt' #[.int .i64 5, .string s, .int .i64 0, .int .u64 0, .int .u64 0, .slice none 0 0] 25 (w.heap.size + 1 + 1) (by simp)
  have HB := Lib.hid hb; clear hb
  go_enter Try.func106, Try.ntmps106
  go_wp2
  go_loopw [38] (fun i wr => ∃ (j : Nat) (l : List Tc) (v : Value) (S1 : Blk), i = .int .i64 j ∧ j ≤ xs.length ∧ l.map (·.t) = (xs.take j).map plainT ∧ (∀ x ∈ l, TmC wr S1 x.six x.t) ∧
    To w S wr S1 (Pt (w.heap.size + 1 + 1) #[.int .i64 5, .string s, .int .i64 0, .int .u64 0, .int .u64 0, v] 25 :: Row v 25 6 j (tcV l) :: Pt (w.heap.size + 1) #[.int .i64 0, .string ⟨#[]⟩, .int .i64 0, .int .u64 0, .int .u64 0, .slice none 0 0] 25 :: Γ)) (fun i _ => xs.length - (intOf i).toNat)
  case atStart => exact ⟨0, [], _, S, rfl, Nat.zero_le _, by simp, by simp, HB.out.re fun kk => (kk.rowNil 25 6).p1⟩
  case round =>
    obtain ⟨j, l, v, S1, rfl, hj, hl, hlT, hTo⟩ := hrel
    have hlj : l.length = j := by
      have := congrArg List.length hl
      simp at this
      omega
    by_cases hlt : j < xs.length
    · have hx : xs[j]? = some xs[j] := List.getElem?_eq_getElem hlt
      obtain ⟨g, o, A', cap', rfl, hS, g0, g1, g2, g3, g4, g5, hxT⟩ := HA.out j _ hx
      have f0 := hTo.cell (a := ⟨g, _, none⟩) hS g0
      have f1 := hTo.cell (a := ⟨g, _, none⟩) hS g1
      have f2 := hTo.cell (a := ⟨g, _, none⟩) hS g2
      have f3 := hTo.cell (a := ⟨g, _, none⟩) hS g3
      have f4 := hTo.cell (a := ⟨g, _, none⟩) hS g4
      have f5 := hTo.cell (a := ⟨g, _, none⟩) hS g5
      have f6 : wr.cell? ⟨w.heap.size + 1 + 1, 5, none⟩ = some v := hTo.ok.ptCell 5 _ rfl
      have f7 := hTo.ok.ptLt
      have hal := hTo.alloc (.cells #[.int .i64 xs[j].k, .string xs[j].s, .int .i64 xs[j].n, .int .u64 xs[j].re, .int .u64 xs[j].im, .slice A' xs[j].xs.length cap'] 25)
      have hcall := (ih _ (List.getElem_mem hlt)) _ S1 _ _ hal.drew.ok (hxT.to hal.drew) (slimL_get hsx hx)
      have HC := Lib.hid hcall; clear hcall
      have HL := Lib.hid hlT; clear hlT
      have HBASE := Lib.hid (hTo.ok.to.alloc (.cells #[.int .i64 xs[j].k, .string xs[j].s, .int .i64 xs[j].n, .int .u64 xs[j].re, .int .u64 xs[j].im, .slice A' xs[j].xs.length cap'] 25)).drew
      have HTo := Lib.hid hTo; clear hTo
      clear g0 g1 g2 g3 g4 g5
      go_wp2
      go_region_law (first | (go_simp; go_at_call 106; refine HC.out.mono ?_; rintro e w2 ⟨c, S2, hc, rfl, h2, hT2⟩; have HCE := Lib.hid hc; clear hc; have q1 : w2.cell? ⟨w.heap.size + 1 + 1, 5, none⟩ = some v := h2.ok.ptCell 5 _ rfl; have q2 := h2.ok.ptLt; have H2 := Lib.hid h2.ok.to; have H20 := Lib.hid h2; have HT2 := Lib.hid hT2; clear h2 hT2) | (refine step_append_new rfl (.tmp 43) (.tmp 46) 23 25 _ 6 72 rfl Try.underlying23 info25 rfl (by decide) (by decide) H2.out.p1 rfl c.six.toArray rfl rfl (by simp [Value.oneCell']) (by omega) ?_; intro A3 c3 W3 H3; have r1 : W3.cell? ⟨w.heap.size + 1 + 1, 5, none⟩ = some v := H3.p1.ok.ptCell 5 _ rfl; have r2 := H3.p1.ok.ptFree 5; have r3 := H3.p1.ok.ptLt; have HH3 := Lib.hid H3; clear H3))
      all_goals
        clear f0 f1 f2 f3 f4 f5 f6 f7 q1 q2
        have h6 := (HBASE.out.trans (H20.out.trans HH3.out)).p1.ptSet 5 (.slice A3 (j + 1) c3)
        have hT6 := HT2.out.to (HH3.out.p1.ptSet 5 (.slice A3 (j + 1) c3))
        have H6 := Lib.hid h6; clear h6
        have HT6 := Lib.hid hT6; clear hT6
        clear HH3 H20 H2 HBASE HT2
        go_wp2
        go_roundw
        case rel =>
          refine ⟨j + 1, l ++ [c], .slice A3 (j + 1) c3, S2, by go_num, by omega, ?_, ?_, ?_⟩
          · rw [List.map_append, hl, List.map_singleton, HCE.out, List.take_add_one, List.map_append, hx]; rfl
          · intro x hx
            rcases List.mem_append.1 hx with hx | hx
            · exact (HL.out x hx).to H6.out
            · rw [List.mem_singleton.1 hx]; exact HT6.out
          · have h7 := HTo.out.trans H6.out
            rw [tcV_append]
            simpa [tcV] using h7
        case measure => simp [intOf]; omega
    · obtain rfl : j = xs.length := by omega
      obtain ⟨A6, c6, rfl⟩ := hTo.p1.ok.rowShape
      obtain ⟨⟨f0, f1, f2, f3, f4, f5⟩, -, f6⟩ := hTo.ok.pt6
      obtain ⟨⟨z0, z1, z2, z3, z4, z5⟩, ⟨y0, y1, y2, y3, y4, y5⟩, y6⟩ := hTo.p2.ok.pt6
      have HW := Lib.hid (hTo.ok.to.p2.ptSet6 (.int .i64 5) (.string s) (.int .i64 0) (.int .u64 0) (.int .u64 0) (.slice A6 xs.length c6))
      have HTo := Lib.hid hTo; clear hTo
      have HL := Lib.hid hlT; clear hlT
      clear HB
      go_wp2
      refine bodyPost_ret (v := .agg #[.int .i64 5, .string s, .int .i64 0, .int .u64 0, .int .u64 0, .slice A6 xs.length c6]) (by simp [results, Try.results106, *, go_sem]) rfl ?_
      have e1 : l.map (·.t) = plainL xs := by rw [hl, List.take_length, plainL_map]
      obtain ⟨S2, h8, hk8⟩ := HW.out.p2.ok.rowTerm (k := 5) (n := 0) (re := 0) (im := 0) (s := s) hlj (fun x hx => (HL.out x hx).to HW.out) ⟨by simp only [Tm.k]; omega, hsz, by simp only [Tm.n]; omega, by simp only [Tm.re]; omega, by simp only [Tm.im]; omega, by simp only [Tm.xs, List.length_map]; omega⟩
      have hh := ((HTo.out.trans HW.out).trans h8).drop.drop
      clear HW HL h8
      refine ⟨⟨.mk 5 s 0 0 0 (l.map (·.t)), A6, c6⟩, S2, ?_, ?_, ?_, ?_⟩
      · rw [e1]; simp [plainT]
      · simp only [Tc.six, Tm.k, Tm.s, Tm.n, Tm.re, Tm.im, Tm.xs, List.length_map, hlj]
      · exact hh
      · simp only [Tc.six, Tm.k, Tm.s, Tm.n, Tm.re, Tm.im, Tm.xs, List.length_map]
        rw [hlj]
        exact hk8
#print axioms plain_spec
end Go.Proofs.Ytceahdlcbiialaa
