/- The reference's plainOne, named. The reference's RenameFrom, Rename, Variant. -/
import Derived.Test.YtceahdlcbiialaaF5M25
import Derived.Test.YtceahdlcbiialaaF5M28
import Derived.Test.YtceahdlcbiialaaF5M30
set_option linter.unusedVariables false
set_option linter.unusedSimpArgs false
namespace Go.Proofs.Ytceahdlcbiialaa
open Go.RowKit

set_option maxRecDepth 100000 in
set_option maxHeartbeats 2000000 in
/-- A compound without its arguments. -/
theorem plain5_nil {w : World} {S : Blk} {Γ : List Asn} (hO : Ok w S Γ) (s : ByteArray) (n re im : Int) : Calls Try.prog 106 #[.agg #[.int .i64 5, .string s, .int .i64 n, .int .u64 re, .int .u64 im, .slice none 0 0]] w fun e w' =>
    e = .returned (.agg #[.int .i64 5, .string s, .int .i64 0, .int .u64 0, .int .u64 0, .slice none 0 0]) ∧ To w S w' S Γ := by
  have hb := ((hO.to.alloc (.cells #[.int .i64 5, .string s, .int .i64 n, .int .u64 re, .int .u64 im, .slice none 0 0] 25)).allocPt' zero6 25 (w.heap.size + 1) (by simp)).allocPt' #[.int .i64 5, .string s, .int .i64 0, .int .u64 0, .int .u64 0, .slice none 0 0] 25 (w.heap.size + 1 + 1) (by simp)
  have HB := Lib.hid hb; clear hb hO
  go_enter Try.func106, Try.ntmps106
  go_wp2
  go_loopw [38] (fun i wr => i = .int .i64 0 ∧ To w S wr S (Pt (w.heap.size + 1 + 1) #[.int .i64 5, .string s, .int .i64 0, .int .u64 0, .int .u64 0, .slice none 0 0] 25 :: Pt (w.heap.size + 1) zero6 25 :: Γ)) (fun i _ => 0)
  case atStart => exact ⟨rfl, HB.out⟩
  case round =>
    obtain ⟨rfl, hTo⟩ := hrel
    obtain ⟨⟨f0, f1, f2, f3, f4, f5⟩, -, f6⟩ := hTo.ok.pt6
    obtain ⟨⟨z0, z1, z2, z3, z4, z5⟩, ⟨y0, y1, y2, y3, y4, y5⟩, y6⟩ := hTo.p1.ok.pt6
    have HW := Lib.hid (hTo.p1.ptSet6 (.int .i64 5) (.string s) (.int .i64 0) (.int .u64 0) (.int .u64 0) (.slice none 0 0)).drop.drop
    clear hTo HB
    go_wp2
    refine bodyPost_ret (v := .agg #[.int .i64 5, .string s, .int .i64 0, .int .u64 0, .int .u64 0, .slice none 0 0]) (by simp [results, Try.results106, *, go_sem]) rfl ?_
    exact ⟨rfl, HW.out⟩
set_option maxRecDepth 100000 in
set_option maxHeartbeats 2000000 in
theorem plainOne5 {w : World} {S : Blk} {Γ : List Asn} (hO : Ok w S Γ) (s : ByteArray) (n re im : Int) (v : Value) : Calls Try.prog 151 #[.agg #[.int .i64 5, .string s, .int .i64 n, .int .u64 re, .int .u64 im, v]] w fun e w' =>
    e = .returned (.agg #[.int .i64 5, .string s, .int .i64 0, .int .u64 0, .int .u64 0, .slice none 0 0]) ∧ To w S w' S Γ := by
  have h1 := ((hO.to.alloc (.cells #[.int .i64 5, .string s, .int .i64 n, .int .u64 re, .int .u64 im, .slice none 0 0] 25)).allocPt' zero6 25 (w.heap.size + 1) (by simp))
  have hp := plain5_nil h1.ok s n re im
  have HP := Lib.hid hp
  have H1 := Lib.hid h1
  clear hp h1 hO
  go_enter Try.func151, Try.ntmps151
  go_wp2_with fail
  refine HP.out.mono ?_
  rintro e w3 ⟨rfl, h3⟩
  obtain ⟨⟨z0, z1, z2, z3, z4, z5⟩, ⟨y0, y1, y2, y3, y4, y5⟩, y6⟩ := h3.ok.pt6
  have HW := Lib.hid ((H1.out.trans h3).ptSet6 (.int .i64 5) (.string s) (.int .i64 0) (.int .u64 0) (.int .u64 0) (.slice none 0 0)).drop
  clear h3 HP H1
  go_wp2
  refine bodyPost_ret (v := .agg #[.int .i64 5, .string s, .int .i64 0, .int .u64 0, .int .u64 0, .slice none 0 0]) (by simp [results, Try.results151, *, go_sem]) rfl ?_
  exact ⟨rfl, HW.out⟩
set_option maxRecDepth 100000 in
set_option maxHeartbeats 2000000 in
theorem plainOne_leaf {w : World} {S : Blk} {Γ : List Asn} (hO : Ok w S Γ) {k n re im : Int} {s : ByteArray} (v : Value) (k5 : k ≠ 5) (hT : TmC w S [.int .i64 k, .string s, .int .i64 n, .int .u64 re, .int .u64 im, .slice none 0 0] (.mk k s n re im [])) : Calls Try.prog 151 #[.agg #[.int .i64 k, .string s, .int .i64 n, .int .u64 re, .int .u64 im, v]] w fun e w' =>
    ∃ (c : Tc) (S' : Blk), c.t = plainT (.mk k s n re im []) ∧ e = .returned (.agg c.six.toArray) ∧ To w S w' S' Γ ∧ TmC w' S' c.six c.t := by
  have h1 := ((hO.to.alloc (.cells #[.int .i64 k, .string s, .int .i64 n, .int .u64 re, .int .u64 im, .slice none 0 0] 25)).allocPt' zero6 25 (w.heap.size + 1) (by simp))
  have hp := plain_spec (.mk k s n re im []) _ _ _ _ h1.ok (hT.to h1) (fun h => absurd h k5)
  have HP := Lib.hid hp
  have H1 := Lib.hid h1
  clear hp h1 hO hT k5
  go_enter Try.func151, Try.ntmps151
  go_wp2_with fail
  refine HP.out.mono ?_
  rintro e w3 ⟨tc, S3, hq, rfl, h3, hk⟩
  obtain ⟨⟨z0, z1, z2, z3, z4, z5⟩, ⟨y0, y1, y2, y3, y4, y5⟩, y6⟩ := h3.ok.pt6
  have h4 := h3.ok.to.ptSet6 (.int .i64 tc.t.k) (.string tc.t.s) (.int .i64 tc.t.n) (.int .u64 tc.t.re) (.int .u64 tc.t.im) (.slice tc.A tc.t.xs.length tc.c)
  have HK := Lib.hid (hk.to h4)
  have HQ := Lib.hid hq
  have HW := Lib.hid ((H1.out.trans h3).trans h4).drop
  clear h3 hk h4 HP H1 hq
  go_wp2
  refine bodyPost_ret (v := .agg tc.six.toArray) (by simp [results, Try.results151, *, go_sem]) rfl ?_
  exact ⟨tc, S3, HQ.out, rfl, HW.out, HK.out⟩
abbrev MapII (m : Nat) (V : List (Int × Int)) : Asn := MapA m (Value.int .i64) (Value.int .i64) V
/-- By another number. -/
def nmV (V : List (Int × Int)) (n : Int) : Tm := tVar ((lk V n).getD 0)
def NamedS (t : Tm) : Prop := ∀ (w : World) (S : Blk) (Γ : List Asn) (cs : List Value) (m : Nat) (V : List (Int × Int)), Ok w S (MapII m V :: Γ) → TmC w S cs t → good t → (∀ x ∈ V, -9223372036854775808 ≤ x.2 ∧ x.2 ≤ 9223372036854775807) →
  Calls Try.prog 108 #[.agg cs.toArray, .map (some m)] w fun e w' => ∃ (c : Tc) (S' : Blk), c.t = mapT (nmV V) t ∧ e = .returned (.agg c.six.toArray) ∧ To w S w' S' (MapII m V :: Γ) ∧ TmC w' S' c.six c.t
set_option maxRecDepth 100000 in
set_option maxHeartbeats 4000000 in
theorem named_spec (t : Tm) : NamedS t := by
  refine Tm.ind (P := NamedS) ?_ t
  intro k s n re im xs ih w S Γ cs m V hO hT hg hV
  obtain ⟨h1g, h2g⟩ := hg
  obtain ⟨A, cap, rfl, ⟨hk, hsz, hn, hre, him, hxl⟩, hA⟩ := hT.form
  simp only [Tm.k, Tm.s, Tm.n, Tm.re, Tm.im, Tm.xs] at hk hsz hn hre him hxl hA hT ⊢
  have HA := Lib.hid hA; clear hA
  have h1 := (hO.to.allocPt' #[.int .i64 k, .string s, .int .i64 n, .int .u64 re, .int .u64 im, .slice A xs.length cap] 25 w.heap.size rfl).allocPt' zero6 25 (w.heap.size + 1) (by simp)
  have HV := Lib.hid hV
  clear hV hT hO
  by_cases k1 : k = 1
  · subst k1
    have hm : mapT (nmV V) (.mk 1 s n re im xs) = tVar ((lk V n).getD 0) := by rw [mapT, if_pos rfl]; rfl
    rw [hm]
    have hlk := h1.p2.ok.look (P := Try.prog) (key_int .i64) Try.underlying171 Try.underlying2 zero2 n false 0
    have hvb : -9223372036854775808 ≤ (lk V n).getD 0 ∧ (lk V n).getD 0 ≤ 9223372036854775807 := by
      cases hq : lk V n with
      | none => simp
      | some y =>
        obtain ⟨x, hx, rfl⟩ := lk_mem hq
        simpa using HV.out x hx
    have hval : ((lk V n).map (Value.int .i64)).getD (.int .i64 0) = .int .i64 ((lk V n).getD 0) := by cases lk V n <;> rfl
    rw [hval] at hlk
    simp only [if_false, Bool.false_eq_true] at hlk
    have hlk' : (Instr.lookup 171 (.map (some m)) (.int .i64 n) false).run Try.prog ((w.alloc (.cells #[.int .i64 1, .string s, .int .i64 n, .int .u64 re, .int .u64 im, .slice A xs.length cap] 25)).alloc (.cells zero6 25)) = .ok (.int .i64 ((lk V n).getD 0)) ((w.alloc (.cells #[.int .i64 1, .string s, .int .i64 n, .int .u64 re, .int .u64 im, .slice A xs.length cap] 25)).alloc (.cells zero6 25)) := hlk
    clear hlk hval hm
    generalize (lk V n).getD 0 = y at hlk' hvb ⊢
    have hv := r1var_spec h1.ok y
    have HVS := Lib.hid hv
    have H1 := Lib.hid h1
    have HVB := Lib.hid hvb
    clear hv h1 hvb ih h1g h2g
    go_enter Try.func108, Try.ntmps108
    go_wp2_with fail
    clear hlk'
    refine HVS.out.mono ?_
    rintro e w3 ⟨rfl, h3⟩
    obtain ⟨⟨z0, z1, z2, z3, z4, z5⟩, ⟨y0, y1, y2, y3, y4, y5⟩, y6⟩ := h3.ok.pt6
    have HW := Lib.hid ((H1.out.trans h3).ptSet6 (.int .i64 1) (.string ⟨#[]⟩) (.int .i64 y) (.int .u64 0) (.int .u64 0) (.slice none 0 0)).drop.drop
    clear h3 H1 HVS
    go_wp2
    refine bodyPost_ret (v := .agg #[.int .i64 1, .string ⟨#[]⟩, .int .i64 y, .int .u64 0, .int .u64 0, .slice none 0 0]) (by simp [results, Try.results108, *, go_sem]) rfl ?_
    exact ⟨⟨tVar y, none, 0⟩, S, rfl, rfl, HW.out, leaf_any (k := 1) (s := ⟨#[]⟩) (n := y) (re := 0) (im := 0) (by omega) (by decide) HVB.out (by omega) (by omega) 0⟩
  have b1 : (k == 1) = false := beq_eq_false_iff_ne.2 k1
  by_cases k5 : k = 5
  case neg =>
    have b5 : (k == 5) = false := beq_eq_false_iff_ne.2 k5
    have hm : mapT (nmV V) (.mk k s n re im xs) = plainT (.mk k s n re im []) := by
      rw [mapT, if_neg k1, if_pos k5, plain_leaf h1g k5]
      simp [plainT, k5]
    rw [hm]
    have hp := plainOne_leaf h1.ok (.slice A xs.length cap) k5 (leaf_any hk hsz hn hre him 0)
    have HP := Lib.hid hp
    have H1 := Lib.hid h1
    clear hm hp h1 ih h1g h2g k1 k5
    go_enter Try.func108, Try.ntmps108
    go_wp2_with fail
    refine HP.out.mono ?_
    rintro e w3 ⟨tc, S3, hq, rfl, h3, hkk⟩
    have h4 := h3.allocPt' tc.six.toArray 25 w3.heap.size rfl
    have hk4 := hkk.to (h3.ok.to.allocPt tc.six.toArray 25)
    obtain ⟨⟨f0, f1, f2, f3, f4, f5⟩, -, f6⟩ := h4.ok.pt6
    obtain ⟨⟨x0, -⟩, -, x6⟩ := h4.p2.ok.pt6
    obtain ⟨⟨z0, z1, z2, z3, z4, z5⟩, ⟨y0, y1, y2, y3, y4, y5⟩, y6⟩ := h4.p1.ok.pt6
    have x00 := h3.p1.ok.pt6.1.1
    have h5 := h4.ok.to.p1.ptSet6 (.int .i64 tc.t.k) (.string tc.t.s) (.int .i64 tc.t.n) (.int .u64 tc.t.re) (.int .u64 tc.t.im) (.slice tc.A tc.t.xs.length tc.c)
    have HK := Lib.hid (hk4.to h5)
    have HQ := Lib.hid hq
    have HW := Lib.hid ((H1.out.trans h4).trans h5).drop.drop.drop
    clear h3 hkk h4 hk4 h5 hq HP H1
    go_wp2
    refine bodyPost_ret (v := .agg tc.six.toArray) (by simp [results, Try.results108, *, go_sem]) rfl ?_
    exact ⟨tc, S3, HQ.out, rfl, HW.out, HK.out⟩
  subst k5
  have hm : mapT (nmV V) (.mk 5 s n re im xs) = .mk 5 s 0 0 0 (mapL (nmV V) xs) := by rw [mapT, if_neg (by omega), if_neg (by simp)]
  rw [hm]
  obtain ⟨-, -, -, o4, -⟩ := one_zero.1 h1g
  simp only [Tm.k, Tm.xs] at o4
  have hx20 : xs.length ≤ 20 := by first | exact (o4 rfl).2 | exact (o4 trivial).2
  have hgx := h2g rfl
  have hp := plainOne5 h1.ok s n re im (.slice A xs.length cap)
  have HP := Lib.hid hp
  have H1 := Lib.hid h1
  clear hm hp h1 h1g h2g k1 o4
  go_enter Try.func108, Try.ntmps108
  go_wp2_with fail
  refine HP.out.mono ?_
  rintro e w3 ⟨rfl, h3⟩
  have h4 := (H1.out.trans h3).allocPt' #[.int .i64 5, .string s, .int .i64 0, .int .u64 0, .int .u64 0, .slice none 0 0] 25 w3.heap.size rfl
  obtain ⟨⟨x0, x1, x2, x3, x4, x5⟩, -, x6⟩ := h4.p2.ok.pt6
  have x00 := h3.p1.ok.pt6.1.1
  have H4 := Lib.hid (h4.re fun kk => (kk.rowNil 25 6).p1)
  clear h3 h4 HP H1
  go_wp2_with fail
  go_loopw [24] (fun i wr => ∃ (j : Nat) (l : List Tc) (v : Value) (S1 : Blk), i = .int .i64 (j : Int) ∧ j ≤ xs.length ∧ l.map (·.t) = (xs.take j).map (mapT (nmV V)) ∧ (∀ x ∈ l, TmC wr S1 x.six x.t) ∧
    To w S wr S1 (Pt w3.heap.size #[.int .i64 5, .string s, .int .i64 0, .int .u64 0, .int .u64 0, v] 25 :: Row v 25 6 j (tcV l) :: Pt (w.heap.size + 1) zero6 25 :: Pt w.heap.size #[.int .i64 5, .string s, .int .i64 n, .int .u64 re, .int .u64 im, .slice A xs.length cap] 25 :: MapII m V :: Γ)) (fun i _ => xs.length - (intOf i).toNat)
  case atStart => exact ⟨0, [], _, S, rfl, Nat.zero_le _, by simp, by simp, H4.out⟩
  case round =>
    obtain ⟨j, l, v, S1, rfl, hj, hl, hlT, hTo⟩ := hrel
    have hlj : l.length = j := by
      have := congrArg List.length hl
      simp at this
      omega
    by_cases hlt : j < xs.length
    · have hx : xs[j]? = some xs[j] := List.getElem?_eq_getElem hlt
      obtain ⟨g, o, A', cap', rfl, hS, g0, g1, g2, g3, g4, g5, hxT⟩ := HA.out j _ hx
      have hgx1 := goodL_mem hgx _ (List.getElem_mem hlt)
      have IX : NamedS xs[j] := ih _ (List.getElem_mem hlt)
      generalize xs[j] = x at hx g0 g1 g2 g3 g4 g5 hxT hgx1 IX
      have f0 := hTo.cell (a := ⟨g, _, none⟩) hS g0
      have f1 := hTo.cell (a := ⟨g, _, none⟩) hS g1
      have f2 := hTo.cell (a := ⟨g, _, none⟩) hS g2
      have f3 := hTo.cell (a := ⟨g, _, none⟩) hS g3
      have f4 := hTo.cell (a := ⟨g, _, none⟩) hS g4
      have f5 := hTo.cell (a := ⟨g, _, none⟩) hS g5
      have f6 : wr.cell? ⟨w3.heap.size, 5, none⟩ = some v := hTo.ok.ptCell 5 _ rfl
      have f7 := hTo.ok.ptLt
      have hal := (hTo.alloc (.cells #[.int .i64 x.k, .string x.s, .int .i64 x.n, .int .u64 x.re, .int .u64 x.im, .slice A' x.xs.length cap'] 25)).p4
      have hcall := IX _ S1 _ _ m V hal.drew.ok (hxT.to hal.drew) hgx1 HV.out
      have HC := Lib.hid hcall; clear hcall
      have HL := Lib.hid hlT; clear hlT
      have HBASE := Lib.hid (hTo.ok.to.alloc (.cells #[.int .i64 x.k, .string x.s, .int .i64 x.n, .int .u64 x.re, .int .u64 x.im, .slice A' x.xs.length cap'] 25)).p4.drew
      have HTo := Lib.hid hTo; clear hTo
      clear g0 g1 g2 g3 g4 g5 hal hxT IX hgx1
      go_wp2
      go_region_law (first | (go_simp; go_at_call 108; refine HC.out.mono ?_; rintro e w2 ⟨c, S2, hc, rfl, h2, hT2⟩; have HCE := Lib.hid hc; clear hc; have q1 : w2.cell? ⟨w3.heap.size, 5, none⟩ = some v := h2.p1.ok.ptCell 5 _ rfl; have q2 := h2.p1.ok.ptLt; have H2 := Lib.hid h2.ok.to; have H20 := Lib.hid h2; have HT2 := Lib.hid hT2; clear h2 hT2) | (refine step_append_new rfl (.tmp 29) (.tmp 33) 23 25 _ 6 72 rfl Try.underlying23 info25 rfl (by decide) (by decide) H2.out.p2 rfl c.six.toArray rfl rfl (by simp [Value.oneCell']) (by omega) ?_; intro A3 c3 W3 H3; have r1 : W3.cell? ⟨w3.heap.size, 5, none⟩ = some v := H3.p2.ok.ptCell 5 _ rfl; have r2 := H3.p2.ok.ptFree 5; have r3 := H3.p2.ok.ptLt; have HH3 := Lib.hid H3; clear H3))
      all_goals
        clear f0 f1 f2 f3 f4 f5 f6 f7 q1 q2
        have h6 := (HBASE.out.trans (H20.out.trans HH3.out)).p2.ptSet 5 (.slice A3 (j + 1) c3)
        have hT6 := HT2.out.to (HH3.out.p2.ptSet 5 (.slice A3 (j + 1) c3))
        have H6 := Lib.hid h6; clear h6
        have HT6 := Lib.hid hT6; clear hT6
        clear HH3 H20 H2 HBASE HT2
        go_wp2
        go_roundw
        case rel =>
          refine ⟨j + 1, l ++ [c], .slice A3 (j + 1) c3, S2, by go_num, by omega, ?_, ?_, ?_⟩
          · rw [List.map_append, hl, List.map_singleton, HCE.out, List.take_add_one, List.map_append, hx]; rfl
          · intro x hx
            rcases List.mem_append.1 hx with hx | hx
            · exact (HL.out x hx).to H6.out
            · rw [List.mem_singleton.1 hx]; exact HT6.out
          · have h7 := (HTo.out.trans H6.out).p4.p4.p3.p3
            rw [tcV_append]
            simpa [tcV] using h7
        case measure => simp [intOf]; omega
    · obtain rfl : j = xs.length := by omega
      obtain ⟨A6, c6, rfl⟩ := hTo.p1.ok.rowShape
      obtain ⟨⟨f0, f1, f2, f3, f4, f5⟩, -, f6⟩ := hTo.ok.pt6
      obtain ⟨⟨z0, z1, z2, z3, z4, z5⟩, ⟨y0, y1, y2, y3, y4, y5⟩, y6⟩ := hTo.p2.ok.pt6
      have HW := Lib.hid (hTo.ok.to.p2.ptSet6 (.int .i64 5) (.string s) (.int .i64 0) (.int .u64 0) (.int .u64 0) (.slice A6 xs.length c6))
      have HTo := Lib.hid hTo; clear hTo
      have HL := Lib.hid hlT; clear hlT
      clear H4 hlt
      go_wp2
      refine bodyPost_ret (v := .agg #[.int .i64 5, .string s, .int .i64 0, .int .u64 0, .int .u64 0, .slice A6 xs.length c6]) (by simp [results, Try.results108, *, go_sem]) rfl ?_
      have e1 : l.map (·.t) = mapL (nmV V) xs := by rw [hl, List.take_length, mapL_map]
      obtain ⟨S2, h8, hk8⟩ := HW.out.p2.ok.rowTerm (k := 5) (n := 0) (re := 0) (im := 0) (s := s) hlj (fun x hx => (HL.out x hx).to HW.out) ⟨by simp only [Tm.k]; omega, hsz, by simp only [Tm.n]; omega, by simp only [Tm.re]; omega, by simp only [Tm.im]; omega, by simp only [Tm.xs, List.length_map]; omega⟩
      have hh := ((HTo.out.trans HW.out.p2).trans h8).drop.drop.drop
      clear HW HL h8
      refine ⟨⟨.mk 5 s 0 0 0 (l.map (·.t)), A6, c6⟩, S2, ?_, ?_, hh, ?_⟩
      · rw [e1]
      · simp only [Tc.six, Tm.k, Tm.s, Tm.n, Tm.re, Tm.im, Tm.xs, List.length_map, hlj]
      · simp only [Tc.six, Tm.k, Tm.s, Tm.n, Tm.re, Tm.im, Tm.xs, List.length_map]
        rw [hlj]
        exact hk8
#print axioms named_spec
end Go.Proofs.Ytceahdlcbiialaa
set_option linter.unusedVariables false
set_option linter.unusedSimpArgs false
namespace Go.Proofs.Ytceahdlcbiialaa
open Go.RowKit

mutual
theorem varsT_nodup : ∀ (t : Tm) (l : List Int), l.Nodup → (varsT t l).Nodup
  | .mk k s n re im xs, l, h => by
    unfold varsT
    split
    · split
      · exact h
      · rename_i hn
        exact List.nodup_append.2 ⟨h, by simp, fun a ha b hb => by simp at hb; subst hb; intro e; exact hn (e ▸ ha)⟩
    · split
      · exact varsL_nodup xs l h
      · exact h
theorem varsL_nodup : ∀ (xs : List Tm) (l : List Int), l.Nodup → (varsL xs l).Nodup
  | [], l, h => h
  | t :: r, l, h => varsL_nodup r _ (varsT_nodup t l h)
end
/-- Each number's place, from n0 on. -/
def atV (n0 : Nat) (l : List Int) : List (Int × Int) := l.zipIdx.map fun p => (p.1, ((n0 + p.2 : Nat) : Int))
theorem atV_snoc (n0 : Nat) (l : List Int) (x : Int) : atV n0 (l ++ [x]) = atV n0 l ++ [(x, ((n0 + l.length : Nat) : Int))] := by
  simp [atV, List.zipIdx_append]
theorem lk_atV (n0 : Nat) (n : Int) : ∀ l : List Int, lk (atV n0 l) n = (pos l n).map fun i => ((n0 + i : Nat) : Int) := by
  have h : ∀ (l : List Int) (k : Nat), lk ((l.zipIdx k).map fun p => (p.1, ((n0 + p.2 : Nat) : Int))) n = (pos l n).map fun i => ((n0 + (k + i) : Nat) : Int) := by
    intro l
    induction l with
    | nil => intro k; rfl
    | cons x l ih =>
      intro k
      rw [List.zipIdx_cons, List.map_cons, lk, pos]
      by_cases hx : x = n
      · simp [hx]
      · rw [if_neg (fun e => hx e.symm), if_neg hx, ih (k + 1)]
        cases pos l n with
        | none => rfl
        | some i => simp; omega
  intro l
  have := h l 0
  simpa [atV] using this
theorem atV_bound (n0 : Nat) (l : List Int) : ∀ x ∈ atV n0 l, 0 ≤ x.2 ∧ x.2 < n0 + l.length := by
  intro x hx
  simp only [atV, List.mem_map] at hx
  obtain ⟨p, hp, rfl⟩ := hx
  have := (List.mem_zipIdx hp).2.1
  simp only
  omega
set_option maxRecDepth 100000 in
set_option maxHeartbeats 2000000 in
theorem renFrom_spec {w : World} {S : Blk} {Γ : List Asn} {cs : List Value} {t : Tm} (hO : Ok w S Γ) (hT : TmC w S cs t) (hm : May t = 0) (n0 : Nat) (hn0 : n0 ≤ 1000000) {n' : Int} (en : n' = n0) :
    Calls Try.prog 74 #[.agg cs.toArray, .int .i64 n'] w fun e w' => ∃ (c : Tc) (S' : Blk), c.t = mapT (nmV (atV n0 (varsT t []))) t ∧ e = .returned (.agg c.six.toArray) ∧ To w S w' S' Γ ∧ TmC w' S' c.six c.t := by
  subst en
  obtain ⟨A, cap, rfl⟩ := hT.form0
  have h1 := (hO.to.allocPt' #[.int .i64 t.k, .string t.s, .int .i64 t.n, .int .u64 t.re, .int .u64 t.im, .slice A t.xs.length cap] 25 w.heap.size rfl).allocPt' zero6 25 (w.heap.size + 1) (by simp)
  have hT1 := hT.to h1
  have hv := Vars_spec h1.ok hT1
  have hlen := varsT_len t []
  have hnd := varsT_nodup t [] (by simp)
  obtain ⟨hnod, hgood⟩ := May_zero hm
  have e0 : VarsT t = varsT t [] := by unfold VarsT; rw [if_neg (by simp [hm])]
  rw [e0] at hv
  simp only [List.length_nil, Nat.zero_add] at hlen
  have hl2 : (varsT t []).length ≤ 2000 := by omega
  generalize varsT t [] = l at hv hnd hl2 ⊢
  have HV := Lib.hid hv
  have H1 := Lib.hid h1
  have HT := Lib.hid hT
  have HG := Lib.hid hgood
  have HND := Lib.hid hnd
  have hmm := @run_makeMap Try.prog
  clear hv h1 hT1 hO hT hlen hnod hgood e0 hm hnd
  go_enter Try.func74, Try.ntmps74
  go_wp2_with fail
  refine HV.out.mono ?_
  rintro e w3 ⟨v, rfl, h3⟩
  obtain ⟨A8, c8, rfl, hcl⟩ := row_readI h3.ok
  have h4 := h3.allocMap' (enc := Value.int .i64) (val := Value.int .i64) w3.heap.size rfl
  have H4 := Lib.hid (H1.out.trans h4)
  clear h3 h4 HV H1 hcl
  go_wp2_with fail
  go_loopw [14] (fun i wr => ∃ (j : Nat), i = .int .i64 (j : Int) ∧ j ≤ l.length ∧ To w S wr S (MapII w3.heap.size (atV n0 (l.take j)) :: Row (.slice A8 l.length c8) 2 1 l.length (intsV l) :: Pt (w.heap.size + 1) zero6 25 :: Pt w.heap.size #[.int .i64 t.k, .string t.s, .int .i64 t.n, .int .u64 t.re, .int .u64 t.im, .slice A t.xs.length cap] 25 :: Γ)) (fun i _ => l.length - (intOf i).toNat)
  case atStart => exact ⟨0, rfl, Nat.zero_le _, H4.out⟩
  case round =>
    obtain ⟨j, rfl, hj, hTo⟩ := hrel
    by_cases hlt : j < l.length
    · have hx : l[j]? = some l[j] := List.getElem?_eq_getElem hlt
      obtain ⟨A9, c9, e9, hcl⟩ := row_readI hTo.p1.ok
      cases e9
      obtain ⟨ad, rfl, hcx⟩ := hcl j _ hx
      have hnin : l[j] ∉ l.take j := by
        have hnd := HND.out
        rw [← List.take_append_drop j l, List.nodup_append] at hnd
        intro hin
        exact hnd.2.2 _ hin _ (List.mem_of_mem_head? (by rw [List.head?_drop]; exact hx)) rfl
      have htk : l.take (j + 1) = l.take j ++ [l[j]] := by rw [List.take_add_one, hx]; rfl
      have htl : (l.take j).length = j := by rw [List.length_take]; omega
      generalize l[j] = x at hx hcx hnin htk
      obtain ⟨w5, hr, hT5⟩ := hTo.ok.mapPut (P := Try.prog) (key_int .i64) Try.underlying171 Try.underlying2 x ((n0 + j : Nat) : Int)
      have hup : up (atV n0 (l.take j)) x ((n0 + j : Nat) : Int) = atV n0 (l.take (j + 1)) := by
        rw [up_absent _ _ _ (by rw [lk_atV, pos_none _ _ hnin]; rfl), htk, atV_snoc, htl]
      rw [hup] at hT5
      have hrun : (Instr.mapUpdate 171 (.map (some w3.heap.size)) (.int .i64 x) (.int .i64 ((n0 : Int) + (j : Int)))).run Try.prog wr = .ok () w5 := by
        have e : ((n0 + j : Nat) : Int) = (n0 : Int) + (j : Int) := by simp
        rw [e] at hr
        exact hr
      have H5 := Lib.hid (hTo.trans hT5)
      clear hT5 hr hup htk htl hnin hx hTo hcl H4
      go_wp2
      go_roundw
      case rel => exact ⟨j + 1, by go_num, by omega, H5.out⟩
      case measure => simp [intOf]; omega
    · obtain rfl : j = l.length := by omega
      rw [List.take_length] at hTo
      have hb := fun x hx => atV_bound n0 l x hx
      have hcall := named_spec t wr S _ _ w3.heap.size (atV n0 l) hTo.ok (HT.out.to hTo) HG.out (fun x hx => by have := hb x hx; omega)
      obtain ⟨⟨x0, x1, x2, x3, x4, x5⟩, -, x6⟩ := hTo.p3.ok.pt6
      have HC := Lib.hid hcall
      have H5 := Lib.hid hTo
      clear hcall hTo hb H4 hlt
      go_wp2_with fail
      refine HC.out.mono ?_
      rintro e w6 ⟨tc, S6, hq, rfl, h6, hk⟩
      obtain ⟨⟨z0, z1, z2, z3, z4, z5⟩, ⟨y0, y1, y2, y3, y4, y5⟩, y6⟩ := h6.p2.ok.pt6
      have h7 := h6.ok.to.p2.ptSet6 (.int .i64 tc.t.k) (.string tc.t.s) (.int .i64 tc.t.n) (.int .u64 tc.t.re) (.int .u64 tc.t.im) (.slice tc.A tc.t.xs.length tc.c)
      have HK := Lib.hid (hk.to h7)
      have HQ := Lib.hid hq
      have HW := Lib.hid ((H5.out.trans h6).trans h7).drop.drop.drop.drop
      clear h6 hk h7 hq HC H5
      go_wp2
      refine bodyPost_ret (v := .agg tc.six.toArray) (by simp [results, Try.results74, *, go_sem]) rfl ?_
      exact ⟨tc, S6, HQ.out, rfl, HW.out, HK.out⟩
#print axioms renFrom_spec
end Go.Proofs.Ytceahdlcbiialaa
