/- The reader: terms. -/
import Derived.Test.YtceahdlcbiialaaF5M23
set_option linter.unusedVariables false
set_option linter.unusedSimpArgs false
namespace Go.Proofs.Ytceahdlcbiialaa
open Go.RowKit

theorem wrap64_rng (x : Int) : -9223372036854775808 ≤ wrap64 x ∧ wrap64 x ≤ 9223372036854775807 := by
  unfold wrap64
  omega
theorem sint_rng (d : Nat) (hd : d < 18446744073709551616) : -9223372036854775808 ≤ sint d ∧ sint d ≤ 9223372036854775807 := by
  have := wrap64_rng (d : Int)
  unfold sint
  omega
section
variable {C : List Nat} {L : List ByteArray}
theorem long_res {w W : World} {S : Blk} {Γ : List Asn} {r h a m most : Nat} {s : RS} (hT : To w S W S (ReadG r h a m most C L s Γ)) : TermQ w S r h a m most C L Γ ((tNone, 3), s) (.returned (.tuple #[.agg zero6, .int .i64 3])) W := ⟨⟨tNone, none, 0⟩, S, rfl, rfl, hT, none_tm⟩
theorem form_res {w W : World} {S : Blk} {Γ : List Asn} {r h a m most : Nat} {s : RS} (hT : To w S W S (ReadG r h a m most C L s Γ)) : TermQ w S r h a m most C L Γ ((tNone, 2), s) (.returned (.tuple #[.agg zero6, .int .i64 2])) W := ⟨⟨tNone, none, 0⟩, S, rfl, rfl, hT, none_tm⟩
theorem six_res {w W : World} {S : Blk} {Γ : List Asn} {r h a m most : Nat} {s : RS} {k n re im : Int} {sx : ByteArray} (hT : To w S W S (ReadG r h a m most C L s Γ)) (hk : -9223372036854775808 ≤ k ∧ k ≤ 9223372036854775807) (hs : sx.size ≤ 140737488351232) (hn : -9223372036854775808 ≤ n ∧ n ≤ 9223372036854775807)
    (hr : 0 ≤ re ∧ re ≤ 18446744073709551615) (hi : 0 ≤ im ∧ im ≤ 18446744073709551615) : TermQ w S r h a m most C L Γ ((.mk k sx n re im [], 0), s) (.returned (.tuple #[.agg #[.int .i64 k, .string sx, .int .i64 n, .int .u64 re, .int .u64 im, .slice none 0 0], .int .i64 0])) W :=
  ⟨⟨.mk k sx n re im [], none, 0⟩, S, rfl, rfl, hT, leaf_any hk hs hn hr hi 0⟩
set_option maxRecDepth 100000 in
set_option maxHeartbeats 2000000 in
theorem rlong_spec {w : World} {S : Blk} {Γ : List Asn} {r h a m most : Nat} {s : RS} (hO : Ok w S (ReadG r h a m most C L s Γ)) (c : Int) (dd : Int) (hl : s.n = 2000 ∨ 500 < dd) :
    Calls Try.prog 92 #[.pointer (some ⟨r, 0, none⟩), .int .u64 c, .int .i64 dd] w (TermQ w S r h a m most C L Γ ((tNone, 3), s)) := by
  have h1 := hO.to.allocPt' zero6 25 w.heap.size rfl
  obtain ⟨-, -, -, k3, -, k5⟩ := h1.drop.ok.readPt
  have H1 := Lib.hid h1
  clear h1 hO
  by_cases h2 : s.n = 2000
  · rw [h2] at k3
    have H3 := Lib.hid (long_res H1.out.drop)
    clear hl h2
    go_enter Try.func92, Try.ntmps92
    go_wp2
    refine bodyPost_ret (v := .tuple #[.agg zero6, .int .i64 3]) (by simp [results, Try.results92, *, go_sem]) rfl ?_
    exact H3.out
  · have hb : ((s.n : Int) == 2000) = false := beq_eq_false_iff_ne.2 (by omega)
    have hd : 500 < dd := by omega
    have H3 := Lib.hid (long_res H1.out.drop)
    clear hl h2
    go_enter Try.func92, Try.ntmps92
    go_wp2
    refine bodyPost_ret (v := .tuple #[.agg zero6, .int .i64 3]) (by simp [results, Try.results92, *, go_sem]) rfl ?_
    exact H3.out
set_option maxRecDepth 100000 in
set_option maxHeartbeats 4000000 in
theorem rterm_step (f : Nat) (hf : f + 1 ≤ 501) (IH : RdS C L f) : RdS C L (f + 1) := by
    intro w S Γ r h a m most s c dd hO hc hs hdd
    by_cases hn : s.n = 2000
    · have e : rd C L (f + 1) c s = ((tNone, 3), s) := by rw [rd, if_pos hn]
      rw [e]
      exact rlong_spec hO c dd (.inl hn)
    have e : rd C L (f + 1) c s = rdOne C L (rd C L f) (deref C C.length c) ⟨s.V, s.n + 1⟩ := by rw [rd, if_neg hn]
    rw [e]
    clear e
    generalize hRES : rdOne C L (rd C L f) (deref C C.length c) ⟨s.V, s.n + 1⟩ = RES
    have HRES := Lib.hid hRES
    clear hRES
    have hdb : deref C C.length c < 18446744073709551616 := deref_lt (most := most) hO.heapAR.2.2.2.2 _ _ hc
    have h1 := (hO.to.allocPt' zero6 25 w.heap.size rfl).p4.p4.p4.p4
    obtain ⟨-, -, -, k3, k4, k5⟩ := h1.ok.readPt
    obtain ⟨k0, -⟩ := h1.ok.readPt
    have hnb : ((s.n : Int) == 2000) = false := beq_eq_false_iff_ne.2 (by omega)
    have hdd1 : 0 ≤ dd ∧ dd ≤ 500 := by omega
    have hs1 : RSok ⟨s.V, s.n + 1⟩ := ⟨hs.vals, by have := hs.len; simp only; omega, by have := hs.n; simp only; omega⟩
    have hsn : s.n ≤ 2000 := hs.n
    have HDD := Lib.hid hdd
    have HS1 := Lib.hid hs1
    have HLEN := Lib.hid hs.len
    have H1 := Lib.hid h1
    clear h1 hO hn hdd hs hs1
    go_enter Try.func92, Try.ntmps92
    go_wp2_with fail
    have h2 : To w S _ S (ReadG r h a m most C L ⟨s.V, s.n + 1⟩ (Pt w.heap.size zero6 25 :: Γ)) := (H1.out.p3.ptSet 3 (.int .i64 ((s.n : Int) + 1))).p3.p3.p3
    have hder := deref_spec h2.ok.heapAR c rfl hc
    refine hder.mono ?_
    rintro e w2 ⟨rfl, nq, rfl⟩
    have h3 := h2.drewN nq
    have H2 := Lib.hid h3
    clear hder h2 h3 k3 k4 k5
    generalize ((w.alloc (.cells zero6 25)).setCell ⟨r, 3, none⟩ (.int .i64 ((s.n : Int) + 1))).drewN nq = W2 at H2 ⊢
    generalize deref C C.length c = d at hdb HRES ⊢
    have ht := tag_spec d hdb W2
    obtain ⟨T, hT⟩ : ∃ T, tg d = T := ⟨_, rfl⟩
    rw [hT] at ht
    clear k0 H1 hnb
    go_wp2_with fail
    refine ht.mono ?_
    rintro e w' ⟨rfl, hww⟩
    subst w'
    clear ht
    by_cases t0 : T = 0
    · subst t0
      have hv := rvariable_spec H2.out.ok d hdb HS1.out.vals (by have := HS1.out.len; have := HS1.out.n; simp only at *; omega)
      have HV := Lib.hid hv
      clear hv
      go_wp2_with fail
      refine HV.out.mono ?_
      rintro e w3 ⟨tc, S3, hq, rfl, h3, hk⟩
      have hres : RES = rdVar C d ⟨s.V, s.n + 1⟩ := by rw [← HRES.out, rdOne, if_pos hT]
      have HRS := Lib.hid hres
      clear hres
      clear HV
      obtain ⟨⟨k, sx, n, re, im, xs⟩, A, cp⟩ := tc
      simp only [Tc.six, Tm.k, Tm.s, Tm.n, Tm.re, Tm.im, Tm.xs] at hk
      obtain ⟨⟨z0, z1, z2, z3, z4, z5⟩, ⟨y0, y1, y2, y3, y4, y5⟩, y6⟩ := h3.p4.ok.pt6
      have H4 := Lib.hid (h3.ok.to.p4.ptSet6 (.int .i64 k) (.string sx) (.int .i64 n) (.int .u64 re) (.int .u64 im) (.slice A xs.length cp)).drop
      have HK := Lib.hid hk
      have HQ := Lib.hid hq
      have H3 := Lib.hid h3
      clear hk h3 hq
      go_wp2
      refine bodyPost_ret (v := .tuple #[.agg #[.int .i64 k, .string sx, .int .i64 n, .int .u64 re, .int .u64 im, .slice A xs.length cp], .int .i64 ((rdVar C d ⟨s.V, s.n + 1⟩).1.2 : Int)]) (by simp [results, Try.results92, Tm.k, Tm.s, Tm.n, Tm.re, Tm.im, Tm.xs, *, go_sem]) rfl ?_
      rw [HRS.out]
      exact ⟨⟨.mk k sx n re im xs, A, cp⟩, S3, HQ.out, rfl, ((H2.out.trans H3.out).trans H4.out), HK.out.to H4.out⟩

    by_cases t1 : T = 1
    · subst t1
      have hv := rcompound_spec f (by omega) IH H2.out.ok d hdb HS1.out (dd := dd) (by have := HDD.out; omega)
      have HV := Lib.hid hv
      clear hv
      go_wp2_with fail
      refine HV.out.mono ?_
      rintro e w3 ⟨tc, S3, hq, rfl, h3, hk⟩
      have hres : RES = rdComp C L (rd C L f) d ⟨s.V, s.n + 1⟩ := by rw [← HRES.out, rdOne, if_neg (by omega), if_pos hT]
      have HRS := Lib.hid hres
      clear hres
      clear HV
      obtain ⟨⟨k, sx, n, re, im, xs⟩, A, cp⟩ := tc
      simp only [Tc.six, Tm.k, Tm.s, Tm.n, Tm.re, Tm.im, Tm.xs] at hk
      obtain ⟨⟨z0, z1, z2, z3, z4, z5⟩, ⟨y0, y1, y2, y3, y4, y5⟩, y6⟩ := h3.p4.ok.pt6
      have H4 := Lib.hid (h3.ok.to.p4.ptSet6 (.int .i64 k) (.string sx) (.int .i64 n) (.int .u64 re) (.int .u64 im) (.slice A xs.length cp)).drop
      have HK := Lib.hid hk
      have HQ := Lib.hid hq
      have H3 := Lib.hid h3
      clear hk h3 hq
      go_wp2
      refine bodyPost_ret (v := .tuple #[.agg #[.int .i64 k, .string sx, .int .i64 n, .int .u64 re, .int .u64 im, .slice A xs.length cp], .int .i64 ((rdComp C L (rd C L f) d ⟨s.V, s.n + 1⟩).1.2 : Int)]) (by simp [results, Try.results92, Tm.k, Tm.s, Tm.n, Tm.re, Tm.im, Tm.xs, *, go_sem]) rfl ?_
      rw [HRS.out]
      exact ⟨⟨.mk k sx n re im xs, A, cp⟩, S3, HQ.out, rfl, ((H2.out.trans H3.out).trans H4.out), HK.out.to H4.out⟩

    by_cases t2 : T = 2
    · subst t2
      have hv := value_spec d hdb W2
      have HVAL := Lib.hid hv
      clear hv
      obtain ⟨⟨z0, z1, z2, z3, z4, z5⟩, ⟨y0, y1, y2, y3, y4, y5⟩, y6⟩ := H2.out.p4.ok.pt6
      cases hx : L[vl d]? with
      | some x =>
        have hres : RES = ((tAtom x, 0), ⟨s.V, s.n + 1⟩) := by rw [← HRES.out, rdOne, if_neg (by omega), if_neg (by omega), if_pos hT, hx]
        have hnm := rname_in H2.out.ok (i' := (vl d : Int)) (vl d) x rfl hx
        have hxs : x.size ≤ 140737488351232 := Nat.le_trans (H2.out.ok.p1.atomsAR.2.2 x (List.mem_of_getElem? hx)) (by omega)
        have HRS := Lib.hid hres
        have HNM := Lib.hid hnm
        have HXS := Lib.hid hxs
        have H4 := Lib.hid (H2.out.p4.ptSet6 (.int .i64 (2)) (.string (x)) (.int .i64 (0)) (.int .u64 (0)) (.int .u64 (0)) (.slice none 0 0)).drop
        have H5 := Lib.hid (six_res (k := 2) (sx := x) (n := 0) (re := 0) (im := 0) H4.out (by omega) HXS.out (by omega) (by omega) (by omega))
        clear hres hnm hx hxs
        go_wp2_with (first | (go_at_call 111; refine HVAL.out.mono ?_; rintro e w' ⟨rfl, hww⟩; subst w') | (go_at_call 129; refine HNM.out.mono ?_; rintro e w' ⟨rfl, hww⟩; subst w'))
        refine bodyPost_ret (v := .tuple #[.agg #[.int .i64 (2), .string (x), .int .i64 (0), .int .u64 (0), .int .u64 (0), .slice none 0 0], .int .i64 0]) (by simp [results, Try.results92, *, go_sem]) rfl ?_
        rw [HRS.out]
        exact H5.out
      | none =>
        have hres : RES = ((tNone, 2), ⟨s.V, s.n + 1⟩) := by rw [← HRES.out, rdOne, if_neg (by omega), if_neg (by omega), if_pos hT, hx]
        have hnm := rname_out H2.out.ok (i' := (vl d : Int)) (vl d) rfl (List.getElem?_eq_none_iff.1 hx)
        have HRS := Lib.hid hres
        have HNM := Lib.hid hnm
        have H4 := Lib.hid (H2.out.p4.ptSet6 (.int .i64 0) (.string ⟨#[]⟩) (.int .i64 0) (.int .u64 0) (.int .u64 0) (.slice none 0 0)).drop
        have H5 := Lib.hid (form_res H4.out)
        clear hres hnm hx
        go_wp2_with (first | (go_at_call 111; refine HVAL.out.mono ?_; rintro e w' ⟨rfl, hww⟩; subst w') | (go_at_call 129; refine HNM.out.mono ?_; rintro e w' ⟨rfl, hww⟩; subst w'))
        refine bodyPost_ret (v := .tuple #[.agg zero6, .int .i64 2]) (by simp [results, Try.results92, *, go_sem]) rfl ?_
        rw [HRS.out]
        exact H5.out
    by_cases t3 : T = 3
    · subst t3
      have hres : RES = ((tInt (sint d), 0), ⟨s.V, s.n + 1⟩) := by rw [← HRES.out, rdOne, if_neg (by omega), if_neg (by omega), if_neg (by omega), if_pos hT]
      have HRS := Lib.hid hres
      have hi := int_spec d hdb W2
      have hsb := sint_rng d hdb
      generalize sint d = sd at HRS hi hsb
      have HI := Lib.hid hi
      have HSB := Lib.hid hsb
      clear hres hi hsb
      obtain ⟨⟨z0, z1, z2, z3, z4, z5⟩, ⟨y0, y1, y2, y3, y4, y5⟩, y6⟩ := H2.out.p4.ok.pt6
      have H4 := Lib.hid (H2.out.p4.ptSet6 (.int .i64 (3)) (.string (⟨#[]⟩)) (.int .i64 (sd)) (.int .u64 (0)) (.int .u64 (0)) (.slice none 0 0)).drop
      have H5 := Lib.hid (six_res (k := 3) (sx := ⟨#[]⟩) (n := sd) (re := 0) (im := 0) H4.out (by omega) (by decide) HSB.out (by omega) (by omega))
      go_wp2_with fail
      refine HI.out.mono ?_
      rintro e w' ⟨rfl, hww⟩
      subst w'
      clear HI
      go_wp2
      refine bodyPost_ret (v := .tuple #[.agg #[.int .i64 (3), .string (⟨#[]⟩), .int .i64 (sd), .int .u64 (0), .int .u64 (0), .slice none 0 0], .int .i64 0]) (by simp [results, Try.results92, *, go_sem]) rfl ?_
      rw [HRS.out]
      exact H5.out
    by_cases t4 : T = 4
    · subst t4
      have hw1 := rwords_spec H2.out.ok d 1 hdb (by omega) (by omega) rfl
      unfold WordsQ at hw1
      cases hx : C[vl d]? with
      | some x =>
        have hlt := (List.getElem?_eq_some_iff.1 hx).1
        have hxv : C[vl d] = x := (List.getElem?_eq_some_iff.1 hx).2
        have htk : (C.drop (vl d)).take 1 = [x] := by rw [List.drop_eq_getElem_cons hlt, hxv]; rfl
        have hle : vl d + 1 ≤ C.length := by omega
        simp only [if_pos hle, htk] at hw1
        clear hle
        have hres : RES = ((tInt (wrap64 (x : Int)), 0), ⟨s.V, s.n + 1⟩) := by rw [← HRES.out, rdOne, if_neg (by omega), if_neg (by omega), if_neg (by omega), if_neg (by omega), if_pos hT, hx]
        have HRS := Lib.hid hres
        have HW := Lib.hid hw1
        clear hres hw1 hx hlt hxv htk
        go_wp2_with fail
        refine HW.out.mono ?_
        rintro e w3 ⟨v, rfl, h3⟩
        obtain ⟨g, cap, rfl, hcap⟩ := h3.ok.rowBlock (by omega)
        have c0 := h3.ok.rowCell 0 x rfl
        have h4 := H2.out.trans h3.drop
        clear h3 HW
        obtain ⟨⟨z0, z1, z2, z3, z4, z5⟩, ⟨y0, y1, y2, y3, y4, y5⟩, y6⟩ := h4.p4.ok.pt6
        have H4 := Lib.hid (h4.p4.ptSet6 (.int .i64 (3)) (.string (⟨#[]⟩)) (.int .i64 (wrap64 (x : Int))) (.int .u64 (0)) (.int .u64 (0)) (.slice none 0 0)).drop
        clear h4
        have hb := wrap64_rng (x : Int)
        have HB := Lib.hid hb
        clear hb
        have H5 := Lib.hid (six_res (k := 3) (sx := ⟨#[]⟩) (n := wrap64 (x : Int)) (re := 0) (im := 0) H4.out (by omega) (by decide) HB.out (by omega) (by omega))
        go_wp2
        refine bodyPost_ret (v := .tuple #[.agg #[.int .i64 (3), .string (⟨#[]⟩), .int .i64 (wrap64 (x : Int)), .int .u64 (0), .int .u64 (0), .slice none 0 0], .int .i64 0]) (by simp [results, Try.results92, *, go_sem]) rfl ?_
        rw [HRS.out]
        exact H5.out
      | none =>
        have hge := List.getElem?_eq_none_iff.1 hx
        have hle : ¬ (vl d + 1 ≤ C.length) := by omega
        simp only [if_neg hle] at hw1
        clear hle
        have hres : RES = ((tNone, 2), ⟨s.V, s.n + 1⟩) := by rw [← HRES.out, rdOne, if_neg (by omega), if_neg (by omega), if_neg (by omega), if_neg (by omega), if_pos hT, hx]
        have HRS := Lib.hid hres
        have HW := Lib.hid hw1
        clear hres hw1 hx hge
        go_wp2_with fail
        refine HW.out.mono ?_
        rintro e w3 ⟨rfl, h3⟩
        have h4 := H2.out.trans h3
        clear h3 HW
        obtain ⟨⟨z0, z1, z2, z3, z4, z5⟩, ⟨y0, y1, y2, y3, y4, y5⟩, y6⟩ := h4.p4.ok.pt6
        have H4 := Lib.hid (h4.p4.ptSet6 (.int .i64 0) (.string ⟨#[]⟩) (.int .i64 0) (.int .u64 0) (.int .u64 0) (.slice none 0 0)).drop
        clear h4
        have H5 := Lib.hid (form_res H4.out)
        go_wp2
        refine bodyPost_ret (v := .tuple #[.agg zero6, .int .i64 2]) (by simp [results, Try.results92, *, go_sem]) rfl ?_
        rw [HRS.out]
        exact H5.out
    by_cases t5 : T = 5
    · subst t5
      have hw1 := rwords_spec H2.out.ok d 2 hdb (by omega) (by omega) rfl
      unfold WordsQ at hw1
      by_cases hle : vl d + 2 ≤ C.length
      · have hx : C[vl d]? = some C[vl d] := List.getElem?_eq_getElem (by omega)
        have hy : C[vl d + 1]? = some C[vl d + 1] := List.getElem?_eq_getElem (by omega)
        have hxb : C[vl d] < 18446744073709551616 := H2.out.ok.heapAR.2.2.2.2 _ (List.getElem_mem _)
        have hyb : C[vl d + 1] < 18446744073709551616 := H2.out.ok.heapAR.2.2.2.2 _ (List.getElem_mem _)
        have htk : (C.drop (vl d)).take 2 = [C[vl d], C[vl d + 1]] := by rw [List.drop_eq_getElem_cons (by omega), List.take_succ_cons, List.drop_eq_getElem_cons (by omega)]; rfl
        generalize C[vl d] = x at hx hxb htk
        generalize C[vl d + 1] = y at hy hyb htk
        simp only [if_pos hle, htk] at hw1
        have hres : RES = ((tCpx (x : Int) (y : Int), 0), ⟨s.V, s.n + 1⟩) := by rw [← HRES.out, rdOne, if_neg (by omega), if_neg (by omega), if_neg (by omega), if_neg (by omega), if_neg (by omega), if_pos hT, hx, hy]
        have HRS := Lib.hid hres
        have HW := Lib.hid hw1
        have HXB := Lib.hid hxb
        have HYB := Lib.hid hyb
        clear hres hw1 hx hy hle htk hxb hyb
        go_wp2_with fail
        refine HW.out.mono ?_
        rintro e w3 ⟨v, rfl, h3⟩
        obtain ⟨g, cap, rfl, hcap⟩ := h3.ok.rowBlock (by omega)
        have c0 := h3.ok.rowCell 0 x rfl
        have c1 := h3.ok.rowCell 1 y rfl
        have h4 := H2.out.trans h3.drop
        clear h3 HW
        obtain ⟨⟨z0, z1, z2, z3, z4, z5⟩, ⟨y0, y1, y2, y3, y4, y5⟩, y6⟩ := h4.p4.ok.pt6
        have H4 := Lib.hid (h4.p4.ptSet6 (.int .i64 (4)) (.string (⟨#[]⟩)) (.int .i64 (0)) (.int .u64 (x)) (.int .u64 (y)) (.slice none 0 0)).drop.drew
        clear h4
        have H5 := Lib.hid (six_res (k := 4) (sx := ⟨#[]⟩) (n := 0) (re := x) (im := y) H4.out (by omega) (by decide) (by omega) (by have := HXB.out; omega) (by have := HYB.out; omega))
        go_wp2_with fail
        go_region_law (fail)
        all_goals
          go_wp2
          refine bodyPost_ret (v := .tuple #[.agg #[.int .i64 (4), .string (⟨#[]⟩), .int .i64 (0), .int .u64 (x), .int .u64 (y), .slice none 0 0], .int .i64 0]) (by simp [results, Try.results92, *, go_sem]) rfl ?_
          rw [HRS.out]
          exact H5.out
      · have hxy : C[vl d]? = none ∨ C[vl d + 1]? = none := by
          by_cases hq : vl d + 1 < C.length
          · omega
          · exact .inr (List.getElem?_eq_none_iff.2 (by omega))
        simp only [if_neg hle] at hw1
        have hres : RES = ((tNone, 2), ⟨s.V, s.n + 1⟩) := by
          rw [← HRES.out, rdOne, if_neg (by omega), if_neg (by omega), if_neg (by omega), if_neg (by omega), if_neg (by omega), if_pos hT]
          rcases hxy with hq | hq
          · rw [hq]
          · rw [hq]; cases C[vl d]? <;> rfl
        have HRS := Lib.hid hres
        have HW := Lib.hid hw1
        clear hres hw1 hle hxy
        go_wp2_with fail
        refine HW.out.mono ?_
        rintro e w3 ⟨rfl, h3⟩
        have h4 := H2.out.trans h3
        clear h3 HW
        obtain ⟨⟨z0, z1, z2, z3, z4, z5⟩, ⟨y0, y1, y2, y3, y4, y5⟩, y6⟩ := h4.p4.ok.pt6
        have H4 := Lib.hid (h4.p4.ptSet6 (.int .i64 0) (.string ⟨#[]⟩) (.int .i64 0) (.int .u64 0) (.int .u64 0) (.slice none 0 0)).drop
        clear h4
        have H5 := Lib.hid (form_res H4.out)
        go_wp2
        refine bodyPost_ret (v := .tuple #[.agg zero6, .int .i64 2]) (by simp [results, Try.results92, *, go_sem]) rfl ?_
        rw [HRS.out]
        exact H5.out
    have t6 : T = 6 ∨ T = 7 := by have := tg_lt d; omega
    have hres : RES = ((tNone, 2), ⟨s.V, s.n + 1⟩) := by rw [← HRES.out, rdOne, if_neg (by omega), if_neg (by omega), if_neg (by omega), if_neg (by omega), if_neg (by omega), if_neg (by omega)]
    have HRS := Lib.hid hres
    clear hres
    obtain ⟨⟨z0, z1, z2, z3, z4, z5⟩, ⟨y0, y1, y2, y3, y4, y5⟩, y6⟩ := H2.out.p4.ok.pt6
    have H4 := Lib.hid (H2.out.p4.ptSet6 (.int .i64 0) (.string ⟨#[]⟩) (.int .i64 0) (.int .u64 0) (.int .u64 0) (.slice none 0 0)).drop
    have H5 := Lib.hid (form_res H4.out)
    rcases t6 with t6 | t6
    · subst t6
      go_wp2
      refine bodyPost_ret (v := .tuple #[.agg zero6, .int .i64 2]) (by simp [results, Try.results92, *, go_sem]) rfl ?_
      rw [HRS.out]
      exact H5.out
    · subst t6
      go_wp2
      refine bodyPost_ret (v := .tuple #[.agg zero6, .int .i64 2]) (by simp [results, Try.results92, *, go_sem]) rfl ?_
      rw [HRS.out]
      exact H5.out
theorem rterm_spec : ∀ f : Nat, f ≤ 501 → RdS C L f
  | 0, _ => by
    intro w S Γ r h a m most s c dd hO hc hs hdd
    exact rlong_spec hO c dd (.inr (by omega))
  | f + 1, hf => rterm_step f hf (rterm_spec f (by omega))
end
#print axioms rterm_spec
end Go.Proofs.Ytceahdlcbiialaa
