/- The reference's getter: terms. -/
import Derived.Test.YtceahdlcbiialaaF5M25
import Derived.Test.YtceahdlcbiialaaF5M24
set_option linter.unusedVariables false
set_option linter.unusedSimpArgs false
namespace Go.Proofs.Ytceahdlcbiialaa
open Go.RowKit

def GtQ (w : World) (S : Blk) (g h a m most : Nat) (C : List Nat) (L : List ByteArray) (Γ : List Asn) (res : (Tm × Nat) × RS) (e : Ending) (w' : World) : Prop :=
  ∃ (tc : Tc) (S' : Blk) (n' : Nat), (res.1.2 = 0 → tc.t = res.1.1 ∧ n' = res.2.n) ∧ e = .returned (.agg tc.six.toArray) ∧ To w S w' S' (ReadB g h a m most C L ⟨res.2.V, n'⟩ res.1.2 Γ) ∧ TmC w' S' tc.six tc.t
def GtS (C : List Nat) (L : List ByteArray) (f : Nat) : Prop := ∀ (w : World) (S : Blk) (Γ : List Asn) (g h a m most : Nat) (s : RS) (c : Nat) (dd : Int), Ok w S (ReadB g h a m most C L s 0 Γ) → c < 18446744073709551616 → RSok s → dd = 501 - (f : Int) →
  Calls Try.prog 95 #[.pointer (some ⟨g, 0, none⟩), .int .u64 (c : Int), .int .i64 dd] w (GtQ w S g h a m most C L Γ (rd C L f c s))
section
variable {C : List Nat} {L : List ByteArray}
theorem gleaf {w W : World} {S : Blk} {Γ : List Asn} {g h a m most : Nat} {s : RS} {k n re im : Int} {sx : ByteArray} (hT : To w S W S (ReadB g h a m most C L s 0 Γ)) (hk : -9223372036854775808 ≤ k ∧ k ≤ 9223372036854775807) (hs : sx.size ≤ 140737488351232) (hn : -9223372036854775808 ≤ n ∧ n ≤ 9223372036854775807)
    (hr : 0 ≤ re ∧ re ≤ 18446744073709551615) (hi : 0 ≤ im ∧ im ≤ 18446744073709551615) : GtQ w S g h a m most C L Γ ((.mk k sx n re im [], 0), s) (.returned (.agg #[.int .i64 k, .string sx, .int .i64 n, .int .u64 re, .int .u64 im, .slice none 0 0])) W :=
  ⟨⟨.mk k sx n re im [], none, 0⟩, S, s.n, fun _ => ⟨rfl, rfl⟩, rfl, hT, leaf_any hk hs hn hr hi 0⟩
theorem gerr {w W : World} {S : Blk} {Γ : List Asn} {g h a m most n' e : Nat} {s : RS} {t : Tm} {k : Int} (he : e ≠ 0) (hT : To w S W S (ReadB g h a m most C L ⟨s.V, n'⟩ e Γ)) (hk : -9223372036854775808 ≤ k ∧ k ≤ 9223372036854775807) :
    GtQ w S g h a m most C L Γ ((t, e), s) (.returned (.agg #[.int .i64 k, .string ⟨#[]⟩, .int .i64 0, .int .u64 0, .int .u64 0, .slice none 0 0])) W :=
  ⟨⟨.mk k ⟨#[]⟩ 0 0 0 [], none, 0⟩, S, n', fun h0 => absurd h0 he, rfl, hT, leaf_any (k := k) (s := ⟨#[]⟩) (n := 0) (re := 0) (im := 0) hk (by decide) (by omega) (by omega) (by omega) 0⟩
theorem gcomp {w W : World} {S S2 : Blk} {Γ : List Asn} {g h a m most n' e' j c8 : Nat} {V' : List (Nat × Nat)} {nm : ByteArray} {ts : List Tm} {A8 : Option Addr} {res : (Tm × Nat) × RS} (hl : ts.length = j) (h1 : res.1.2 = e') (h2 : res.2.V = V') (h3 : e' = 0 → res.1.1 = tComp nm ts ∧ res.2.n = n')
    (hh : To w S W S2 (ReadB g h a m most C L ⟨V', n'⟩ e' Γ)) (hk : TmC W S2 [.int .i64 5, .string nm, .int .i64 0, .int .u64 0, .int .u64 0, .slice A8 j c8] (.mk 5 nm 0 0 0 ts)) :
    GtQ w S g h a m most C L Γ res (.returned (.agg #[.int .i64 5, .string nm, .int .i64 0, .int .u64 0, .int .u64 0, .slice A8 j c8])) W := by
  subst hl h1 h2
  exact ⟨⟨.mk 5 nm 0 0 0 ts, A8, c8⟩, S2, n', fun h0 => ⟨(h3 h0).1.symm, (h3 h0).2.symm⟩, rfl, hh, hk⟩
set_option maxRecDepth 100000 in
set_option maxHeartbeats 2000000 in
theorem glong_spec {w : World} {S : Blk} {Γ : List Asn} {g h a m most : Nat} {s : RS} (hO : Ok w S (ReadB g h a m most C L s 0 Γ)) (c : Int) (dd : Int) (hn : s.n ≤ 2000) (hl : s.n = 2000 ∨ 500 < dd) :
    Calls Try.prog 95 #[.pointer (some ⟨g, 0, none⟩), .int .u64 c, .int .i64 dd] w (GtQ w S g h a m most C L Γ ((tNone, 3), s)) := by
  have h1 := hO.to.allocPt' zero6 25 w.heap.size rfl
  obtain ⟨-, -, -, k3, k4, ⟨k5, k6⟩, k7⟩ := h1.drop.ok.readB
  have h2 : To w S _ S (ReadB g h a m most C L ⟨s.V, s.n + 1⟩ 0 (Pt w.heap.size zero6 25 :: Γ)) := (h1.p4.p4.p4.p4.p3.ptSet 3 (.int .i64 ((s.n : Int) + 1))).p3.p3.p3
  have h3 : To w S ((((w.alloc (.cells zero6 25)).setCell ⟨g, 3, none⟩ (.int .i64 ((s.n : Int) + 1))).setCell ⟨g, 4, none⟩ (.int .i64 3))) S (ReadB g h a m most C L ⟨s.V, s.n + 1⟩ 3 (Pt w.heap.size zero6 25 :: Γ)) := h2.trans (h2.ok.readErr 3)
  obtain ⟨⟨z0, z1, z2, z3, z4, z5⟩, ⟨y0, y1, y2, y3, y4, y5⟩, y6⟩ := h3.p4.ok.pt6
  have H4 := Lib.hid (h3.p4.ptSet6 (.int .i64 0) (.string ⟨#[]⟩) (.int .i64 0) (.int .u64 0) (.int .u64 0) (.slice none 0 0)).drop
  have H5 := Lib.hid (gerr (t := tNone) (k := 0) (by omega) H4.out (by omega))
  clear h1 h2 h3 hO H4
  by_cases h2 : s.n = 2000
  · have hb : decide (2000 < (s.n : Int) + 1) = true := by simp; omega
    clear hl h2
    go_enter Try.func95, Try.ntmps95
    go_wp2
    refine bodyPost_ret (v := .agg zero6) (by simp [results, Try.results95, *, go_sem]) rfl ?_
    exact H5.out
  · have hb : decide (2000 < (s.n : Int) + 1) = false := by simp; omega
    have hd : 500 < dd := by omega
    clear hl h2
    go_enter Try.func95, Try.ntmps95
    go_wp2
    refine bodyPost_ret (v := .agg zero6) (by simp [results, Try.results95, *, go_sem]) rfl ?_
    exact H5.out
set_option maxRecDepth 100000 in
set_option maxHeartbeats 4000000 in
theorem get_step (f : Nat) (hf : f + 1 ≤ 501) (IH : GtS C L f) : GtS C L (f + 1) := by
    intro w S Γ g h a m most s c dd hO hc hs hdd
    by_cases hn : s.n = 2000
    · have e : rd C L (f + 1) c s = ((tNone, 3), s) := by rw [rd, if_pos hn]
      rw [e]
      exact glong_spec hO c dd hs.n (.inl hn)
    have e : rd C L (f + 1) c s = rdOne C L (rd C L f) (deref C C.length c) ⟨s.V, s.n + 1⟩ := by rw [rd, if_neg hn]
    rw [e]
    clear e
    generalize hRES : rdOne C L (rd C L f) (deref C C.length c) ⟨s.V, s.n + 1⟩ = RES
    have HRES := Lib.hid hRES
    clear hRES
    have hdb : deref C C.length c < 18446744073709551616 := deref_lt (most := most) hO.heapBR.2.2.2.2 _ _ hc
    have h1 := (hO.to.allocPt' zero6 25 w.heap.size rfl).p4.p4.p4.p4
    obtain ⟨-, -, -, k3, k4, ⟨k5, -⟩, k6⟩ := h1.ok.readB
    obtain ⟨k0, -⟩ := h1.ok.readB
    have hnb : decide (2000 < (s.n : Int) + 1) = false := by have := hs.n; simp; omega
    have hdd1 : 0 ≤ dd ∧ dd ≤ 500 := by omega
    have hs1 : RSok ⟨s.V, s.n + 1⟩ := ⟨hs.vals, by have := hs.len; simp only; omega, by have := hs.n; simp only; omega⟩
    have hsn : s.n ≤ 2000 := hs.n
    have HDD := Lib.hid hdd
    have HS1 := Lib.hid hs1
    have HLEN := Lib.hid hs.len
    have H1 := Lib.hid h1
    clear h1 hO hn hdd hs hs1
    go_enter Try.func95, Try.ntmps95
    go_wp2_with fail
    have h2 : To w S _ S (ReadB g h a m most C L ⟨s.V, s.n + 1⟩ 0 (Pt w.heap.size zero6 25 :: Γ)) := (H1.out.p3.ptSet 3 (.int .i64 ((s.n : Int) + 1))).p3.p3.p3
    have hder := rderef_spec h2.ok.heapBR c rfl hc
    refine hder.mono ?_
    rintro e w2 ⟨rfl, nq, rfl⟩
    have h3 := h2.drewN nq
    have H2 := Lib.hid h3
    clear hder h2 h3 k3 k4 k5 k6
    generalize ((w.alloc (.cells zero6 25)).setCell ⟨g, 3, none⟩ (.int .i64 ((s.n : Int) + 1))).drewN nq = W2 at H2 ⊢
    generalize deref C C.length c = d at hdb HRES ⊢
    have ht := rtag_spec d hdb W2
    have hv := rvalue_spec d hdb W2
    have HV := Lib.hid hv
    obtain ⟨T, hT⟩ : ∃ T, tg d = T := ⟨_, rfl⟩
    rw [hT] at ht
    have HT := Lib.hid ht
    clear k0 H1 hnb ht hv
    obtain ⟨k0, -, k2, -, k4, ⟨-, k5⟩, k6⟩ := H2.out.ok.readB
    obtain ⟨⟨A0, c0, hh0, hh1⟩, -, hh3, hh4, hh5⟩ := H2.out.ok.heapBR
    have hC : C.length ≤ 1048576 := by omega
    have hvl := vl_lt d hdb
    have HH1 := Lib.hid hh1
    have HH5 := Lib.hid hh5
    have HIN := Lib.hid (rin_spec H2.out.ok.heapBR)
    clear hh1 hh5 hh3 hh4
    go_wp2_with (go_at_call 132; refine HV.out.mono ?_; rintro e w' ⟨rfl, hww⟩; subst w')
    refine HT.out.mono ?_
    rintro e w' ⟨rfl, hww⟩
    subst w'
    clear HT HV
    by_cases t0 : T = 0
    · subst t0
      have hres0 : RES = rdVar C d ⟨s.V, s.n + 1⟩ := by rw [← HRES.out, rdOne, if_pos hT]
      by_cases hin : vl d < C.length
      case neg =>
        have hres : RES = ((tNone, 2), ⟨s.V, s.n + 1⟩) := by rw [hres0]; unfold rdVar; rw [List.getElem?_eq_none (by omega), if_neg (by simp)]
        have HRS := Lib.hid hres
        have hin1 := HIN.out (vl d)
        rw [decide_eq_false hin] at hin1
        have HIN1 := Lib.hid hin1
        clear hres hres0 hin1 hin
        have h9 : To w S (W2.setCell ⟨g, 4, none⟩ (.int .i64 2)) S (ReadB g h a m most C L ⟨s.V, s.n + 1⟩ 2 (Pt w.heap.size zero6 25 :: Γ)) := H2.out.trans (H2.out.ok.readErr 2)
        obtain ⟨⟨z0, z1, z2, z3, z4, z5⟩, ⟨y0, y1, y2, y3, y4, y5⟩, y6⟩ := h9.p4.ok.pt6
        have H4 := Lib.hid (h9.p4.ptSet6 (.int .i64 0) (.string ⟨#[]⟩) (.int .i64 0) (.int .u64 0) (.int .u64 0) (.slice none 0 0)).drop
        have H5 := Lib.hid (gerr (t := tNone) (s := ⟨s.V, s.n + 1⟩) (k := 0) (by omega) H4.out (by omega))
        clear h9 H4
        go_wp2_with (go_at_call 134; refine HIN1.out.mono ?_; rintro e w' ⟨rfl, hww⟩; subst w')
        refine bodyPost_ret (v := .agg #[.int .i64 (0), .string (⟨#[]⟩), .int .i64 (0), .int .u64 (0), .int .u64 (0), .slice none 0 0]) (by simp [results, Try.results95, *, go_sem]) rfl ?_
        rw [HRS.out]
        exact H5.out
      have hx : C[vl d]? = some C[vl d] := List.getElem?_eq_getElem hin
      have hxb : C[vl d] < 18446744073709551616 := HH5.out _ (List.getElem_mem _)
      obtain ⟨ad, rfl, hcx⟩ := HH1.out _ _ hx
      have hres1 : RES = if C[vl d] = d then (match lk s.V (vl d) with | some k => ((tVar k, 0), ⟨s.V, s.n + 1⟩) | none => ((tVar s.V.length, 0), ⟨up s.V (vl d) s.V.length, s.n + 1⟩)) else ((tNone, 2), ⟨s.V, s.n + 1⟩) := by
        rw [hres0]
        unfold rdVar
        by_cases hq : C[vl d] = d
        · rw [if_pos (by rw [hx, hq]), if_pos hq]
          dsimp only
          cases lk s.V (vl d) <;> rfl
        · rw [if_neg (by rw [hx]; simpa using hq), if_neg hq]
      have hin1 := HIN.out (vl d)
      rw [decide_eq_true hin] at hin1
      have HIN1 := Lib.hid hin1
      clear hin1 hres0
      generalize C[vl d] = x at hx hxb hcx hres1
      by_cases hown : x = d
      case neg =>
        rw [if_neg hown] at hres1
        have HRS := Lib.hid hres1
        have hnb : ((x : Int) != (d : Int)) = true := by simp [bne]; omega
        clear hres1 hown hx
        have h9 : To w S (W2.setCell ⟨g, 4, none⟩ (.int .i64 2)) S (ReadB g h a m most C L ⟨s.V, s.n + 1⟩ 2 (Pt w.heap.size zero6 25 :: Γ)) := H2.out.trans (H2.out.ok.readErr 2)
        obtain ⟨⟨z0, z1, z2, z3, z4, z5⟩, ⟨y0, y1, y2, y3, y4, y5⟩, y6⟩ := h9.p4.ok.pt6
        have H4 := Lib.hid (h9.p4.ptSet6 (.int .i64 0) (.string ⟨#[]⟩) (.int .i64 0) (.int .u64 0) (.int .u64 0) (.slice none 0 0)).drop
        have H5 := Lib.hid (gerr (t := tNone) (s := ⟨s.V, s.n + 1⟩) (k := 0) (by omega) H4.out (by omega))
        clear h9 H4
        go_wp2_with (go_at_call 134; refine HIN1.out.mono ?_; rintro e w' ⟨rfl, hww⟩; subst w')
        refine bodyPost_ret (v := .agg #[.int .i64 (0), .string (⟨#[]⟩), .int .i64 (0), .int .u64 (0), .int .u64 (0), .slice none 0 0]) (by simp [results, Try.results95, *, go_sem]) rfl ?_
        rw [HRS.out]
        exact H5.out
      rw [if_pos hown] at hres1
      subst hown
      have hnb : ((x : Int) != (x : Int)) = false := by simp
      have e9 : IntKind.i64.wrap (vl x : Int) = (vl x : Int) := IntWalk.i64_in _ ⟨by omega, by omega⟩
      cases hq : lk s.V (vl x) with
      | some kk =>
        rw [hq] at hres1
        have HRS := Lib.hid hres1
        have hkk : kk ≤ 1000000 := by
          obtain ⟨y, hy, rfl⟩ := lk_mem hq
          exact HS1.out.vals y hy
        have hlk' : (Instr.lookup 71 (.map (some m)) (.int .i64 (vl x : Int)) true).run Try.prog W2 = .ok (.tuple #[.int .i64 (kk : Int), .bool true]) W2 := by
          have h9 := H2.out.p2.ok.look (P := Try.prog) (key_nat .i64) Try.underlying71 Try.underlying3 zero2 (vl x) true 0
          rw [hq] at h9
          exact h9
        clear hres1 hx hq
        have hvr := r1var_spec H2.out.ok (kk : Int)
        have HVR := Lib.hid hvr
        clear hvr
        go_wp2_with (go_at_call 134; refine HIN1.out.mono ?_; rintro e w' ⟨rfl, hww⟩; subst w')
        clear e9 hlk'
        refine HVR.out.mono ?_
        rintro e w4 ⟨rfl, h4⟩
        obtain ⟨⟨z0, z1, z2, z3, z4, z5⟩, ⟨y0, y1, y2, y3, y4, y5⟩, y6⟩ := h4.p4.ok.pt6
        have H4 := Lib.hid ((H2.out.trans h4).p4.ptSet6 (.int .i64 (1)) (.string (⟨#[]⟩)) (.int .i64 ((kk : Int))) (.int .u64 (0)) (.int .u64 (0)) (.slice none 0 0)).drop
        have H5 := Lib.hid (gleaf (k := 1) (sx := ⟨#[]⟩) (n := (kk : Int)) (re := 0) (im := 0) H4.out (by omega) (by decide) (by omega) (by omega) (by omega))
        clear h4 H4 HVR
        go_wp2
        refine bodyPost_ret (v := .agg #[.int .i64 (1), .string (⟨#[]⟩), .int .i64 ((kk : Int)), .int .u64 (0), .int .u64 (0), .slice none 0 0]) (by simp [results, Try.results95, *, go_sem]) rfl ?_
        rw [HRS.out]
        exact H5.out
      | none =>
        rw [hq] at hres1
        have HRS := Lib.hid hres1
        have hlv : s.V.length ≤ 1000000 := by have := HLEN.out; omega
        have hlk' : (Instr.lookup 71 (.map (some m)) (.int .i64 (vl x : Int)) true).run Try.prog W2 = .ok (.tuple #[.int .i64 0, .bool false]) W2 := by
          have h9 := H2.out.p2.ok.look (P := Try.prog) (key_nat .i64) Try.underlying71 Try.underlying3 zero2 (vl x) true 0
          rw [hq] at h9
          exact h9
        clear hres1 hx hq
        obtain ⟨es, ck, i1, -, -, -, i2⟩ := H2.out.p2.ok.mapRaw
        have hlm := run_lenMap (P := Try.prog) Try.underlying71 i1 i2 3
        obtain ⟨w3, hr, hT3⟩ := H2.out.p2.ok.mapPut (P := Try.prog) (key_nat .i64) Try.underlying71 Try.underlying3 (vl x) s.V.length
        have hrun : (Instr.mapUpdate 71 (.map (some m)) (.int .i64 (vl x : Int)) (.int .i64 (s.V.length : Int))).run Try.prog W2 = .ok () w3 := hr
        have h3 : To w S w3 S (ReadB g h a m most C L ⟨up s.V (vl x) s.V.length, s.n + 1⟩ 0 (Pt w.heap.size zero6 25 :: Γ)) := (H2.out.p2.trans hT3).p2.p2
        have hvr := r1var_spec h3.ok (s.V.length : Int)
        have HVR := Lib.hid hvr
        have H3 := Lib.hid h3
        clear hvr h3 hT3 hr i1 i2
        go_wp2_with (go_at_call 134; refine HIN1.out.mono ?_; rintro e w' ⟨rfl, hww⟩; subst w')
        clear e9 hlk' hlm hrun
        refine HVR.out.mono ?_
        rintro e w4 ⟨rfl, h4⟩
        obtain ⟨⟨z0, z1, z2, z3, z4, z5⟩, ⟨y0, y1, y2, y3, y4, y5⟩, y6⟩ := h4.p4.ok.pt6
        have H4 := Lib.hid ((H3.out.trans h4).p4.ptSet6 (.int .i64 (1)) (.string (⟨#[]⟩)) (.int .i64 ((s.V.length : Int))) (.int .u64 (0)) (.int .u64 (0)) (.slice none 0 0)).drop
        have H5 := Lib.hid (gleaf (k := 1) (sx := ⟨#[]⟩) (n := (s.V.length : Int)) (re := 0) (im := 0) H4.out (by omega) (by decide) (by omega) (by omega) (by omega))
        clear h4 H4 HVR
        go_wp2
        refine bodyPost_ret (v := .agg #[.int .i64 (1), .string (⟨#[]⟩), .int .i64 ((s.V.length : Int)), .int .u64 (0), .int .u64 (0), .slice none 0 0]) (by simp [results, Try.results95, *, go_sem]) rfl ?_
        rw [HRS.out]
        exact H5.out
    by_cases t2 : T = 2
    · subst t2
      cases hx : L[vl d]? with
      | some x =>
        have hres : RES = ((tAtom x, 0), ⟨s.V, s.n + 1⟩) := by rw [← HRES.out, rdOne, if_neg (by omega), if_neg (by omega), if_pos hT, hx]
        have hnm := gname_in H2.out.ok (i' := (vl d : Int)) (vl d) x rfl hx
        have hxs : x.size ≤ 140737488351232 := Nat.le_trans (H2.out.ok.p1.atomsBR.2.2 x (List.mem_of_getElem? hx)) (by omega)
        have hat := r1atom_spec H2.out.ok x
        have HRS := Lib.hid hres
        have HNM := Lib.hid hnm
        have HXS := Lib.hid hxs
        have HAT := Lib.hid hat
        clear hres hnm hx hxs hat
        go_wp2_with (go_at_call 135; refine HNM.out.mono ?_; rintro e w' ⟨rfl, hww⟩; subst w')
        refine HAT.out.mono ?_
        rintro e w4 ⟨rfl, h4⟩
        obtain ⟨⟨z0, z1, z2, z3, z4, z5⟩, ⟨y0, y1, y2, y3, y4, y5⟩, y6⟩ := h4.p4.ok.pt6
        have H4 := Lib.hid ((H2.out.trans h4).p4.ptSet6 (.int .i64 (2)) (.string (x)) (.int .i64 (0)) (.int .u64 (0)) (.int .u64 (0)) (.slice none 0 0)).drop
        have H5 := Lib.hid (gleaf (k := 2) (sx := x) (n := 0) (re := 0) (im := 0) H4.out (by omega) HXS.out (by omega) (by omega) (by omega))
        clear h4 H4 HAT HNM
        go_wp2
        refine bodyPost_ret (v := .agg #[.int .i64 (2), .string (x), .int .i64 (0), .int .u64 (0), .int .u64 (0), .slice none 0 0]) (by simp [results, Try.results95, *, go_sem]) rfl ?_
        rw [HRS.out]
        exact H5.out
      | none =>
        have hres : RES = ((tNone, 2), ⟨s.V, s.n + 1⟩) := by rw [← HRES.out, rdOne, if_neg (by omega), if_neg (by omega), if_pos hT, hx]
        have hnm := gname_out H2.out.ok (i' := (vl d : Int)) (vl d) rfl (List.getElem?_eq_none_iff.1 hx)
        have HRS := Lib.hid hres
        have HNM := Lib.hid hnm
        clear hres hnm hx
        go_wp2_with fail
        refine HNM.out.mono ?_
        rintro e w3 ⟨rfl, h3⟩
        have hat := r1atom_spec h3.ok ⟨#[]⟩
        have HAT := Lib.hid hat
        have H3 := Lib.hid h3
        clear h3 hat HNM
        go_wp2_with fail
        refine HAT.out.mono ?_
        rintro e w4 ⟨rfl, h4⟩
        obtain ⟨⟨z0, z1, z2, z3, z4, z5⟩, ⟨y0, y1, y2, y3, y4, y5⟩, y6⟩ := h4.p4.ok.pt6
        have H4 := Lib.hid (((H2.out.trans H3.out).trans h4).p4.ptSet6 (.int .i64 (2)) (.string (⟨#[]⟩)) (.int .i64 (0)) (.int .u64 (0)) (.int .u64 (0)) (.slice none 0 0)).drop
        have H5 := Lib.hid (gerr (t := tNone) (s := ⟨s.V, s.n + 1⟩) (k := 2) (by omega) H4.out (by omega))
        clear h4 H4 HAT
        go_wp2
        refine bodyPost_ret (v := .agg #[.int .i64 (2), .string (⟨#[]⟩), .int .i64 (0), .int .u64 (0), .int .u64 (0), .slice none 0 0]) (by simp [results, Try.results95, *, go_sem]) rfl ?_
        rw [HRS.out]
        exact H5.out
    by_cases t3 : T = 3
    · subst t3
      have hres : RES = ((tInt (sint d), 0), ⟨s.V, s.n + 1⟩) := by rw [← HRES.out, rdOne, if_neg (by omega), if_neg (by omega), if_neg (by omega), if_pos hT]
      have HRS := Lib.hid hres
      have hi := rint_spec d hdb W2
      have hsb := sint_rng d hdb
      generalize sint d = sd at HRS hi hsb
      have HI := Lib.hid hi
      have HSB := Lib.hid hsb
      have HAT := Lib.hid (r1int_spec H2.out.ok sd)
      clear hres hi hsb
      go_wp2_with (go_at_call 137; refine HI.out.mono ?_; rintro e w' ⟨rfl, hww⟩; subst w')
      refine HAT.out.mono ?_
      rintro e w4 ⟨rfl, h4⟩
      obtain ⟨⟨z0, z1, z2, z3, z4, z5⟩, ⟨y0, y1, y2, y3, y4, y5⟩, y6⟩ := h4.p4.ok.pt6
      have H4 := Lib.hid ((H2.out.trans h4).p4.ptSet6 (.int .i64 (3)) (.string (⟨#[]⟩)) (.int .i64 (sd)) (.int .u64 (0)) (.int .u64 (0)) (.slice none 0 0)).drop
      have H5 := Lib.hid (gleaf (k := 3) (sx := ⟨#[]⟩) (n := sd) (re := 0) (im := 0) H4.out (by omega) (by decide) HSB.out (by omega) (by omega))
      clear h4 H4 HAT HI
      go_wp2
      refine bodyPost_ret (v := .agg #[.int .i64 (3), .string (⟨#[]⟩), .int .i64 (sd), .int .u64 (0), .int .u64 (0), .slice none 0 0]) (by simp [results, Try.results95, *, go_sem]) rfl ?_
      rw [HRS.out]
      exact H5.out
    by_cases t4 : T = 4
    · subst t4
      by_cases hin : vl d < C.length
      · have hx : C[vl d]? = some C[vl d] := List.getElem?_eq_getElem hin
        obtain ⟨ad, rfl, hcx⟩ := HH1.out _ _ hx
        generalize C[vl d] = x at hx hcx
        have hres : RES = ((tInt (wrap64 (x : Int)), 0), ⟨s.V, s.n + 1⟩) := by rw [← HRES.out, rdOne, if_neg (by omega), if_neg (by omega), if_neg (by omega), if_neg (by omega), if_pos hT, hx]
        have HRS := Lib.hid hres
        have hin1 := HIN.out (vl d)
        rw [decide_eq_true hin] at hin1
        have HIN1 := Lib.hid hin1
        have HAT := Lib.hid (r1int_spec H2.out.ok (wrap64 (x : Int)))
        have HB := Lib.hid (wrap64_rng (x : Int))
        clear hres hin1 hx
        go_wp2_with (go_at_call 134; refine HIN1.out.mono ?_; rintro e w' ⟨rfl, hww⟩; subst w')
        refine HAT.out.mono ?_
        rintro e w4 ⟨rfl, h4⟩
        obtain ⟨⟨z0, z1, z2, z3, z4, z5⟩, ⟨y0, y1, y2, y3, y4, y5⟩, y6⟩ := h4.p4.ok.pt6
        have H4 := Lib.hid ((H2.out.trans h4).p4.ptSet6 (.int .i64 (3)) (.string (⟨#[]⟩)) (.int .i64 (wrap64 (x : Int))) (.int .u64 (0)) (.int .u64 (0)) (.slice none 0 0)).drop
        have H5 := Lib.hid (gleaf (k := 3) (sx := ⟨#[]⟩) (n := wrap64 (x : Int)) (re := 0) (im := 0) H4.out (by omega) (by decide) HB.out (by omega) (by omega))
        clear h4 H4 HAT
        go_wp2
        refine bodyPost_ret (v := .agg #[.int .i64 (3), .string (⟨#[]⟩), .int .i64 (wrap64 (x : Int)), .int .u64 (0), .int .u64 (0), .slice none 0 0]) (by simp [results, Try.results95, *, go_sem]) rfl ?_
        rw [HRS.out]
        exact H5.out
      · have hres : RES = ((tNone, 2), ⟨s.V, s.n + 1⟩) := by rw [← HRES.out, rdOne, if_neg (by omega), if_neg (by omega), if_neg (by omega), if_neg (by omega), if_pos hT, List.getElem?_eq_none (by omega)]
        have HRS := Lib.hid hres
        have hin1 := HIN.out (vl d)
        rw [decide_eq_false hin] at hin1
        have HIN1 := Lib.hid hin1
        clear hres hin1 hin
        have h9 : To w S (W2.setCell ⟨g, 4, none⟩ (.int .i64 2)) S (ReadB g h a m most C L ⟨s.V, s.n + 1⟩ 2 (Pt w.heap.size zero6 25 :: Γ)) := H2.out.trans (H2.out.ok.readErr 2)
        obtain ⟨⟨z0, z1, z2, z3, z4, z5⟩, ⟨y0, y1, y2, y3, y4, y5⟩, y6⟩ := h9.p4.ok.pt6
        have H4 := Lib.hid (h9.p4.ptSet6 (.int .i64 0) (.string ⟨#[]⟩) (.int .i64 0) (.int .u64 0) (.int .u64 0) (.slice none 0 0)).drop
        have H5 := Lib.hid (gerr (t := tNone) (s := ⟨s.V, s.n + 1⟩) (k := 0) (by omega) H4.out (by omega))
        clear h9 H4
        go_wp2_with (go_at_call 134; refine HIN1.out.mono ?_; rintro e w' ⟨rfl, hww⟩; subst w')
        refine bodyPost_ret (v := .agg #[.int .i64 (0), .string (⟨#[]⟩), .int .i64 (0), .int .u64 (0), .int .u64 (0), .slice none 0 0]) (by simp [results, Try.results95, *, go_sem]) rfl ?_
        rw [HRS.out]
        exact H5.out
    by_cases t5 : T = 5
    · subst t5
      have e8 : IntKind.u64.wrap ((vl d : Int) + 1) = ((vl d + 1 : Nat) : Int) := by rw [IntWalk.u64_in _ ⟨by omega, by omega⟩]; simp
      by_cases hin : vl d < C.length
      case neg =>
        have hres : RES = ((tNone, 2), ⟨s.V, s.n + 1⟩) := by rw [← HRES.out, rdOne, if_neg (by omega), if_neg (by omega), if_neg (by omega), if_neg (by omega), if_neg (by omega), if_pos hT, List.getElem?_eq_none (by omega)]
        have HRS := Lib.hid hres
        have hin1 := HIN.out (vl d)
        rw [decide_eq_false hin] at hin1
        have HIN1 := Lib.hid hin1
        clear hres hin1 hin
        have h9 : To w S (W2.setCell ⟨g, 4, none⟩ (.int .i64 2)) S (ReadB g h a m most C L ⟨s.V, s.n + 1⟩ 2 (Pt w.heap.size zero6 25 :: Γ)) := H2.out.trans (H2.out.ok.readErr 2)
        obtain ⟨⟨z0, z1, z2, z3, z4, z5⟩, ⟨y0, y1, y2, y3, y4, y5⟩, y6⟩ := h9.p4.ok.pt6
        have H4 := Lib.hid (h9.p4.ptSet6 (.int .i64 0) (.string ⟨#[]⟩) (.int .i64 0) (.int .u64 0) (.int .u64 0) (.slice none 0 0)).drop
        have H5 := Lib.hid (gerr (t := tNone) (s := ⟨s.V, s.n + 1⟩) (k := 0) (by omega) H4.out (by omega))
        clear h9 H4
        go_wp2_with (go_at_call 134; refine HIN1.out.mono ?_; rintro e w' ⟨rfl, hww⟩; subst w')
        refine bodyPost_ret (v := .agg #[.int .i64 (0), .string (⟨#[]⟩), .int .i64 (0), .int .u64 (0), .int .u64 (0), .slice none 0 0]) (by simp [results, Try.results95, *, go_sem]) rfl ?_
        rw [HRS.out]
        exact H5.out
      have hin1 := HIN.out (vl d)
      rw [decide_eq_true hin] at hin1
      have HIN1 := Lib.hid hin1
      have hin2 := HIN.out (vl d + 1)
      by_cases hle : vl d + 1 < C.length
      case neg =>
        have hres : RES = ((tNone, 2), ⟨s.V, s.n + 1⟩) := by
          rw [← HRES.out, rdOne, if_neg (by omega), if_neg (by omega), if_neg (by omega), if_neg (by omega), if_neg (by omega), if_pos hT, List.getElem?_eq_none (show C.length ≤ vl d + 1 by omega)]
          cases C[vl d]? <;> rfl
        have HRS := Lib.hid hres
        rw [decide_eq_false hle] at hin2
        have HIN2 := Lib.hid hin2
        clear hres hin1 hin2 hle hin
        have h9 : To w S (W2.setCell ⟨g, 4, none⟩ (.int .i64 2)) S (ReadB g h a m most C L ⟨s.V, s.n + 1⟩ 2 (Pt w.heap.size zero6 25 :: Γ)) := H2.out.trans (H2.out.ok.readErr 2)
        obtain ⟨⟨z0, z1, z2, z3, z4, z5⟩, ⟨y0, y1, y2, y3, y4, y5⟩, y6⟩ := h9.p4.ok.pt6
        have H4 := Lib.hid (h9.p4.ptSet6 (.int .i64 0) (.string ⟨#[]⟩) (.int .i64 0) (.int .u64 0) (.int .u64 0) (.slice none 0 0)).drop
        have H5 := Lib.hid (gerr (t := tNone) (s := ⟨s.V, s.n + 1⟩) (k := 0) (by omega) H4.out (by omega))
        clear h9 H4
        go_wp2_with fail
        refine HIN1.out.mono ?_
        rintro e w' ⟨rfl, hww⟩
        subst w'
        go_wp2_with fail
        refine HIN2.out.mono ?_
        rintro e w' ⟨rfl, hww⟩
        subst w'
        clear e8
        go_wp2
        refine bodyPost_ret (v := .agg #[.int .i64 (0), .string (⟨#[]⟩), .int .i64 (0), .int .u64 (0), .int .u64 (0), .slice none 0 0]) (by simp [results, Try.results95, *, go_sem]) rfl ?_
        rw [HRS.out]
        exact H5.out
      have hx : C[vl d]? = some C[vl d] := List.getElem?_eq_getElem hin
      have hy : C[vl d + 1]? = some C[vl d + 1] := List.getElem?_eq_getElem hle
      have hxb : C[vl d] < 18446744073709551616 := HH5.out _ (List.getElem_mem _)
      have hyb : C[vl d + 1] < 18446744073709551616 := HH5.out _ (List.getElem_mem _)
      obtain ⟨ad, rfl, hcx⟩ := HH1.out _ _ hx
      obtain ⟨ad2, had, hcy⟩ := HH1.out _ _ hy
      cases had
      have hcy2 : W2.cell? ⟨ad.block, ad.off + (vl d + 1), none⟩ = some (.int .u64 (C[vl d + 1] : Int)) := by
        have h9 := hcy
        unfold Addr.add at h9
        rw [if_neg (by omega)] at h9
        exact h9
      generalize C[vl d] = x at hx hxb hcx
      generalize C[vl d + 1] = y at hy hyb hcy hcy2
      have hres : RES = ((tCpx (x : Int) (y : Int), 0), ⟨s.V, s.n + 1⟩) := by rw [← HRES.out, rdOne, if_neg (by omega), if_neg (by omega), if_neg (by omega), if_neg (by omega), if_neg (by omega), if_pos hT, hx, hy]
      rw [decide_eq_true hle] at hin2
      have HIN2 := Lib.hid hin2
      have HRS := Lib.hid hres
      have HXB := Lib.hid hxb
      have HYB := Lib.hid hyb
      have e12 : ((vl d : Int) + 1).toNat = vl d + 1 := by omega
      have e13 : 0 ≤ (vl d : Int) + 1 := by omega
      have e14 : (vl d : Int) + 1 < (C.length : Int) := by omega
      clear hres hin1 hin2 hx hy hxb hyb
      obtain ⟨⟨z0, z1, z2, z3, z4, z5⟩, ⟨y0, y1, y2, y3, y4, y5⟩, y6⟩ := H2.out.p4.ok.pt6
      have H4 := Lib.hid (H2.out.p4.ptSet6 (.int .i64 (4)) (.string (⟨#[]⟩)) (.int .i64 (0)) (.int .u64 (x)) (.int .u64 (y)) (.slice none 0 0)).drop.drew
      have H5 := Lib.hid (gleaf (k := 4) (sx := ⟨#[]⟩) (n := 0) (re := (x : Int)) (im := (y : Int)) H4.out (by omega) (by decide) (by omega) (by have := HXB.out; omega) (by have := HYB.out; omega))
      clear H4
      go_wp2_with fail
      refine HIN1.out.mono ?_
      rintro e w' ⟨rfl, hww⟩
      subst w'
      go_wp2_with fail
      refine HIN2.out.mono ?_
      rintro e w' ⟨rfl, hww⟩
      subst w'
      go_wp2_with fail
      go_region_law (fail)
      all_goals
        go_wp2
        refine bodyPost_ret (v := .agg #[.int .i64 (4), .string (⟨#[]⟩), .int .i64 (0), .int .u64 (x), .int .u64 (y), .slice none 0 0]) (by simp [results, Try.results95, *, go_sem]) rfl ?_
        rw [HRS.out]
        exact H5.out
    by_cases t1 : T = 1
    · subst t1
      have hres0 : RES = rdComp C L (rd C L f) d ⟨s.V, s.n + 1⟩ := by rw [← HRES.out, rdOne, if_neg (by omega), if_pos hT]
      have hfn := funAt_funR C L d
      have hfun := rfun_spec H2.out.ok.heapBR d hdb rfl
      cases hf0 : funR C d with
      | none =>
        rw [hf0] at hfn hfun
        have hres : RES = ((tNone, 2), ⟨s.V, s.n + 1⟩) := by rw [hres0, rdComp, hfn]
        have HRS := Lib.hid hres
        have HF := Lib.hid hfun
        clear hres hres0 hfn hfun hf0
        go_wp2_with fail
        refine HF.out.mono ?_
        rintro e w3 ⟨⟨nq2, hw3⟩, rfl⟩
        subst hw3
        have h2b := H2.out.drewN nq2
        clear k0 k2 k4 k5 k6 hh0 HF
        generalize W2.drewN nq2 = W3 at h2b ⊢
        obtain ⟨k0, -, k2, -, k4, ⟨-, k5⟩, k6⟩ := h2b.ok.readB
        have h9 : To w S (W3.setCell ⟨g, 4, none⟩ (.int .i64 2)) S (ReadB g h a m most C L ⟨s.V, s.n + 1⟩ 2 (Pt w.heap.size zero6 25 :: Γ)) := h2b.trans (h2b.ok.readErr 2)
        obtain ⟨⟨z0, z1, z2, z3, z4, z5⟩, ⟨y0, y1, y2, y3, y4, y5⟩, y6⟩ := h9.p4.ok.pt6
        have H4 := Lib.hid (h9.p4.ptSet6 (.int .i64 0) (.string ⟨#[]⟩) (.int .i64 0) (.int .u64 0) (.int .u64 0) (.slice none 0 0)).drop
        have H5 := Lib.hid (gerr (t := tNone) (s := ⟨s.V, s.n + 1⟩) (k := 0) (by omega) H4.out (by omega))
        clear h9 H4 h2b
        go_wp2
        refine bodyPost_ret (v := .agg #[.int .i64 (0), .string (⟨#[]⟩), .int .i64 (0), .int .u64 (0), .int .u64 (0), .slice none 0 0]) (by simp [results, Try.results95, *, go_sem]) rfl ?_
        rw [HRS.out]
        exact H5.out
      | some an =>
      obtain ⟨at', n⟩ := an
      rw [hf0] at hfn hfun
      simp only at hfn hfun
      have hfr : (∃ x, C[vl d]? = some x ∧ at' = fAtom x ∧ n = fArity x) ∧ 1 ≤ n ∧ n ≤ 20 ∧ vl d + n < C.length := by
        unfold funR at hf0
        cases hx : C[vl d]? with
        | none => rw [hx] at hf0; cases hf0
        | some x =>
          rw [hx] at hf0
          simp only at hf0
          split at hf0
          · rename_i hc1
            simp only [Option.some.injEq, Prod.mk.injEq] at hf0
            obtain ⟨rfl, rfl⟩ := hf0
            exact ⟨⟨x, rfl, rfl, rfl⟩, hc1.2⟩
          · cases hf0
      obtain ⟨⟨x0, hx0, hx1, hx2⟩, hn1, hn2, hn3⟩ := hfr
      have hatb : at' < 2305843009213693952 := by
        have hxb : x0 < 18446744073709551616 := HH5.out _ (List.mem_of_getElem? hx0)
        have := vl_lt x0 hxb
        rw [hx1]
        unfold fAtom
        split <;> omega
      clear hx0 hx1 hx2 hf0
      have HF := Lib.hid hfun
      clear hfun
      have e8 : IntKind.u64.wrap (at' : Int) = (at' : Int) := IntWalk.u64_in _ ⟨by omega, by omega⟩
      have E8 := Lib.hid e8
      clear e8
      have hargs : ∃ args : List Nat, args = (C.drop (vl d + 1)).take n ∧ args.length = n ∧ (∀ c ∈ args, c < 18446744073709551616) ∧ ∀ j (y : Nat), args[j]? = some y → C[vl d + 1 + j]? = some y := by
        refine ⟨_, rfl, by rw [List.length_take, List.length_drop]; omega, fun c hc => HH5.out c (List.mem_of_mem_drop (List.mem_of_mem_take hc)), fun j y hy => ?_⟩
        rw [List.getElem?_take] at hy
        split at hy
        · rw [List.getElem?_drop] at hy; exact hy
        · cases hy
      obtain ⟨args, ha0, hal, hab, hag⟩ := hargs
      have HAB := Lib.hid hab
      have HAG := Lib.hid hag
      have hnm : ∀ (X : World), Ok X S (ReadB g h a m most C L ⟨s.V, s.n + 1⟩ 0 (Pt w.heap.size zero6 25 :: Γ)) → Calls Try.prog 135 #[.pointer (some ⟨g, 0, none⟩), .int .u64 (at' : Int)] X fun e w' => ∃ (nm : ByteArray) (E0 : Nat), e = .returned (.string nm) ∧ nm.size ≤ 140737488351232 ∧ To X S w' S (ReadB g h a m most C L ⟨s.V, s.n + 1⟩ E0 (Pt w.heap.size zero6 25 :: Γ)) ∧
          (E0 = 0 → RES.2 = (rdAll (rd C L f) args ⟨s.V, s.n + 1⟩).2 ∧ RES.1.2 = (rdAll (rd C L f) args ⟨s.V, s.n + 1⟩).1.2 ∧ ((rdAll (rd C L f) args ⟨s.V, s.n + 1⟩).1.2 = 0 → RES.1.1 = tComp nm (rdAll (rd C L f) args ⟨s.V, s.n + 1⟩).1.1)) ∧ (E0 ≠ 0 → RES.1.2 = E0 ∧ RES.2.V = s.V) := by
        intro X hX
        cases hl : L[at']? with
        | none =>
          rw [hl] at hfn
          have hres : RES = ((tNone, 2), ⟨s.V, s.n + 1⟩) := by rw [hres0, rdComp, hfn]
          refine (gname_out hX (i' := (at' : Int)) at' rfl (List.getElem?_eq_none_iff.1 hl)).mono ?_
          rintro e w4 ⟨rfl, h4⟩
          exact ⟨_, 2, rfl, by decide, h4, fun h => by omega, fun _ => by rw [hres]; exact ⟨rfl, rfl⟩⟩
        | some nm =>
          rw [hl] at hfn
          have hxs : nm.size ≤ 140737488351232 := Nat.le_trans (hX.p1.atomsBR.2.2 nm (List.mem_of_getElem? hl)) (by omega)
          refine (gname_in hX (i' := (at' : Int)) at' nm rfl hl).mono ?_
          rintro e w4 ⟨rfl, hw4⟩
          subst hw4
          refine ⟨_, 0, rfl, hxs, hX.to, fun _ => ?_, fun h => absurd rfl h⟩
          rw [hres0, rdComp, hfn, ha0]
          simp only
          split
          · rename_i h0
            exact ⟨rfl, rfl, fun h => absurd h h0⟩
          · rename_i h0
            simp only [ne_eq, Decidable.not_not] at h0
            exact ⟨rfl, h0.symm, fun _ => rfl⟩
      have HNM := Lib.hid hnm
      clear hres0 hfn hnm ha0 hab hag
      go_wp2_with fail
      refine HF.out.mono ?_
      rintro e w3 ⟨⟨nq2, hw3⟩, rfl⟩
      subst hw3
      have h2b := H2.out.drewN nq2
      clear k0 k2 k4 k5 k6 hh0 HF
      generalize W2.drewN nq2 = W3 at h2b ⊢
      have e8 := E8.out
      have HN := Lib.hid (HNM.out W3 h2b.ok)
      have H3 := Lib.hid h2b
      clear h2b HNM
      go_wp2_with fail
      clear e8
      refine HN.out.mono ?_
      rintro e w4 ⟨nm, E0, rfl, hnsz, h4, hz, hnz⟩
      have h5 := (H3.out.trans h4).allocPt' #[.int .i64 5, .string nm, .int .i64 0, .int .u64 0, .int .u64 0, .slice none 0 0] 25 w4.heap.size rfl
      have H5 := Lib.hid (h5.re fun kk => (kk.rowNil 25 6).p1)
      have HZ := Lib.hid hz
      have HNZ := Lib.hid hnz
      clear h5 H3 h4 HN hz hnz
      have HNS := Lib.hid hnsz
      clear hnsz
      go_wp2_with fail
      go_loopw [14] (fun i wr => ∃ (j : Nat) (l : List Tc) (v : Value) (S1 : Blk) (V' : List (Nat × Nat)) (n' e' : Nat), i = .int .i64 (j : Int) ∧ j ≤ n ∧ l.length = j ∧ (∀ y ∈ l, TmC wr S1 y.six y.t) ∧
        To w S wr S1 (Pt w4.heap.size #[.int .i64 5, .string nm, .int .i64 0, .int .u64 0, .int .u64 0, v] 25 :: Row v 25 6 j (tcV l) :: ReadB g h a m most C L ⟨V', n'⟩ e' (Pt w.heap.size zero6 25 :: Γ)) ∧
        (e' = 0 → RSok ⟨V', n'⟩ ∧ RES.2 = (rdAll (rd C L f) (args.drop j) ⟨V', n'⟩).2 ∧ RES.1.2 = (rdAll (rd C L f) (args.drop j) ⟨V', n'⟩).1.2 ∧ ((rdAll (rd C L f) (args.drop j) ⟨V', n'⟩).1.2 = 0 → RES.1.1 = tComp nm (l.map (·.t) ++ (rdAll (rd C L f) (args.drop j) ⟨V', n'⟩).1.1))) ∧
        (e' ≠ 0 → RES.1.2 = e' ∧ RES.2.V = V')) (fun i _ => n - (intOf i).toNat)
      case atStart =>
        refine ⟨0, [], _, S, s.V, s.n + 1, E0, rfl, Nat.zero_le _, rfl, by simp, H5.out, fun h => ⟨HS1.out, ?_⟩, fun h => HNZ.out h⟩
        simpa using HZ.out h
      case round =>
        obtain ⟨j, l, v, S1, V', n', e', rfl, hj, hlj, hlT, hTo, hq, hq0⟩ := hrel
        by_cases hex : j < n ∧ e' = 0
        · obtain ⟨hlt, rfl⟩ := hex
          obtain ⟨hs1, hq1, hq2, hq3⟩ := hq rfl
          have hxj : args[j]? = some args[j] := List.getElem?_eq_getElem (by omega)
          rw [rdAll_drop _ _ _ _ _ hxj] at hq1 hq2 hq3
          have hcb := HAB.out _ (List.getElem_mem (by omega : j < args.length))
          have hcj := HAG.out _ _ hxj
          have h6 := hTo.p5.p5.p5.p5.drew
          have hcall := IH wr.drew S1 _ g h a m most ⟨V', n'⟩ args[j] (dd + 1) h6.ok hcb hs1 (by have := HDD.out; omega)
          have hs2 := rd_ok C L f args[j] ⟨V', n'⟩ hs1
          generalize args[j] = y at hq1 hq2 hq3 hcj hcall hs2 hcb
          obtain ⟨oo, hoo⟩ : ∃ oo, oo = rd C L f y ⟨V', n'⟩ := ⟨_, rfl⟩
          rw [← hoo] at hq1 hq2 hq3 hcall hs2
          obtain ⟨k0, -, -, -, k4, -, k6⟩ := hTo.p5.p5.p5.p5.ok.readB
          obtain ⟨⟨A1, c1, hh0, hh1⟩, -⟩ := hTo.p5.p5.p5.p5.ok.heapBR
          obtain ⟨ad, rfl, hcy⟩ := hh1 _ _ hcj
          have f5 : wr.cell? ⟨w4.heap.size, 5, none⟩ = some v := hTo.ok.ptCell 5 _ rfl
          have f6 := hTo.ok.ptLt
          have e9 : IntKind.i64.wrap (vl d : Int) = (vl d : Int) := IntWalk.i64_in _ ⟨by omega, by omega⟩
          have e10 : IntKind.i64.wrap ((vl d : Int) + 1) = (vl d : Int) + 1 := IntWalk.i64_in _ ⟨by omega, by omega⟩
          have e11 : IntKind.i64.wrap ((vl d : Int) + 1 + (j : Int)) = (vl d : Int) + 1 + (j : Int) := IntWalk.i64_in _ ⟨by omega, by omega⟩
          have e12 : ((vl d : Int) + 1 + (j : Int)).toNat = vl d + 1 + j := by omega
          have e13 : 0 ≤ (vl d : Int) + 1 + (j : Int) := by omega
          have e14 : (vl d : Int) + 1 + (j : Int) < (C.length : Int) := by omega
          have e15 : IntKind.i64.wrap (dd + 1) = dd + 1 := IntWalk.i64_in _ ⟨by omega, by omega⟩
          clear hoo hxj hcj hh1 hq hq0
          have HC := Lib.hid hcall
          have HL := Lib.hid hlT
          have H6 := Lib.hid h6
          have HS2 := Lib.hid hs2
          have HR1 : Hid (oo.1.2 ≠ 0 → RES.1.2 = oo.1.2 ∧ RES.2.V = oo.2.V) := by
            refine Lib.hid fun he => ?_
            simp only [ne_eq, he, not_false_eq_true, if_true] at hq1 hq2
            exact ⟨hq2, by rw [hq1]⟩
          have HR0 : Hid (oo.1.2 = 0 → RES.2 = (rdAll (rd C L f) (args.drop (j + 1)) oo.2).2 ∧ RES.1.2 = (rdAll (rd C L f) (args.drop (j + 1)) oo.2).1.2 ∧ ((rdAll (rd C L f) (args.drop (j + 1)) oo.2).1.2 = 0 → RES.1.1 = tComp nm ((l.map (·.t) ++ [oo.1.1]) ++ (rdAll (rd C L f) (args.drop (j + 1)) oo.2).1.1))) := by
            refine Lib.hid fun he => ?_
            simp only [ne_eq, he, not_true_eq_false, if_false] at hq1 hq2 hq3
            by_cases hz : (rdAll (rd C L f) (args.drop (j + 1)) oo.2).1.2 = 0
            · simp only [hz, not_true_eq_false, if_false] at hq1 hq2 hq3
              exact ⟨hq1, by rw [hq2, hz], fun _ => by first | (rw [hq3 rfl]; simp) | (rw [hq3 trivial]; simp) | (rw [hq3]; simp)⟩
            · simp only [hz, not_false_eq_true, if_true] at hq1 hq2
              exact ⟨hq1, hq2, fun h => absurd h hz⟩
          clear hcall hlT h6 hTo hs2 hs1 hq1 hq2 hq3
          go_wp2_with fail
          go_region_law (first | (go_simp; go_at_call 95; refine HC.out.mono ?_; rintro e w5 ⟨tc, S2, n2, hc, rfl, h7, hT7⟩; have q1 : w5.cell? ⟨w4.heap.size, 5, none⟩ = some v := h7.p4.ok.ptCell 5 _ rfl; have q2 := h7.p4.ok.ptLt; have HCE := Lib.hid hc; have HT7 := Lib.hid hT7; have H7 := Lib.hid h7; have H8 := Lib.hid h7.p5.ok.to; clear hc h7 hT7) | (refine step_append_new rfl (.tmp 205) (.tmp 224) 23 25 _ 6 72 rfl Try.underlying23 info25 rfl (by decide) (by decide) H8.out rfl tc.six.toArray rfl rfl (by simp [Value.oneCell']) (by omega) ?_; intro A9 c9 W9 h9; have r1 : W9.cell? ⟨w4.heap.size, 5, none⟩ = some v := h9.p5.ok.ptCell 5 _ rfl; have r2 := h9.p5.ok.ptFree 5; have r3 := h9.p5.ok.ptLt; have H9 := Lib.hid h9; clear h9))
          all_goals
            have H12 := Lib.hid (H9.out.p5.ptSet 5 (.slice A9 (j + 1) c9))
            clear e9 e10 e11 e12 e13 e14 e15 f5 f6 q1 q2 hh0 hcy k0 k4 k6 H8 HC
            go_wp2
            go_roundw
            case rel =>
              refine ⟨j + 1, l ++ [tc], .slice A9 (j + 1) c9, S2, oo.2.V, n2, oo.1.2, by go_num, by omega, by simp [hlj], ?_, ?_, fun he => ?_, fun he => HR1.out he⟩
              · intro y hy
                rcases List.mem_append.1 hy with hy | hy
                · exact (TmC.mono (w := wr) (w' := wr.drew) (fun _ _ _ h => h) (fun _ h => h) (HL.out y hy)).to (H7.out.trans H12.out)
                · rw [List.mem_singleton.1 hy]; exact HT7.out.to H12.out
              · have h13 := (H6.out.trans H7.out).trans H12.out
                rw [tcV_append]
                simpa [tcV] using h13
              · obtain ⟨e1, e2⟩ := HCE.out he
                have e3 : (⟨oo.2.V, n2⟩ : RS) = oo.2 := by rw [e2]
                rw [e3]
                refine ⟨HS2.out, (HR0.out he).1, (HR0.out he).2.1, fun hz => ?_⟩
                rw [List.map_append, List.map_singleton, e1]
                exact (HR0.out he).2.2 hz
            case measure => simp [intOf]; omega
        · have hfin : RES.1.2 = e' ∧ RES.2.V = V' ∧ (e' = 0 → RES.1.1 = tComp nm (l.map (·.t)) ∧ RES.2.n = n') := by
            by_cases he : e' = 0
            · have hje : j = n := by omega
              obtain ⟨-, hq1, hq2, hq3⟩ := hq he
              rw [hje, ← hal, List.drop_length] at hq1 hq2 hq3
              simp only [rdAll, List.append_nil, forall_const] at hq1 hq2 hq3
              exact ⟨by rw [hq2, he], by rw [hq1], fun _ => ⟨hq3, by rw [hq1]⟩⟩
            · exact ⟨(hq0 he).1, (hq0 he).2, fun h => absurd h he⟩
          have HFIN := Lib.hid hfin
          clear hfin hq hq0
          have k4 := hTo.p5.p5.p5.p5.ok.readB.2.2.2.2.1
          have k0 := hTo.p5.p5.p5.p5.ok.readB.2.2.2.2.2.2
          obtain ⟨A8, c8, rfl⟩ := hTo.p1.ok.rowShape
          obtain ⟨⟨f0, f1, f2, f3, f4, f5⟩, -, f6⟩ := hTo.ok.pt6
          obtain ⟨⟨z0, z1, z2, z3, z4, z5⟩, ⟨y0, y1, y2, y3, y4, y5⟩, y6⟩ := hTo.p6.ok.pt6
          have hw9 := hTo.ok.to.p6.ptSet6 (.int .i64 5) (.string nm) (.int .i64 0) (.int .u64 0) (.int .u64 0) (.slice A8 j c8)
          have hj9 : (l.map (·.t)).length ≤ 20 := by rw [List.length_map, hlj]; omega
          obtain ⟨S2, h8, hk8⟩ := hw9.p2.ok.rowTerm (k := 5) (n := 0) (re := 0) (im := 0) (s := nm) hlj (fun y hy => (hlT y hy).to hw9) ⟨by simp only [Tm.k]; omega, HNS.out, by simp only [Tm.n]; omega, by simp only [Tm.re]; omega, by simp only [Tm.im]; omega, by simp only [Tm.xs]; omega⟩
          have hh := ((hTo.trans hw9.p2).trans h8).drop.drop
          have HGT := Lib.hid (gcomp (res := RES) (by rw [List.length_map, hlj]) HFIN.out.1 HFIN.out.2.1 HFIN.out.2.2 hh hk8)
          clear hlT hTo hw9 h8 hk8 hh HFIN
          by_cases he : e' = 0
          · have hje : j = n := by omega
            subst hje
            clear he hex
            go_wp2
            refine bodyPost_ret (v := .agg #[.int .i64 5, .string nm, .int .i64 0, .int .u64 0, .int .u64 0, .slice A8 j c8]) (by simp [results, Try.results95, *, go_sem]) rfl ?_
            exact HGT.out
          · have hb : ((e' : Int) == 0) = false := beq_eq_false_iff_ne.2 (by omega)
            clear he hex
            by_cases hjn : j < n
            · go_wp2
              refine bodyPost_ret (v := .agg #[.int .i64 5, .string nm, .int .i64 0, .int .u64 0, .int .u64 0, .slice A8 j c8]) (by simp [results, Try.results95, *, go_sem]) rfl ?_
              exact HGT.out
            · obtain rfl : j = n := by omega
              go_wp2
              refine bodyPost_ret (v := .agg #[.int .i64 5, .string nm, .int .i64 0, .int .u64 0, .int .u64 0, .slice A8 j c8]) (by simp [results, Try.results95, *, go_sem]) rfl ?_
              exact HGT.out
    have t6 : T = 6 ∨ T = 7 := by have := tg_lt d; omega
    have hres : RES = ((tNone, 2), ⟨s.V, s.n + 1⟩) := by rw [← HRES.out, rdOne, if_neg (by omega), if_neg (by omega), if_neg (by omega), if_neg (by omega), if_neg (by omega), if_neg (by omega)]
    have HRS := Lib.hid hres
    clear hres
    have h9 : To w S (W2.setCell ⟨g, 4, none⟩ (.int .i64 2)) S (ReadB g h a m most C L ⟨s.V, s.n + 1⟩ 2 (Pt w.heap.size zero6 25 :: Γ)) := H2.out.trans (H2.out.ok.readErr 2)
    obtain ⟨⟨z0, z1, z2, z3, z4, z5⟩, ⟨y0, y1, y2, y3, y4, y5⟩, y6⟩ := h9.p4.ok.pt6
    have H4 := Lib.hid (h9.p4.ptSet6 (.int .i64 0) (.string ⟨#[]⟩) (.int .i64 0) (.int .u64 0) (.int .u64 0) (.slice none 0 0)).drop
    have H5 := Lib.hid (gerr (t := tNone) (s := ⟨s.V, s.n + 1⟩) (k := 0) (by omega) H4.out (by omega))
    clear h9 H4
    rcases t6 with t6 | t6
    · subst t6
      go_wp2
      refine bodyPost_ret (v := .agg #[.int .i64 (0), .string (⟨#[]⟩), .int .i64 (0), .int .u64 (0), .int .u64 (0), .slice none 0 0]) (by simp [results, Try.results95, *, go_sem]) rfl ?_
      rw [HRS.out]
      exact H5.out
    · subst t6
      go_wp2
      refine bodyPost_ret (v := .agg #[.int .i64 (0), .string (⟨#[]⟩), .int .i64 (0), .int .u64 (0), .int .u64 (0), .slice none 0 0]) (by simp [results, Try.results95, *, go_sem]) rfl ?_
      rw [HRS.out]
      exact H5.out
theorem rget_spec : ∀ f : Nat, f ≤ 501 → GtS C L f
  | 0, _ => by
    intro w S Γ g h a m most s c dd hO hc hs hdd
    exact glong_spec hO c dd hs.n (.inr (by omega))
  | f + 1, hf => get_step f hf (rget_spec f (by omega))
end
#print axioms rget_spec
end Go.Proofs.Ytceahdlcbiialaa
