/- The reference's put and Put. -/
import Derived.Test.YtceahdlcbiialaaF5M21
import Derived.Test.YtceahdlcbiialaaF5M18
import Derived.Test.YtceahdlcbiialaaF5M27
set_option linter.unusedVariables false
set_option linter.unusedSimpArgs false
namespace Go.Proofs.Ytceahdlcbiialaa
open Go.RowKit

theorem Ok.refOk {w : World} {S : Blk} {Γ : List Asn} {h a m most : Nat} {st : St} (hO : Ok w S (RefG h a m most st Γ)) (hV : VOk st.V) : StOk most st := by
  have hR := hO.heapBR
  exact ⟨hR.2.2.2.1, hR.2.2.1, hO.p1.atomsBR.2, hV⟩
def RPutS (t : Tm) : Prop := ∀ (w : World) (S : Blk) (Γ : List Asn) (cs : List Value) (h a m most : Nat) (st : St) (own : Int), Ok w S (RefG h a m most st Γ) → TmC w S cs t → good t → VOk st.V → -1 ≤ own → own ≤ 1048576 →
  Calls Try.prog 91 #[.pointer (some ⟨h, 0, none⟩), .pointer (some ⟨a, 0, none⟩), .agg cs.toArray, .map (some m), .int .i64 own] w (RPutQ w S Γ h a m most (lay most t own st))
theorem Ok.heapBset {w : World} {S : Blk} {Γ : List Asn} {p most : Nat} {l : List Nat} (h : Ok w S (HeapB p most l :: Γ)) (i x : Nat) (hi : i < l.length) (hx : x < 18446744073709551616) :
    ∃ ad c, w.cell? ⟨p, 0, none⟩ = some (.slice (some ad) l.length c) ∧ (∃ v0, w.cell? (ad.add i) = some v0) ∧ w.frozen? (ad.add i) = false ∧ To w S (w.setCell (ad.add i) (.int .u64 (x : Int))) S (HeapB p most (l.set i x) :: Γ) := by
  obtain ⟨v, hv, hw⟩ := h.heapB
  obtain ⟨A, c, rfl, _⟩ := row_read hv.p1
  obtain ⟨ad, rfl, h2, h3, h4⟩ := hv.p1.rowAt i (.int .u64 (l[i] : Nat)) (by rw [nums_get, List.getElem?_eq_getElem hi]; rfl)
  refine ⟨ad, c, hv.ptCell 0 _ rfl, ⟨_, h2⟩, h3, (h4 (.int .u64 x)).p1.re fun k => Ok.heapB_mk (v := .slice (some ad) l.length c) ?_ ?_⟩
  · rw [List.length_set]
    have e : (nums l).set i (.int .u64 (x : Nat)) = nums (l.set i x) := by simp [nums, List.map_set]
    rw [← e]
    exact k
  · refine ⟨hw.1, by rw [List.length_set]; exact hw.2.1, fun y hy => ?_⟩
    rcases List.mem_or_eq_of_mem_set hy with hy | rfl
    · exact hw.2.2 y hy
    · exact hx
theorem varAll_succ (most n : Nat) (C : List Nat) : varAll most (n + 1) C = if C.length < most then varAll most n (C ++ [mkc 0 C.length]) else (4, C) := rfl
set_option maxRecDepth 100000 in
set_option maxHeartbeats 8000000 in
theorem rput_spec (t : Tm) : RPutS t := by
  refine Tm.ind ?_ t
  intro k s n re im xs ih w S Γ cs h a m most st own hO hT hgd hV ho1 ho2
  obtain ⟨A, cap, rfl, ⟨hk, hsz, hn, hre, him, hxl⟩, hA⟩ := hT.form
  simp only [Tm.k, Tm.s, Tm.n, Tm.re, Tm.im, Tm.xs] at hk hsz hn hre him hxl hA hT ⊢
  obtain ⟨h1, hgk⟩ := hgd
  have hkk := one_k h1
  simp only [Tm.k] at hkk
  by_cases k5 : k = 5
  case neg =>
    have e : lay most (.mk k s n re im xs) own st = leaf most (.mk k s n re im []) own st := by unfold lay; rw [if_neg k5]
    rw [e]
    exact rput_leaf hO hT own ho1 ho2 hkk.1 (by omega)
  subst k5
  have hx2 := (one_zero.1 h1).2.2.2.1 rfl
  simp only [Tm.xs] at hx2
  obtain ⟨hx1, hx2⟩ := hx2
  have hgl := hgk rfl
  clear hgk hkk h1 hk
  have hst := hO.refOk hV
  obtain ⟨C, L, V⟩ := st
  have hC : C.length ≤ most ∧ most ≤ 1048576 := ⟨hst.len, hst.most⟩
  have hal := (hO.to.allocPt' #[.int .i64 5, .string s, .int .i64 n, .int .u64 re, .int .u64 im, .slice A xs.length cap] 25 w.heap.size rfl)
  have hS1 := hal.trans hal.ok.seal1
  obtain ⟨S1, eS1⟩ : ∃ S1 : Blk, S1 = fun x => S x ∨ x = w.heap.size := ⟨_, rfl⟩
  have b0 : (w.alloc (.cells #[.int .i64 5, .string s, .int .i64 n, .int .u64 re, .int .u64 im, .slice A xs.length cap] 25)).cell? ⟨w.heap.size, 1, none⟩ = some (.string s) := hal.ok.ptCell 1 _ rfl
  have b5 : (w.alloc (.cells #[.int .i64 5, .string s, .int .i64 n, .int .u64 re, .int .u64 im, .slice A xs.length cap] 25)).cell? ⟨w.heap.size, 5, none⟩ = some (.slice A xs.length cap) := hal.ok.ptCell 5 _ rfl
  rw [← eS1] at hS1
  have hsb : S1 w.heap.size := by rw [eS1]; exact .inr rfl
  have hss : ∀ b, S b → S1 b := fun b hb => by rw [eS1]; exact .inl hb
  clear eS1 hal hO
  have hA1 := hA.to hS1
  have hnum := rnumber_spec hS1.p1.ok s hsz
  obtain ⟨⟨⟨q1, q2⟩, L2⟩, hq⟩ : ∃ r, r = number L s := ⟨_, rfl⟩
  simp only at hnum
  rw [← hq] at hnum
  simp only at hnum
  have HA1 := Lib.hid hA1; clear hA1 hA
  have HT := Lib.hid hT; clear hT
  have HS1 := Lib.hid hS1; clear hS1
  have HV := Lib.hid hV; clear hV
  have HST := Lib.hid hst; clear hst
  have HGL := Lib.hid hgl; clear hgl
  have hopn : opn most s xs.length ⟨C, L, V⟩ = if q2 ≠ 0 then ((0, q2), ⟨C, L2, V⟩) else if C.length < most then (if (varAll most xs.length (C ++ [fun6 q1 xs.length])).1 = 0 then ((C.length, 0), ⟨(varAll most xs.length (C ++ [fun6 q1 xs.length])).2, L2, V⟩) else ((0, (varAll most xs.length (C ++ [fun6 q1 xs.length])).1), ⟨(varAll most xs.length (C ++ [fun6 q1 xs.length])).2, L2, V⟩)) else ((0, 4), ⟨C, L2, V⟩) := by
    unfold opn
    simp only [← hq]
  have hlay : lay most (.mk 5 s n re im xs) own ⟨C, L, V⟩ = if (opn most s xs.length ⟨C, L, V⟩).1.2 ≠ 0 then ((0, (opn most s xs.length ⟨C, L, V⟩).1.2), (opn most s xs.length ⟨C, L, V⟩).2) else
      if (layL most xs ((opn most s xs.length ⟨C, L, V⟩).1.1 + 1) (opn most s xs.length ⟨C, L, V⟩).2).1 ≠ 0 then ((0, (layL most xs ((opn most s xs.length ⟨C, L, V⟩).1.1 + 1) (opn most s xs.length ⟨C, L, V⟩).2).1), (layL most xs ((opn most s xs.length ⟨C, L, V⟩).1.1 + 1) (opn most s xs.length ⟨C, L, V⟩).2).2)
      else ((mkc 1 (opn most s xs.length ⟨C, L, V⟩).1.1, 0), (layL most xs ((opn most s xs.length ⟨C, L, V⟩).1.1 + 1) (opn most s xs.length ⟨C, L, V⟩).2).2) := by
    rw [lay, if_pos rfl]
  by_cases h0 : q2 = 0
  case neg =>
    rw [if_pos h0] at hopn
    rw [hopn] at hlay
    simp only [ne_eq, h0, not_false_eq_true, if_true] at hlay
    rw [hlay]
    have hb : ((q2 : Int) != 0) = true := by simp [bne]; omega
    have HN := Lib.hid hnum
    clear hnum hq hopn hlay
    go_enter Try.func91, Try.ntmps91
    go_wp2_with (first | (go_at_call 47; refine HN.out.mono ?_; rintro e w' ⟨rfl, h2⟩; have H2 := Lib.hid (HS1.out.p1.trans h2).p1.plain; clear h2))
    go_ret2
    exact ⟨0, rfl, fun h => absurd h h0, H2.out⟩
  subst h0
  rw [if_neg (by simp)] at hopn
  have hq1 : q1 < 4096 := by
    have := number_lt HST.out.names s hq.symm
    exact this
  have HN := Lib.hid hnum; clear hnum hq
  by_cases hf : C.length < most
  case neg =>
    rw [if_neg hf] at hopn
    rw [hopn] at hlay
    simp only [ne_eq, Nat.reduceEqDiff, not_false_eq_true, if_true] at hlay
    rw [hlay]
    have hfl : C.length = most := by omega
    have HFL := Lib.hid hfl
    clear hopn hlay hfl
    go_enter Try.func91, Try.ntmps91
    go_wp2_with (first | (go_at_call 47; refine HN.out.mono ?_; rintro e w2 ⟨rfl, h2⟩; have c5 := h2.cell (a := ⟨w.heap.size, 5, none⟩) hsb b5; have c6 := h2.ok.old _ hsb; have H2 := Lib.hid (HS1.out.p1.trans h2).p1; have H12 := Lib.hid h2; clear h2) | (go_at_call 125; refine (rfunctor_spec q1 xs.length hq1 hx1 (by omega) _).mono ?_; rintro e w' ⟨rfl, hww⟩; subst w') | (go_at_call 45; refine (rpush_full H2.out.ok.heapBR _ HFL.out).mono ?_; rintro e w3 ⟨rfl, q, rfl⟩))
    go_loopw [27, 25] (fun i u wr => i = .int .i64 0 ∧ u = .int .i64 4 ∧ wr = w2.drewN q) (fun _ _ _ => 0)
    case atStart => exact ⟨rfl, rfl, rfl⟩
    case round =>
      obtain ⟨rfl, rfl, rfl⟩ := hrel
      go_wp2
      go_loopw [28, 25] (fun i u wr => i = .int .i64 0 ∧ u = .int .i64 4 ∧ wr = w2.drewN q) (fun _ _ _ => 0)
      case atStart => exact ⟨rfl, rfl, rfl⟩
      case round =>
        obtain ⟨rfl, rfl, rfl⟩ := hrel
        go_wp2_with (go_at_call 85; refine (rmake_spec 1 0 rfl rfl (by omega) (by omega) _).mono ?_; rintro e w' ⟨rfl, hww⟩; subst w')
        go_ret2
        exact ⟨_, rfl, fun h => by simp at h, (H2.out.drewN _).plain⟩
  rw [if_pos hf] at hopn
  have hvl := varAll_most most xs.length (C ++ [fun6 q1 xs.length]) (by simp; omega)
  have hfl : fun6 q1 xs.length < 18446744073709551616 := by unfold fun6 mkc; omega
  obtain ⟨r, hr⟩ : ∃ r, r = varAll most xs.length (C ++ [fun6 q1 xs.length]) := ⟨_, rfl⟩
  have hrl : r.1 = 0 → r.2.length = C.length + 1 + xs.length := by
    intro h9
    have := varAll_len most xs.length (C ++ [fun6 q1 xs.length]) r.2 (by rw [← hr, ← h9])
    simp at this
    exact this
  rw [← hr] at hopn hvl
  have HR := Lib.hid hr; clear hr
  obtain ⟨r1, r2⟩ := r
  simp only at hopn hrl hvl
  have HOPN := Lib.hid hopn; clear hopn
  have HLAY := Lib.hid hlay; clear hlay
  go_enter Try.func91, Try.ntmps91
  go_wp2_with (first | (go_at_call 47; refine HN.out.mono ?_; rintro e w2 ⟨rfl, h2⟩; have c5 := h2.cell (a := ⟨w.heap.size, 5, none⟩) hsb b5; have c6 := h2.ok.old _ hsb; have H2 := Lib.hid (HS1.out.p1.trans h2).p1; have H12 := Lib.hid h2; clear h2) | (go_at_call 125; refine (rfunctor_spec q1 xs.length hq1 hx1 (by omega) _).mono ?_; rintro e w' ⟨rfl, hww⟩; subst w') | (go_at_call 45; refine (rpush_ok H2.out.ok (fun6 q1 xs.length) rfl hfl hf).mono ?_; rintro e w3 ⟨rfl, h3⟩; have d5 := h3.cell (a := ⟨w.heap.size, 5, none⟩) hsb c5; have d6 := h3.ok.old _ hsb; have H3 := Lib.hid (H2.out.trans h3); have H13 := Lib.hid h3; clear h3))
  clear b0 b5 c5 c6
  go_loopw [27, 25] (fun i u wr => ∃ (j e : Nat) (C1 : List Nat), i = .int .i64 (j : Int) ∧ u = .int .i64 (e : Int) ∧ j ≤ xs.length ∧ To w3 S1 wr S1 (RefG h a m most ⟨C1, L2, V⟩ Γ) ∧ ((e = 0 ∧ varAll most (xs.length - j) C1 = (r1, r2)) ∨ (e = 4 ∧ (r1, r2) = (e, C1)))) (fun i _ _ => xs.length - (intOf i).toNat)
  case atStart => exact ⟨0, 0, C ++ [fun6 q1 xs.length], rfl, rfl, Nat.zero_le _, H3.out.ok.to, .inl ⟨rfl, HR.out.symm⟩⟩
  case round =>
    obtain ⟨j, e, C1, rfl, rfl, hj, hTo, hcase⟩ := hrel
    have f5 := hTo.cell (a := ⟨w.heap.size, 5, none⟩) hsb d5
    by_cases hgo : j < xs.length ∧ e = 0
    · obtain ⟨hlt, rfl⟩ := hgo
      have hv : varAll most (xs.length - j) C1 = (r1, r2) := by
        rcases hcase with h | h
        · exact h.2
        · simp at h
      rw [show xs.length - j = (xs.length - (j + 1)) + 1 from by omega, varAll_succ] at hv
      clear hcase
      by_cases hf1 : C1.length < most
      · rw [if_pos hf1] at hv
        have HVV := Lib.hid hv; clear hv
        have HTo := Lib.hid hTo; clear hTo
        go_wp2_with (go_at_call 124; refine (rvar_ok HTo.out.ok hf1).mono ?_; rintro e w4 ⟨rfl, h4⟩; have H4 := Lib.hid (HTo.out.trans h4); clear h4)
        clear f5
        go_roundw
        case rel => exact ⟨j + 1, 0, _, by go_num, rfl, by omega, H4.out, .inl ⟨rfl, HVV.out⟩⟩
        case measure => simp [intOf]; omega
      · rw [if_neg hf1] at hv
        have hfl1 : C1.length = most := by have := hTo.ok.heapBR.2.2.2.1; simp only at this; omega
        have HFL1 := Lib.hid hfl1; clear hfl1
        have HVV := Lib.hid hv; clear hv
        have HTo := Lib.hid hTo; clear hTo
        go_wp2_with (go_at_call 124; refine (rvar_full HTo.out.ok.heapBR HFL1.out).mono ?_; rintro e w4 ⟨rfl, q, rfl⟩)
        clear f5
        go_roundw
        case rel => exact ⟨j + 1, 4, C1, by go_num, rfl, by omega, HTo.out.drewN _, .inr ⟨rfl, HVV.out.symm⟩⟩
        case measure => simp [intOf]; omega
    · have hend : (r1, r2) = (e, C1) := by
        rcases hcase with h | h
        · have hje : j = xs.length := by omega
          have h2 := h.2
          rw [hje, Nat.sub_self] at h2
          rw [← h2, h.1]
          rfl
        · exact h.2
      simp only [Prod.mk.injEq] at hend
      obtain ⟨rfl, rfl⟩ := hend
      obtain ⟨WA, rfl⟩ : ∃ WA, WA = wr := ⟨_, rfl⟩
      have hT3 := H3.out.trans hTo
      have HX := Lib.hid ((H12.out.trans H13.out).trans hTo)
      clear hcase H3 H13 H2 H12 HR
      have HT3 := Lib.hid hT3; clear hT3 hTo
      by_cases he : r1 = 0
      case neg =>
        have hopn := HOPN.out
        rw [if_neg he] at hopn
        have hlay := HLAY.out
        rw [hopn] at hlay
        simp only [ne_eq, he, not_false_eq_true, if_true] at hlay
        have HL := Lib.hid hlay; clear hlay hopn HLAY HOPN
        have heb : ((r1 : Int) == 0) = false := beq_eq_false_iff_ne.2 (by omega)
        clear hgo
        by_cases hjl : j < xs.length
        · go_wp2
          go_loopw [28, 25] (fun i u wr => i = .int .i64 0 ∧ u = .int .i64 (r1 : Int) ∧ wr = WA) (fun _ _ _ => 0)
          case atStart => exact ⟨rfl, rfl, rfl⟩
          case round =>
            obtain ⟨rfl, rfl, rfl⟩ := hrel
            go_wp2_with (go_at_call 85; refine (rmake_spec 1 C.length rfl rfl (by omega) (by omega) _).mono ?_; rintro e w' ⟨rfl, hww⟩; subst w')
            go_ret2
            rw [HL.out]
            exact ⟨_, rfl, fun h => absurd h he, HT3.out.plain⟩
        · go_wp2
          go_loopw [28, 25] (fun i u wr => i = .int .i64 0 ∧ u = .int .i64 (r1 : Int) ∧ wr = WA) (fun _ _ _ => 0)
          case atStart => exact ⟨rfl, rfl, rfl⟩
          case round =>
            obtain ⟨rfl, rfl, rfl⟩ := hrel
            go_wp2_with (go_at_call 85; refine (rmake_spec 1 C.length rfl rfl (by omega) (by omega) _).mono ?_; rintro e w' ⟨rfl, hww⟩; subst w')
            go_ret2
            rw [HL.out]
            exact ⟨_, rfl, fun h => absurd h he, HT3.out.plain⟩
      subst he
      have hopn := HOPN.out
      rw [if_pos rfl] at hopn
      have hlay := HLAY.out
      rw [hopn] at hlay
      simp only [ne_eq, not_true_eq_false, if_false] at hlay
      have hlen1 := hrl rfl
      obtain rfl : j = xs.length := by omega
      clear HOPN HLAY hopn hrl hgo hj hvl
      obtain ⟨rr, hrr⟩ : ∃ rr, rr = layL most xs (C.length + 1) ⟨r2, L2, V⟩ := ⟨_, rfl⟩
      rw [← hrr] at hlay
      have HLAY := Lib.hid hlay; clear hlay
      have HRR := Lib.hid hrr; clear hrr
      go_wp2
      go_loopw [28, 25] (fun i u wr => ∃ (j e2 : Nat) (st2 : St), i = .int .i64 (j : Int) ∧ u = .int .i64 (e2 : Int) ∧ j ≤ xs.length ∧ To WA S1 wr S1 (RefG h a m most st2 Γ) ∧ VOk st2.V ∧ C.length + 1 + xs.length ≤ st2.C.length ∧
        ((e2 = 0 ∧ layL most (xs.drop j) (C.length + 1 + j) st2 = rr) ∨ (e2 ≠ 0 ∧ rr = (e2, st2)))) (fun i _ _ => xs.length - (intOf i).toNat)
      case atStart => exact ⟨0, 0, ⟨r2, L2, V⟩, rfl, rfl, Nat.zero_le _, HT3.out.ok.to, HV.out, by simp only; omega, .inl ⟨rfl, HRR.out.symm⟩⟩
      case round =>
        obtain ⟨j, e2, st2, rfl, rfl, hj, hTo, hV2, hl2, hcase⟩ := hrel
        have q5 := hTo.cell (a := ⟨w.heap.size, 5, none⟩) hsb f5
        by_cases hgo : j < xs.length ∧ e2 = 0
        · obtain ⟨hlt, rfl⟩ := hgo
          have hv : layL most (xs.drop j) (C.length + 1 + j) st2 = rr := by
            rcases hcase with h | h
            · exact h.2
            · exact absurd rfl h.1
          clear hcase
          have hx : xs[j]? = some xs[j] := List.getElem?_eq_getElem hlt
          have hKW := HA1.out.in (fun _ h => h) (HX.out.trans hTo)
          obtain ⟨g, o, A', cap', rfl, hS, g0, g1, g2, g3, g4, g5, hxT⟩ := hKW j _ hx
          rw [layL_drop most xs j _ st2 xs[j] hx] at hv
          have hst2 := hTo.ok.refOk hV2
          have hl8 := hst2.len
          have hl9 := hst2.most
          have hlo := lay_ok most xs[j] ((C.length + 1 + j : Nat) : Int) st2 hst2 (by omega)
          have hcall := ih xs[j] (List.getElem_mem hlt) wr S1 Γ _ h a m most st2 ((C.length + 1 + j : Nat) : Int) hTo.ok hxT (goodL_mem HGL.out _ (List.getElem_mem hlt)) hV2 (by omega) (by omega)
          obtain ⟨oo, hoo⟩ : ∃ oo, oo = lay most xs[j] ((C.length + 1 + j : Nat) : Int) st2 := ⟨_, rfl⟩
          rw [← hoo] at hcall hlo hv
          clear hoo
          have ecast : ((C.length + 1 + j : Nat) : Int) = (C.length : Int) + 1 + j := by omega
          rw [ecast] at hcall
          obtain ⟨⟨oc, oe⟩, so⟩ := oo
          obtain ⟨hoc, hso, hsl⟩ := hlo
          simp only at hoc hso hsl hv
          have hto : ((C.length : Int) + 1 + j).toNat = C.length + 1 + j := by omega
          have hidx : C.length + 1 + j < so.C.length := by omega
          have hsob : so.C.length ≤ 1048576 := Nat.le_trans hso.len hso.most
          have HSO := Lib.hid hso.vars
          have HC := Lib.hid hcall; clear hcall
          have HTo := Lib.hid hTo; clear hTo
          have HVV := Lib.hid hv; clear hv
          clear hst2 hKW hxT hx hso ecast hV2
          by_cases hoe : oe = 0
          · subst hoe
            have hv := HVV.out
            simp only [ne_eq, not_true_eq_false, if_false] at hv
            have HV2 := Lib.hid hv; clear hv HVV
            go_wp2_with (go_at_call 91; refine HC.out.mono ?_; rintro e w4 ⟨c, rfl, hc, h4⟩; obtain rfl := hc rfl; obtain ⟨ad, cc, r1, ⟨v0, r2⟩, r3, r4⟩ := h4.ok.heapBset (C.length + 1 + j) c hidx hoc; have H4 := Lib.hid ((HTo.out.trans h4).trans r4); clear h4 r4)
            clear g0 g1 g2 g3 g4 g5 q5
            go_roundw
            case rel => exact ⟨j + 1, 0, so.at (C.length + 1 + j) c, by go_num, rfl, by omega, H4.out, HSO.out, by simp only [St.at, List.length_set]; omega, .inl ⟨rfl, HV2.out⟩⟩
            case measure => simp [intOf]; omega
          · have hv := HVV.out
            simp only [ne_eq, hoe, not_false_eq_true, if_true] at hv
            have HV2 := Lib.hid hv; clear hv HVV
            have hoeb : ((oe : Int) == 0) = false := beq_eq_false_iff_ne.2 (by omega)
            go_wp2_with (go_at_call 91; refine HC.out.mono ?_; rintro e w4 ⟨c, rfl, hc, h4⟩; have H4 := Lib.hid (HTo.out.trans h4); clear h4 hc)
            clear g0 g1 g2 g3 g4 g5 q5
            go_roundw
            case rel => exact ⟨j + 1, oe, so, by go_num, rfl, by omega, H4.out, HSO.out, by omega, .inr ⟨hoe, HV2.out.symm⟩⟩
            case measure => simp [intOf]; omega
        · have hend : rr = (e2, st2) := by
            rcases hcase with h | h
            · have hje : j = xs.length := by omega
              have h2 := h.2
              rw [hje, List.drop_length] at h2
              rw [← h2, h.1]
              rfl
            · exact h.2
          subst hend
          have HTo := Lib.hid hTo; clear hTo hcase
          have hlay := HLAY.out
          simp only at hlay
          have HLY := Lib.hid hlay; clear hlay HLAY HRR
          by_cases he2 : e2 = 0
          · subst he2
            obtain rfl : j = xs.length := by omega
            clear hgo
            go_wp2_with (go_at_call 85; refine (rmake_spec 1 C.length rfl rfl (by omega) (by omega) _).mono ?_; rintro e w' ⟨rfl, hww⟩; subst w')
            go_ret2
            rw [HLY.out, if_neg (by simp)]
            exact ⟨_, rfl, fun _ => rfl, (HT3.out.trans HTo.out).plain⟩
          · have heb : ((e2 : Int) == 0) = false := beq_eq_false_iff_ne.2 (by omega)
            clear hgo
            by_cases hjl : j < xs.length
            · go_wp2_with (go_at_call 85; refine (rmake_spec 1 C.length rfl rfl (by omega) (by omega) _).mono ?_; rintro e w' ⟨rfl, hww⟩; subst w')
              go_ret2
              rw [HLY.out, if_pos he2]
              exact ⟨_, rfl, fun h => absurd h he2, (HT3.out.trans HTo.out).plain⟩
            · go_wp2_with (go_at_call 85; refine (rmake_spec 1 C.length rfl rfl (by omega) (by omega) _).mono ?_; rintro e w' ⟨rfl, hww⟩; subst w')
              go_ret2
              rw [HLY.out, if_pos he2]
              exact ⟨_, rfl, fun h => absurd h he2, (HT3.out.trans HTo.out).plain⟩
#print axioms rput_spec
end Go.Proofs.Ytceahdlcbiialaa
