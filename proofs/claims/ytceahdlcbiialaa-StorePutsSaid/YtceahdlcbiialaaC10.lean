/- The functions of the layer: words, references, variables. -/
import Derived.Test.YtceahdlcbiialaaC9
import Derived.Test.YtceahdlcbiialaaC3
import Derived.Test.YtceahdlcbiialaaB2
set_option linter.unusedVariables false
set_option linter.unusedSimpArgs false
namespace Go.Proofs.Ytceahdlcbiialaa
open Go.RowKit

abbrev VarsA (m : Nat) (V : List (Int × Nat)) : Asn := MapA m (Value.int .i64) (fun c : Nat => Value.int .u64 (c : Int)) V
abbrev LayG (p h a m most : Nat) (st : St) (v : Value) (Γ : List Asn) : List Asn := HeapA h most st.C :: AtomsA a st.L :: VarsA m st.V :: Pt p #[.pointer (some ⟨h, 0, none⟩), .pointer (some ⟨a, 0, none⟩), .map (some m), v] 130 :: Γ
theorem pushAll_drop (most : Nat) (l : List Nat) (j x : Nat) (C : List Nat) (hx : l[j]? = some x) : pushAll most (l.drop j) C = if C.length < most then pushAll most (l.drop (j + 1)) (C ++ [x]) else (4, C) := by
  have hlt := (List.getElem?_eq_some_iff.1 hx).1
  have e : l[j] = x := (List.getElem?_eq_some_iff.1 hx).2
  rw [List.drop_eq_getElem_cons hlt, e, pushAll]

set_option maxRecDepth 100000 in
set_option maxHeartbeats 2000000 in
theorem words_spec {w : World} {S : Blk} {Γ : List Asn} {p h a m most : Nat} {st : St} {v : Value} {A : Option Addr} {cap : Nat} (hO : Ok w S (LayG p h a m most st v Γ)) (tag : Nat) (ht : tag ≤ 5) {l : List Nat} (hl : ∀ x ∈ l, x < 18446744073709551616)
    (hA : ∀ (i x : Nat), l[i]? = some x → ∃ ad, A = some ad ∧ S ad.block ∧ (ad.add i).block = ad.block ∧ w.cell? (ad.add i) = some (.int .u64 x)) (hlen : l.length ≤ 2) :
    Calls Try.prog 122 #[.pointer (some ⟨p, 0, none⟩), .int .i64 (tag : Int), .slice A l.length cap] w fun e w' =>
      e = .returned (.tuple #[.int .u64 (wordsP most tag l st).1.1, .int .i64 (wordsP most tag l st).1.2]) ∧ To w S w' S (LayG p h a m most (wordsP most tag l st).2 v Γ) := by
  obtain ⟨C, L, V⟩ := st
  have hW := hO.heapAR
  have hC : C.length ≤ 1048576 := Nat.le_trans hW.2.2.2.1 hW.2.2.1
  have hp0 : w.cell? ⟨p, 0, none⟩ = some (.pointer (some ⟨h, 0, none⟩)) := hO.p3.ptCell 0 _ rfl
  have HW := Lib.hid hW; clear hW
  have H := Lib.hid hO; clear hO
  have HA := Lib.hid hA; clear hA
  have HLX := Lib.hid hl; clear hl
  obtain ⟨r, hr⟩ : ∃ r, r = pushAll most l C := ⟨_, rfl⟩
  have hv : wordsP most tag l ⟨C, L, V⟩ = if r.1 = 0 then ((mkc tag C.length, 0), ⟨r.2, L, V⟩) else ((0, r.1), ⟨r.2, L, V⟩) := by rw [hr]; rfl
  have HR := Lib.hid hr; clear hr
  have HV := Lib.hid hv; clear hv
  go_enter Try.func122, Try.ntmps122
  go_wp2_with (go_at_call 31; refine (len_spec HW.out).mono ?_; rintro e w' ⟨rfl, hww⟩; subst w')
  go_loopw [22] (fun i wr => ∃ (j : Nat) (C' : List Nat), i = .int .i64 j ∧ j ≤ l.length ∧ To w S wr S (LayG p h a m most ⟨C', L, V⟩ v Γ) ∧ pushAll most (l.drop j) C' = r) (fun i _ => l.length - (intOf i).toNat)
  case atStart => exact ⟨0, C, rfl, Nat.zero_le _, H.out.to, HR.out.symm⟩
  case round =>
    obtain ⟨j, C', rfl, hj, hT, hq⟩ := hrel
    by_cases hlt : j < l.length
    · have hx : l[j]? = some l[j] := List.getElem?_eq_getElem hlt
      rw [pushAll_drop _ _ _ _ _ hx] at hq
      obtain ⟨ad, rfl, hS, hb, hcell⟩ := HA.out j _ hx
      have hc := hT.cell (a := ad.add j) (by rw [hb]; exact hS) hcell
      have hp0 : wr.cell? ⟨p, 0, none⟩ = some (.pointer (some ⟨h, 0, none⟩)) := hT.ok.p3.ptCell 0 _ rfl
      have hxb : l[j] < 18446744073709551616 := HLX.out _ (List.getElem_mem _)
      clear hx
      generalize l[j] = x at hq hc hxb hcell
      clear hcell
      have hr' := hT.ok.heapAR
      by_cases hf : C'.length < most
      · rw [if_pos hf] at hq
        have HT := Lib.hid hT; clear hT
        have HQ := Lib.hid hq; clear hq hr'
        go_wp2_with (go_at_call 44; refine (push_ok HT.out.ok x rfl hxb hf).mono ?_; rintro e w' ⟨rfl, h2⟩)
        have H2 := Lib.hid (HT.out.trans h2); clear h2
        go_roundw
        case rel => exact ⟨j + 1, _, by go_num, by omega, H2.out, HQ.out⟩
        case measure => simp [intOf]; omega
      · have hm : C'.length = most := by have h9 : C'.length ≤ most := hr'.2.2.2.1; omega
        rw [if_neg hf] at hq
        have HT := Lib.hid hT; clear hT
        have HQ := Lib.hid hq; clear hq
        have HR' := Lib.hid hr'; clear hr'
        have HM := Lib.hid hm; clear hm hf
        go_wp2_with (go_at_call 44; refine (push_full HR'.out x HM.out).mono ?_; rintro e w' ⟨rfl, n, rfl⟩)
        go_ret2
        rw [HV.out, ← HQ.out, if_neg (by simp)]
        exact ⟨rfl, HT.out.drewN _⟩
    · have hje : j = l.length := by omega
      have hq' : r = (0, C') := by rw [← hq, hje]; simp [pushAll]
      have HQ := Lib.hid hq'; clear hq hq'
      have HT := Lib.hid hT; clear hT
      go_wp2_with (go_at_call 118; refine (make_spec tag C.length rfl (by simp) (by omega) (by omega) _).mono ?_; rintro e w' ⟨rfl, rfl⟩)
      go_ret2
      rw [HV.out, HQ.out, if_pos rfl]
      exact ⟨rfl, HT.out⟩

set_option maxRecDepth 100000 in
set_option maxHeartbeats 400000 in
theorem ref_spec {n' : Int} (n : Nat) (en : n' = n) (hn : n ≤ 1048576) (w : World) :
    Calls Try.prog 158 #[.int .i64 n'] w fun e w' => e = .returned (.int .u64 (mkc 0 n : Nat)) ∧ w' = w := by
  subst en
  go_enter Try.func158, Try.ntmps158
  go_wp2_with (go_at_call 118; refine (make_spec 0 n rfl (by simp) (by omega) (by omega) _).mono ?_; rintro e w' ⟨rfl, rfl⟩)
  go_ret
  exact ⟨rfl, rfl⟩

theorem zero34 (w : World) : (zeroValue 34).run Try.prog w = .ok (.int .u64 0) w := by kernel_rfl
set_option maxRecDepth 100000 in
set_option maxHeartbeats 2000000 in
theorem variable_spec {w : World} {S : Blk} {Γ : List Asn} {p h a m most : Nat} {st : St} {v : Value} {t : Tm} {A : Option Addr} {cap : Nat} (hO : Ok w S (LayG p h a m most st v Γ)) (hT : TmC w S [.int .i64 t.k, .string t.s, .int .i64 t.n, .int .u64 t.re, .int .u64 t.im, .slice A t.xs.length cap] t)
    (own : Int) (ho1 : -1 ≤ own) (ho2 : own ≤ 1048576) (ld : Bool) (cc : Int) :
    Calls Try.prog 120 #[.pointer (some ⟨p, 0, none⟩), .agg #[.int .i64 t.k, .string t.s, .int .i64 t.n, .int .u64 t.re, .int .u64 t.im, .slice A t.xs.length cap, .int .i64 own, .bool ld, .int .u64 cc]] w fun e w' =>
      e = .returned (.tuple #[.int .u64 (varP most t.n own st).1.1, .int .i64 (varP most t.n own st).1.2]) ∧ To w S w' S (LayG p h a m most (varP most t.n own st).2 v Γ) := by
  obtain ⟨C, L, V⟩ := st
  obtain ⟨k, s, n, re, im, xs⟩ := t
  simp only [Tm.k, Tm.s, Tm.n, Tm.re, Tm.im, Tm.xs] at *
  clear hT
  have hp0 : w.cell? ⟨p, 0, none⟩ = some (.pointer (some ⟨h, 0, none⟩)) := hO.p3.ptCell 0 _ rfl
  have hp2 : w.cell? ⟨p, 2, none⟩ = some (.map (some m)) := hO.p3.ptCell 2 _ rfl
  have hplt := hO.p3.ptLt
  have hal := hO.to.allocPt #[.int .i64 k, .string s, .int .i64 n, .int .u64 re, .int .u64 im, .slice A xs.length cap, .int .i64 own, .bool ld, .int .u64 cc] 127
  have hlk := fun q => hal.ok.p3.look (P := Try.prog) (key_int .i64) Try.underlying52 Try.underlying2 zero34 n true q
  unfold varP
  cases hq : lk V n with
  | some c =>
    simp only [hq]
    rw [hq] at hlk
    have hlk' : ∀ q, (Instr.lookup 52 (.map (some m)) (.int .i64 n) true).run Try.prog ((w.alloc (.cells #[.int .i64 k, .string s, .int .i64 n, .int .u64 re, .int .u64 im, .slice A xs.length cap, .int .i64 own, .bool ld, .int .u64 cc] 127)).drewN q) = .ok (.tuple #[.int .u64 (c : Nat), .bool true]) ((w.alloc (.cells #[.int .i64 k, .string s, .int .i64 n, .int .u64 re, .int .u64 im, .slice A xs.length cap, .int .i64 own, .bool ld, .int .u64 cc] 127)).drewN q) := hlk
    have H := Lib.hid hal; clear hO hlk hq hal
    go_enter Try.func120, Try.ntmps120
    go_wp2
    go_quiet (fail)
    go_wp2
    go_ret2
    exact ⟨rfl, (H.out.drewN _).drop⟩
  | none =>
    simp only [hq]
    rw [hq] at hlk
    have hlk' : ∀ q, (Instr.lookup 52 (.map (some m)) (.int .i64 n) true).run Try.prog ((w.alloc (.cells #[.int .i64 k, .string s, .int .i64 n, .int .u64 re, .int .u64 im, .slice A xs.length cap, .int .i64 own, .bool ld, .int .u64 cc] 127)).drewN q) = .ok (.tuple #[.int .u64 0, .bool false]) ((w.alloc (.cells #[.int .i64 k, .string s, .int .i64 n, .int .u64 re, .int .u64 im, .slice A xs.length cap, .int .i64 own, .bool ld, .int .u64 cc] 127)).drewN q) := hlk
    have H := Lib.hid hal; clear hO hlk hq hal
    by_cases hown : own < 0
    · by_cases hf : C.length < most
      · rw [if_pos hown, if_pos hf]
        have hm := H.out.ok.p1.heapAR.2.2.1
        have HC : C.length ≤ 1048576 := by omega
        go_enter Try.func120, Try.ntmps120
        go_wp2
        go_quiet (fail)
        go_wp2_with (go_at_call 82; refine (var_ok (H.out.drewN _).ok.p1 hf).mono ?_; rintro e w' ⟨rfl, h2⟩)
        have h3 := ((H.out.drewN nq).p1.trans h2).p3
        obtain ⟨w1, hr, hT⟩ := h3.drew.ok.mapPut (P := Try.prog) (key_int .i64) Try.underlying52 Try.underlying2 n (mkc 0 C.length)
        have hrun : (Instr.mapUpdate 52 (.map (some m)) (.int .i64 n) (.int .u64 ((mkc 0 C.length : Nat) : Int))).run Try.prog w'.drew = .ok () w1 := hr
        have f0 : w'.cell? ⟨p, 2, none⟩ = some (.map (some m)) := h3.ok.p4.ptCell 2 _ rfl
        have f1 : w'.cell? ⟨w.heap.size, 2, none⟩ = some (.int .i64 n) := h3.ok.p2.ptCell 2 _ rfl
        have f2 : w'.cell? ⟨p, 0, none⟩ = some (.pointer (some ⟨h, 0, none⟩)) := h3.ok.p4.ptCell 0 _ rfl
        have hT2 := h3.drew.trans hT
        have k0 : w1.cell? ⟨p, 2, none⟩ = some (.map (some m)) := hT2.ok.p4.ptCell 2 _ rfl
        have k1 : w1.cell? ⟨w.heap.size, 2, none⟩ = some (.int .i64 n) := hT2.ok.p2.ptCell 2 _ rfl
        have HT := Lib.hid hT2; clear h3 hT hT2 hr h2 hlk'
        go_wp2_with fail
        go_region_held3 (fun W => W.cell? ⟨p, 2, none⟩ = some (.map (some m)) ∧ W.cell? ⟨w.heap.size, 2, none⟩ = some (.int .i64 n)) (go_keep) (first | (go_at_call 158; refine (ref_spec C.length rfl HC _).mono ?_; rintro e w' ⟨rfl, rfl⟩))
        go_wp2_with (go_at_call 158; refine (ref_spec C.length rfl HC _).mono ?_; rintro e w' ⟨rfl, rfl⟩)
        go_ret2
        exact ⟨rfl, HT.out.p2.drop.p2.p2⟩
      · rw [if_pos hown, if_neg hf]
        have hr' := H.out.ok.p1.heapAR
        have hm : C.length = most := by have h9 : C.length ≤ most := hr'.2.2.2.1; omega
        have HR' := Lib.hid hr'; clear hr'
        have HM := Lib.hid hm; clear hm hf
        go_enter Try.func120, Try.ntmps120
        go_wp2
        go_quiet (fail)
        go_wp2_with (go_at_call 82; refine (var_full (HR'.out.drewN _) HM.out).mono ?_; rintro e w' ⟨rfl, q2, rfl⟩)
        go_ret2
        exact ⟨rfl, (H.out.drewN _).drop⟩
    · obtain ⟨o, rfl⟩ : ∃ o : Nat, own = o := ⟨own.toNat, by omega⟩
      have ho : o ≤ 1048576 := by omega
      rw [if_neg hown, Int.toNat_natCast]
      clear hown
      go_enter Try.func120, Try.ntmps120
      go_wp2
      go_quiet (fail)
      have h3 := (H.out.drewN nq).p3
      generalize (w.alloc (.cells #[.int .i64 k, .string s, .int .i64 n, .int .u64 re, .int .u64 im, .slice A xs.length cap, .int .i64 (o : Int), .bool ld, .int .u64 cc] 127)).drewN nq = W at h3 ⊢
      have g0 : W.cell? ⟨p, 2, none⟩ = some (.map (some m)) := h3.ok.p4.ptCell 2 _ rfl
      have g1 : W.cell? ⟨w.heap.size, 2, none⟩ = some (.int .i64 n) := h3.ok.p1.ptCell 2 _ rfl
      have g2 : W.cell? ⟨w.heap.size, 6, none⟩ = some (.int .i64 (o : Int)) := h3.ok.p1.ptCell 6 _ rfl
      obtain ⟨w1, hr, hT⟩ := h3.drew.ok.mapPut (P := Try.prog) (key_int .i64) Try.underlying52 Try.underlying2 n (mkc 0 o)
      have hrun : (Instr.mapUpdate 52 (.map (some m)) (.int .i64 n) (.int .u64 ((mkc 0 o : Nat) : Int))).run Try.prog W.drew = .ok () w1 := hr
      have hT2 := h3.drew.trans hT
      have k0 : w1.cell? ⟨p, 2, none⟩ = some (.map (some m)) := hT2.ok.p4.ptCell 2 _ rfl
      have k1 : w1.cell? ⟨w.heap.size, 2, none⟩ = some (.int .i64 n) := hT2.ok.p1.ptCell 2 _ rfl
      have HT := Lib.hid hT2; clear h3 hT hT2 hr hlk'
      go_wp2_with fail
      go_region_held3 (fun W => W.cell? ⟨p, 2, none⟩ = some (.map (some m)) ∧ W.cell? ⟨w.heap.size, 2, none⟩ = some (.int .i64 n)) (go_keep) (first | (go_at_call 158; refine (ref_spec o rfl ho _).mono ?_; rintro e w' ⟨rfl, rfl⟩))
      go_wp2_with (go_at_call 158; refine (ref_spec o rfl ho _).mono ?_; rintro e w' ⟨rfl, rfl⟩)
      go_ret2
      trace_state
      exact ⟨rfl, HT.out.p1.drop.p2.p2⟩
end Go.Proofs.Ytceahdlcbiialaa
