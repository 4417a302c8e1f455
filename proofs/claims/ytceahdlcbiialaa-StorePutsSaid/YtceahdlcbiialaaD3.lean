/- How many cells a term takes: the law's own count. -/
import Derived.Test.YtceahdlcbiialaaD2
set_option linter.unusedVariables false
set_option linter.unusedSimpArgs false
namespace Go.Proofs.Ytceahdlcbiialaa
open Go.RowKit

mutual
def cnt : Tm → Bool → Nat
  | .mk k s n re im xs, top => if k = 3 then (if smallOk n then 0 else 1) else if k = 4 then 2 else if k = 1 then (if top then 1 else 0) else if k = 5 then 1 + xs.length + cntL xs else 0
def cntL : List Tm → Nat
  | [] => 0
  | t :: r => cnt t false + cntL r
end
theorem cntL_drop (l : List Tm) (k : Nat) (t : Tm) (hk : l[k]? = some t) : cntL (l.drop k) = cnt t false + cntL (l.drop (k + 1)) := by
  have hlt := (List.getElem?_eq_some_iff.1 hk).1
  have e : l[k] = t := (List.getElem?_eq_some_iff.1 hk).2
  rw [List.drop_eq_getElem_cons hlt, e, cntL]
def CntS (t : Tm) : Prop := ∀ (w : World) (S : Blk) (Γ : List Asn) (cs : List Value) (bn bw : Nat) (top : Bool) (c : Nat), Ok w S (Pt bn #[.int .i64 (c : Int)] 3 :: Γ) → TmC w S cs t → S bw → w.cell? ⟨bw, 0, none⟩ = some (.func (.func 29) #[] #[.pointer (some ⟨bn, 0, none⟩), .pointer (some ⟨bw, 0, none⟩)]) →
    c + cnt t top ≤ 1000000 → Calls Try.prog 29 #[.agg cs.toArray, .bool top, .pointer (some ⟨bn, 0, none⟩), .pointer (some ⟨bw, 0, none⟩)] w fun e w' => e = .returned (.tuple #[]) ∧ To w S w' S (Pt bn #[.int .i64 ((c + cnt t top : Nat) : Int)] 3 :: Γ)

set_option maxRecDepth 100000 in
set_option maxHeartbeats 4000000 in
theorem cnt_spec (t : Tm) : CntS t := by
  refine Tm.ind (P := CntS) ?_ t
  intro k s n re im xs ih w S Γ cs bn bw top c hO hT hS hf hc
  obtain ⟨A, cap, rfl, hrg, hA⟩ := hT.form
  simp only [Ranged, Tm.k, Tm.s, Tm.n, Tm.re, Tm.im, Tm.xs] at *
  obtain ⟨hk, hsz, hn, hre, him, hxl⟩ := hrg
  have hq0 : w.cell? ⟨bn, 0, none⟩ = some (.int .i64 (c : Int)) := hO.ptCell 0 _ rfl
  have hf0 := hO.ptFree 0
  have hplt := hO.ptLt
  have hwlt := hO.old bw hS
  have IH := Lib.hid ih; clear ih
  have HA := Lib.hid hA; clear hA
  have HO := Lib.hid hO.to
  by_cases k3 : k = 3
  · subst k3
    by_cases hs : smallOk n = true
    · have hv : cnt (.mk 3 s n re im xs) top = 0 := by simp [cnt, hs]
      rw [hv, Nat.add_zero]
      have HS := Lib.hid hs; clear hs hv hc
      go_enter Try.func29, Try.ntmps29
      go_wp2_with (go_at_call 30; refine (rsmall_yes n HS.out _).mono ?_; rintro e w' ⟨rfl, hww⟩; subst w')
      go_end0
      exact ⟨rfl, HO.out.alloc _⟩
    · have hs' : smallOk n = false := by simpa using hs
      have hv : cnt (.mk 3 s n re im xs) top = 1 := by simp [cnt, hs']
      rw [hv] at hc ⊢
      have HS := Lib.hid hs'; clear hs hs' hv
      go_enter Try.func29, Try.ntmps29
      go_wp2_with (go_at_call 30; refine (rsmall_no n HS.out _).mono ?_; rintro e w' ⟨rfl, hww⟩; subst w')
      go_end0
      exact ⟨rfl, (HO.out.ptSet 0 (.int .i64 ((c : Int) + 1))).alloc _⟩
  have b3 : (k == 3) = false := beq_eq_false_iff_ne.2 k3
  by_cases k4 : k = 4
  · subst k4
    have hv : cnt (.mk 4 s n re im xs) top = 2 := by simp [cnt]
    rw [hv] at hc ⊢
    clear hv
    go_enter Try.func29, Try.ntmps29
    go_wp2
    go_end0
    exact ⟨rfl, (HO.out.ptSet 0 (.int .i64 ((c : Int) + 2))).alloc _⟩
  have b4 : (k == 4) = false := beq_eq_false_iff_ne.2 k4
  by_cases k1 : k = 1
  · subst k1
    cases top with
    | true =>
      have hv : cnt (.mk 1 s n re im xs) true = 1 := by simp [cnt]
      rw [hv] at hc ⊢
      clear hv
      go_enter Try.func29, Try.ntmps29
      go_wp2
      go_end0
      exact ⟨rfl, (HO.out.ptSet 0 (.int .i64 ((c : Int) + 1))).alloc _⟩
    | false =>
      have hv : cnt (.mk 1 s n re im xs) false = 0 := by simp [cnt]
      rw [hv] at hc ⊢
      clear hv
      go_enter Try.func29, Try.ntmps29
      go_wp2
      go_end0
      exact ⟨rfl, HO.out.alloc _⟩
  have b1 : (k == 1) = false := beq_eq_false_iff_ne.2 k1
  by_cases k5 : k = 5
  · subst k5
    have hv : cnt (.mk 5 s n re im xs) top = 1 + xs.length + cntL xs := by simp [cnt]
    rw [hv] at hc ⊢
    clear hv b1 b3 b4 k1 k3 k4
    have HO2 := Lib.hid ((HO.out.ptSet 0 (.int .i64 ((c : Int) + (1 + xs.length)))).alloc (.cells #[.int .i64 5, .string s, .int .i64 n, .int .u64 re, .int .u64 im, .slice A xs.length cap] 25))
    go_enter Try.func29, Try.ntmps29
    go_wp2
    clear hq0 hf0
    go_loopw [44] (fun i wr => ∃ (j c' : Nat), i = .int .i64 j ∧ j ≤ xs.length ∧ To w S wr S (Pt bn #[.int .i64 (c' : Int)] 3 :: Γ) ∧ c + (1 + xs.length + cntL xs) = c' + cntL (xs.drop j)) (fun i _ => xs.length - (intOf i).toNat)
    case atStart => exact ⟨0, c + 1 + xs.length, rfl, Nat.zero_le _, by have := HO2.out; simpa [Int.add_assoc] using this, by simp; omega⟩
    case round =>
      obtain ⟨j, c', rfl, hj, hTo, hq⟩ := hrel
      by_cases hlt : j < xs.length
      · have hx : xs[j]? = some xs[j] := List.getElem?_eq_getElem hlt
        rw [cntL_drop _ _ _ hx] at hq
        have IX : CntS xs[j] := IH.out _ (List.getElem_mem _)
        obtain ⟨gb, go, A', cap', rfl, hS', g0, g1, g2, g3, g4, g5, hxT⟩ := HA.out j _ hx
        have f0 := hTo.cell (a := ⟨gb, _, none⟩) hS' g0
        have f1 := hTo.cell (a := ⟨gb, _, none⟩) hS' g1
        have f2 := hTo.cell (a := ⟨gb, _, none⟩) hS' g2
        have f3 := hTo.cell (a := ⟨gb, _, none⟩) hS' g3
        have f4 := hTo.cell (a := ⟨gb, _, none⟩) hS' g4
        have f5 := hTo.cell (a := ⟨gb, _, none⟩) hS' g5
        have f6 := hTo.cell (a := ⟨bw, 0, none⟩) hS hf
        have f7 : bw < wr.heap.size := hTo.ok.old bw hS
        clear g0 g1 g2 g3 g4 g5 hx
        have HX := Lib.hid hxT; clear hxT
        have HTo := Lib.hid hTo; clear hTo
        have HQ := Lib.hid hq; clear hq
        have hal := HTo.out.alloc (.cells #[.int .i64 xs[j].k, .string xs[j].s, .int .i64 xs[j].n, .int .u64 xs[j].re, .int .u64 xs[j].im, .slice A' xs[j].xs.length cap'] 25)
        have hcall := IX _ S Γ _ bn bw false c' hal.ok (HX.out.to hal) hS (hal.cell (a := ⟨bw, 0, none⟩) hS hf) (by have := HQ.out; omega)
        have HCALL := Lib.hid hcall; clear hcall
        have HAL := Lib.hid hal; clear hal
        go_wp2_with (go_at_call 29; refine HCALL.out.mono ?_; rintro e w3 ⟨rfl, h3⟩)
        have H3 := Lib.hid (HAL.out.trans h3); clear h3 f0 f1 f2 f3 f4 f5 f6
        go_roundw
        case rel => exact ⟨j + 1, _, by go_num, by omega, H3.out, by rw [HQ.out]; omega⟩
        case measure => simp [intOf]; omega
      · have hje : j = xs.length := by omega
        have hq' : c + (1 + xs.length + cntL xs) = c' := by rw [hq, hje]; simp [cntL]
        have HQ := Lib.hid hq'; clear hq hq'
        have HTo := Lib.hid hTo; clear hTo
        go_wp2
        go_end0
        exact ⟨rfl, by rw [HQ.out]; exact HTo.out⟩
  · have hv : cnt (.mk k s n re im xs) top = 0 := by simp [cnt, k1, k3, k4, k5]
    have b5 : (k == 5) = false := beq_eq_false_iff_ne.2 k5
    rw [hv, Nat.add_zero]
    clear hv hc
    go_enter Try.func29, Try.ntmps29
    go_wp2
    go_end0
    exact ⟨rfl, HO.out.alloc _⟩
#print axioms cnt_spec
end Go.Proofs.Ytceahdlcbiialaa
