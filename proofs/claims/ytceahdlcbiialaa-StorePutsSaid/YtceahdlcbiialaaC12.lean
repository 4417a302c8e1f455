/- The functions of the layer: the cell of a term. -/
import Derived.Test.YtceahdlcbiialaaC11
set_option linter.unusedVariables false
set_option linter.unusedSimpArgs false
namespace Go.Proofs.Ytceahdlcbiialaa
open Go.RowKit

set_option maxRecDepth 100000 in
set_option maxHeartbeats 4000000 in
theorem cell_leaf {w : World} {S : Blk} {Γ : List Asn} {p h a m most : Nat} {st : St} {v : Value} {k : Int} {s : ByteArray} {n re im : Int} {xs : List Tm} {A : Option Addr} {cap : Nat} (hO : Ok w S (LayG p h a m most st v Γ))
    (hT : TmC w S [.int .i64 k, .string s, .int .i64 n, .int .u64 re, .int .u64 im, .slice A xs.length cap] (.mk k s n re im xs)) (own : Int) (ho1 : -1 ≤ own) (ho2 : own ≤ 1048576) (h1 : 1 ≤ k) (h5 : k < 5) :
    Calls Try.prog 87 #[.pointer (some ⟨p, 0, none⟩), .agg #[.int .i64 k, .string s, .int .i64 n, .int .u64 re, .int .u64 im, .slice A xs.length cap, .int .i64 own, .bool false, .int .u64 0]] w fun e w' =>
      e = .returned (.tuple #[.int .u64 (leaf most (.mk k s n re im []) own st).1.1, .int .i64 (leaf most (.mk k s n re im []) own st).1.2]) ∧ To w S w' S (LayG p h a m most (leaf most (.mk k s n re im []) own st).2 v Γ) := by
  obtain ⟨_, _, e0, hrg, -⟩ := hT.form
  clear e0
  simp only [Ranged, Tm.k, Tm.s, Tm.n, Tm.re, Tm.im, Tm.xs] at hrg
  obtain ⟨hk, hsz, hn, hre, him, hxl⟩ := hrg
  have hp0 : w.cell? ⟨p, 0, none⟩ = some (.pointer (some ⟨h, 0, none⟩)) := hO.p3.ptCell 0 _ rfl
  have hp1 : w.cell? ⟨p, 1, none⟩ = some (.pointer (some ⟨a, 0, none⟩)) := hO.p3.ptCell 1 _ rfl
  have hplt := hO.p3.ptLt
  have hnames := hO.p1.atomsAR.2
  have HNM := Lib.hid hnames; clear hnames
  have H := Lib.hid hO; clear hO
  have HT := Lib.hid hT; clear hT
  generalize hq : leaf most (.mk k s n re im []) own st = q
  have HQ := Lib.hid hq; clear hq
  by_cases k1 : k = 1
  · subst k1
    go_enter Try.func87, Try.ntmps87
    go_wp2_with (go_at_call 120; refine (variable_spec (t := .mk 1 s n re im xs) (H.out.to.alloc _).ok (HT.out.to (H.out.to.alloc _)) own ho1 ho2 false 0).mono ?_; rintro e w' ⟨rfl, hw⟩)
    go_ret2
    rw [← HQ.out]
    exact ⟨rfl, (H.out.to.alloc _).trans hw⟩
  by_cases k2 : k = 2
  · subst k2
    have hal := H.out.to.alloc (.cells #[.int .i64 2, .string s, .int .i64 n, .int .u64 re, .int .u64 im, .slice A xs.length cap, .int .i64 own, .bool false, .int .u64 0] 127)
    rcases hnm : number st.L s with ⟨⟨nb, ne⟩, L2⟩
    have hnb := number_lt HNM.out s hnm
    have hnum := number_spec (hal.drew.p1).ok s (by omega)
    rw [hnm] at hnum
    have HN := Lib.hid hnum; clear hnum
    have HAL := Lib.hid hal; clear hal
    have hq2 : q = ((mkc 2 nb, ne), ⟨st.C, L2, st.V⟩) := by rw [← HQ.out]; simp [leaf, Tm.k, Tm.s, hnm]
    have HQ2 := Lib.hid hq2; clear hq2 hnm
    go_enter Try.func87, Try.ntmps87
    go_wp2
    have c0 : ((w.alloc (.cells #[.int .i64 2, .string s, .int .i64 n, .int .u64 re, .int .u64 im, .slice A xs.length cap, .int .i64 own, .bool false, .int .u64 0] 127)).drew).cell? ⟨p, 1, none⟩ = some (.pointer (some ⟨a, 0, none⟩)) := HAL.out.drew.ok.p3.ptCell 1 _ rfl
    have c1 : ((w.alloc (.cells #[.int .i64 2, .string s, .int .i64 n, .int .u64 re, .int .u64 im, .slice A xs.length cap, .int .i64 own, .bool false, .int .u64 0] 127)).drew).cell? ⟨w.heap.size, 1, none⟩ = some (.string s) := by simp [go_sem]
    go_region_with (first | (go_at_call 46; refine HN.out.mono ?_; rintro e w' ⟨rfl, h2⟩))
    all_goals go_wp2_with (go_at_call 118; refine (make_spec 2 nb (by simp) (by simp) (by omega) (by omega) _).mono ?_; rintro e w'' ⟨rfl, hww⟩; subst w'')
    all_goals
      go_ret2
      rw [HQ2.out]
      exact ⟨rfl, (HAL.out.drew.trans h2).p1⟩
  by_cases k3 : k = 3
  · subst k3
    by_cases hsm : smallOk n = true
    · have hq2 : q = ((small n, 0), st) := by rw [← HQ.out]; simp [leaf, Tm.k, Tm.n, hsm]
      have HQ2 := Lib.hid hq2; clear hq2
      have HSM := Lib.hid hsm; clear hsm
      go_enter Try.func87, Try.ntmps87
      go_wp2_with (go_at_call 121; refine (small_yes n HSM.out _).mono ?_; rintro e w' ⟨rfl, hww⟩; subst w')
      go_ret2
      rw [HQ2.out]
      exact ⟨rfl, H.out.to.alloc _⟩
    · have hsm' : smallOk n = false := by simpa using hsm
      have hq2 : q = wordsP most 4 [u64 n] st := by rw [← HQ.out]; simp [leaf, Tm.k, Tm.n, hsm']
      have HQ2 := Lib.hid hq2; clear hq2 hsm
      have HSM := Lib.hid hsm'; clear hsm'
      have hu := u64_wrap n
      go_enter Try.func87, Try.ntmps87
      have h1 := (H.out.to.alloc (.cells #[.int .i64 3, .string s, .int .i64 n, .int .u64 re, .int .u64 im, .slice A xs.length cap, .int .i64 own, .bool false, .int .u64 0] 127)).allocPt #[.int .u64 (u64 n : Nat)] 22
      have h2 := h1.trans h1.ok.seal1
      clear h1
      simp only [World.size_alloc] at h2
      have hc : ((w.alloc (.cells #[.int .i64 3, .string s, .int .i64 n, .int .u64 re, .int .u64 im, .slice A xs.length cap, .int .i64 own, .bool false, .int .u64 0] 127)).alloc (.cells #[.int .u64 (u64 n : Nat)] 22)).cell? ⟨w.heap.size + 1, 0, none⟩ = some (.int .u64 (u64 n : Nat)) := by simp [go_sem]
      have hwd := words_spec (cap := 1) h2.ok 4 (by omega) (l := [u64 n]) (by simp [u64_lt]) (A := some ⟨w.heap.size + 1, 0, none⟩) (fun i x hx => by
        have hlt := (List.getElem?_eq_some_iff.1 hx).1
        simp at hlt
        subst hlt
        simp at hx
        subst hx
        exact ⟨_, rfl, .inr rfl, rfl, hc⟩) (by simp)
      have HW := Lib.hid hwd; clear hwd hc
      have H2 := Lib.hid h2; clear h2
      go_wp2_with (first | (go_at_call 121; refine (small_no n HSM.out _).mono ?_; rintro e w' ⟨rfl, hww⟩; subst w') | (go_at_call 122; refine HW.out.mono ?_; rintro e w' ⟨rfl, h3⟩))
      go_ret2
      rw [HQ2.out]
      exact ⟨rfl, (H2.out.trans h3).plain⟩
  obtain rfl : k = 4 := by omega
  have hq2 : q = wordsP most 5 [re.toNat, im.toNat] st := by rw [← HQ.out]; simp [leaf, Tm.k, Tm.re, Tm.im]
  have HQ2 := Lib.hid hq2; clear hq2
  obtain ⟨r1, rfl⟩ : ∃ r1 : Nat, re = r1 := ⟨re.toNat, by omega⟩
  obtain ⟨i1, rfl⟩ : ∃ i1 : Nat, im = i1 := ⟨im.toNat, by omega⟩
  simp only [Int.toNat_natCast] at HQ2
  go_enter Try.func87, Try.ntmps87
  have h1 := (H.out.to.alloc (.cells #[.int .i64 4, .string s, .int .i64 n, .int .u64 r1, .int .u64 i1, .slice A xs.length cap, .int .i64 own, .bool false, .int .u64 0] 127)).allocPt #[.int .u64 r1, .int .u64 i1] 22
  have h2 := h1.trans h1.ok.seal1
  clear h1
  simp only [World.size_alloc] at h2
  have hc0 : ((w.alloc (.cells #[.int .i64 4, .string s, .int .i64 n, .int .u64 r1, .int .u64 i1, .slice A xs.length cap, .int .i64 own, .bool false, .int .u64 0] 127)).alloc (.cells #[.int .u64 r1, .int .u64 i1] 22)).cell? ⟨w.heap.size + 1, 0, none⟩ = some (.int .u64 r1) := by simp [go_sem]
  have hc1 : ((w.alloc (.cells #[.int .i64 4, .string s, .int .i64 n, .int .u64 r1, .int .u64 i1, .slice A xs.length cap, .int .i64 own, .bool false, .int .u64 0] 127)).alloc (.cells #[.int .u64 r1, .int .u64 i1] 22)).cell? ⟨w.heap.size + 1, 1, none⟩ = some (.int .u64 i1) := by simp [go_sem]
  have hwd := words_spec (cap := 2) h2.ok 5 (by omega) (l := [r1, i1]) (by simp; omega) (A := some ⟨w.heap.size + 1, 0, none⟩) (fun i x hx => by
    have hlt := (List.getElem?_eq_some_iff.1 hx).1
    simp at hlt
    refine ⟨_, rfl, .inr rfl, by rw [add0], ?_⟩
    rw [add0]
    match i, hlt with
    | 0, _ => simp at hx; subst hx; exact hc0
    | 1, _ => simp at hx; subst hx; exact hc1) (by simp)
  have HW := Lib.hid hwd; clear hwd hc0 hc1
  have H2 := Lib.hid h2; clear h2
  go_wp2_with (go_at_call 122; refine HW.out.mono ?_; rintro e w' ⟨rfl, h3⟩)
  go_ret2
  rw [HQ2.out]
  exact ⟨rfl, (H2.out.trans h3).plain⟩

set_option maxRecDepth 100000 in
set_option maxHeartbeats 4000000 in
theorem cell_comp {w : World} {S : Blk} {Γ : List Asn} {p h a m most : Nat} {st : St} {v : Value} {s : ByteArray} {n re im : Int} {xs : List Tm} {A : Option Addr} {cap : Nat} {stk : List Ti}
    (hO : Ok w S (LayG p h a m most st v (Row v 127 9 stk.length (tiV stk) :: Γ))) (hT : TmC w S [.int .i64 5, .string s, .int .i64 n, .int .u64 re, .int .u64 im, .slice A xs.length cap] (.mk 5 s n re im xs))
    (own : Int) (ho1 : -1 ≤ own) (ho2 : own ≤ 1048576) (hx1 : 1 ≤ xs.length) (hx2 : xs.length ≤ 20) (hstk : stk.length ≤ 100000) :
    Calls Try.prog 87 #[.pointer (some ⟨p, 0, none⟩), .agg #[.int .i64 5, .string s, .int .i64 n, .int .u64 re, .int .u64 im, .slice A xs.length cap, .int .i64 own, .bool false, .int .u64 0]] w (CompQ w S Γ p h a m most xs own stk (opn most s xs.length st)) := by
  have hal := hO.to.alloc (.cells #[.int .i64 5, .string s, .int .i64 n, .int .u64 re, .int .u64 im, .slice A xs.length cap, .int .i64 own, .bool false, .int .u64 0] 127)
  have hcs := compound_spec hal.ok (hT.to hal) own ho1 ho2 hx1 hx2 hstk
  generalize opn most s xs.length st = oo at hcs ⊢
  have HC := Lib.hid hcs; clear hcs
  have HAL := Lib.hid hal; clear hal
  have HT := Lib.hid hT; clear hT hO
  go_enter Try.func87, Try.ntmps87
  go_wp2_with (go_at_call 123; refine HC.out.mono ?_; rintro e w' ⟨v2, l, c, rfl, q1, q2, q3⟩)
  go_ret2
  refine ⟨v2, l, c, rfl, q1, fun i hi => (q2 i hi).imp id fun h => ?_, HAL.out.trans q3⟩
  cases i with
  | tm t A cap i => exact ⟨h.1.back HAL.out, h.2⟩
  | cl c i => exact h
end Go.Proofs.Ytceahdlcbiialaa
