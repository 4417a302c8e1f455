/- The functions of the layer: the cell of a term. What May lets by: its size, its parts. The stack's weight. No condition. -/
import Derived.Test.YtceahdlcbiialaaF5M12
import Derived.Test.YtceahdlcbiialaaF5M11
import Derived.Test.YtceahdlcbiialaaF5M7
set_option linter.unusedVariables false
set_option linter.unusedSimpArgs false
namespace Go.Proofs.Ytceahdlcbiialaa
open Go.RowKit

set_option maxRecDepth 100000 in
set_option maxHeartbeats 4000000 in
theorem cell_leaf {w : World} {S : Blk} {Γ : List Asn} {p h a m most : Nat} {st : St} {v : Value} {k : Int} {s : ByteArray} {n re im : Int} {xs : List Tm} {A : Option Addr} {cap : Nat} (hO : Ok w S (LayG p h a m most st v Γ))
    (hT : TmC w S [.int .i64 k, .string s, .int .i64 n, .int .u64 re, .int .u64 im, .slice A xs.length cap] (.mk k s n re im xs)) (own : Int) (ho1 : -1 ≤ own) (ho2 : own ≤ 1048576) (h1 : 1 ≤ k) (h5 : k < 5) :
    Calls Try.prog 87 #[.pointer (some ⟨p, 0, none⟩), .agg #[.int .i64 k, .string s, .int .i64 n, .int .u64 re, .int .u64 im, .slice A xs.length cap, .int .i64 own, .bool false, .int .u64 0]] w fun e w' =>
      e = .returned (.tuple #[.int .u64 (leaf most (.mk k s n re im []) own st).1.1, .int .i64 (leaf most (.mk k s n re im []) own st).1.2]) ∧ To w S w' S (LayG p h a m most (leaf most (.mk k s n re im []) own st).2 v Γ) := by
  obtain ⟨_, _, e0, hrg, -⟩ := hT.form
  clear e0
  simp only [Ranged, Tm.k, Tm.s, Tm.n, Tm.re, Tm.im, Tm.xs] at hrg
  obtain ⟨hk, hsz, hn, hre, him, hxl⟩ := hrg
  have hp0 : w.cell? ⟨p, 0, none⟩ = some (.pointer (some ⟨h, 0, none⟩)) := hO.p3.ptCell 0 _ rfl
  have hp1 : w.cell? ⟨p, 1, none⟩ = some (.pointer (some ⟨a, 0, none⟩)) := hO.p3.ptCell 1 _ rfl
  have hplt := hO.p3.ptLt
  have hnames := hO.p1.atomsAR.2
  have HNM := Lib.hid hnames; clear hnames
  have H := Lib.hid hO; clear hO
  have HT := Lib.hid hT; clear hT
  generalize hq : leaf most (.mk k s n re im []) own st = q
  have HQ := Lib.hid hq; clear hq
  by_cases k1 : k = 1
  · subst k1
    go_enter Try.func87, Try.ntmps87
    go_wp2_with (go_at_call 120; refine (variable_spec (t := .mk 1 s n re im xs) (H.out.to.alloc _).ok (HT.out.to (H.out.to.alloc _)) own ho1 ho2 false 0).mono ?_; rintro e w' ⟨rfl, hw⟩)
    go_ret2
    rw [← HQ.out]
    exact ⟨rfl, (H.out.to.alloc _).trans hw⟩
  by_cases k2 : k = 2
  · subst k2
    have hal := H.out.to.alloc (.cells #[.int .i64 2, .string s, .int .i64 n, .int .u64 re, .int .u64 im, .slice A xs.length cap, .int .i64 own, .bool false, .int .u64 0] 127)
    rcases hnm : number st.L s with ⟨⟨nb, ne⟩, L2⟩
    have hnb := number_lt HNM.out s hnm
    have hnum := number_spec (hal.drew.p1).ok s (by omega)
    rw [hnm] at hnum
    have HN := Lib.hid hnum; clear hnum
    have HAL := Lib.hid hal; clear hal
    have hq2 : q = ((mkc 2 nb, ne), ⟨st.C, L2, st.V⟩) := by rw [← HQ.out]; simp [leaf, Tm.k, Tm.s, hnm]
    have HQ2 := Lib.hid hq2; clear hq2 hnm
    go_enter Try.func87, Try.ntmps87
    go_wp2
    have c0 : ((w.alloc (.cells #[.int .i64 2, .string s, .int .i64 n, .int .u64 re, .int .u64 im, .slice A xs.length cap, .int .i64 own, .bool false, .int .u64 0] 127)).drew).cell? ⟨p, 1, none⟩ = some (.pointer (some ⟨a, 0, none⟩)) := HAL.out.drew.ok.p3.ptCell 1 _ rfl
    have c1 : ((w.alloc (.cells #[.int .i64 2, .string s, .int .i64 n, .int .u64 re, .int .u64 im, .slice A xs.length cap, .int .i64 own, .bool false, .int .u64 0] 127)).drew).cell? ⟨w.heap.size, 1, none⟩ = some (.string s) := by simp [go_sem]
    go_region_with (first | (go_at_call 46; refine HN.out.mono ?_; rintro e w' ⟨rfl, h2⟩))
    all_goals go_wp2_with (go_at_call 118; refine (make_spec 2 nb (by simp) (by simp) (by omega) (by omega) _).mono ?_; rintro e w'' ⟨rfl, hww⟩; subst w'')
    all_goals
      go_ret2
      rw [HQ2.out]
      exact ⟨rfl, (HAL.out.drew.trans h2).p1⟩
  by_cases k3 : k = 3
  · subst k3
    by_cases hsm : smallOk n = true
    · have hq2 : q = ((small n, 0), st) := by rw [← HQ.out]; simp [leaf, Tm.k, Tm.n, hsm]
      have HQ2 := Lib.hid hq2; clear hq2
      have HSM := Lib.hid hsm; clear hsm
      go_enter Try.func87, Try.ntmps87
      go_wp2_with (go_at_call 121; refine (small_yes n HSM.out _).mono ?_; rintro e w' ⟨rfl, hww⟩; subst w')
      go_ret2
      rw [HQ2.out]
      exact ⟨rfl, H.out.to.alloc _⟩
    · have hsm' : smallOk n = false := by simpa using hsm
      have hq2 : q = wordsP most 4 [u64 n] st := by rw [← HQ.out]; simp [leaf, Tm.k, Tm.n, hsm']
      have HQ2 := Lib.hid hq2; clear hq2 hsm
      have HSM := Lib.hid hsm'; clear hsm'
      have hu := u64_wrap n
      go_enter Try.func87, Try.ntmps87
      have h1 := (H.out.to.alloc (.cells #[.int .i64 3, .string s, .int .i64 n, .int .u64 re, .int .u64 im, .slice A xs.length cap, .int .i64 own, .bool false, .int .u64 0] 127)).allocPt #[.int .u64 (u64 n : Nat)] 22
      have h2 := h1.trans h1.ok.seal1
      clear h1
      simp only [World.size_alloc] at h2
      have hc : ((w.alloc (.cells #[.int .i64 3, .string s, .int .i64 n, .int .u64 re, .int .u64 im, .slice A xs.length cap, .int .i64 own, .bool false, .int .u64 0] 127)).alloc (.cells #[.int .u64 (u64 n : Nat)] 22)).cell? ⟨w.heap.size + 1, 0, none⟩ = some (.int .u64 (u64 n : Nat)) := by simp [go_sem]
      have hwd := words_spec (cap := 1) h2.ok 4 (by omega) (l := [u64 n]) (by simp [u64_lt]) (A := some ⟨w.heap.size + 1, 0, none⟩) (fun i x hx => by
        have hlt := (List.getElem?_eq_some_iff.1 hx).1
        simp at hlt
        subst hlt
        simp at hx
        subst hx
        exact ⟨_, rfl, .inr rfl, rfl, hc⟩) (by simp)
      have HW := Lib.hid hwd; clear hwd hc
      have H2 := Lib.hid h2; clear h2
      go_wp2_with (first | (go_at_call 121; refine (small_no n HSM.out _).mono ?_; rintro e w' ⟨rfl, hww⟩; subst w') | (go_at_call 122; refine HW.out.mono ?_; rintro e w' ⟨rfl, h3⟩))
      go_ret2
      rw [HQ2.out]
      exact ⟨rfl, (H2.out.trans h3).plain⟩
  obtain rfl : k = 4 := by omega
  have hq2 : q = wordsP most 5 [re.toNat, im.toNat] st := by rw [← HQ.out]; simp [leaf, Tm.k, Tm.re, Tm.im]
  have HQ2 := Lib.hid hq2; clear hq2
  obtain ⟨r1, rfl⟩ : ∃ r1 : Nat, re = r1 := ⟨re.toNat, by omega⟩
  obtain ⟨i1, rfl⟩ : ∃ i1 : Nat, im = i1 := ⟨im.toNat, by omega⟩
  simp only [Int.toNat_natCast] at HQ2
  go_enter Try.func87, Try.ntmps87
  have h1 := (H.out.to.alloc (.cells #[.int .i64 4, .string s, .int .i64 n, .int .u64 r1, .int .u64 i1, .slice A xs.length cap, .int .i64 own, .bool false, .int .u64 0] 127)).allocPt #[.int .u64 r1, .int .u64 i1] 22
  have h2 := h1.trans h1.ok.seal1
  clear h1
  simp only [World.size_alloc] at h2
  have hc0 : ((w.alloc (.cells #[.int .i64 4, .string s, .int .i64 n, .int .u64 r1, .int .u64 i1, .slice A xs.length cap, .int .i64 own, .bool false, .int .u64 0] 127)).alloc (.cells #[.int .u64 r1, .int .u64 i1] 22)).cell? ⟨w.heap.size + 1, 0, none⟩ = some (.int .u64 r1) := by simp [go_sem]
  have hc1 : ((w.alloc (.cells #[.int .i64 4, .string s, .int .i64 n, .int .u64 r1, .int .u64 i1, .slice A xs.length cap, .int .i64 own, .bool false, .int .u64 0] 127)).alloc (.cells #[.int .u64 r1, .int .u64 i1] 22)).cell? ⟨w.heap.size + 1, 1, none⟩ = some (.int .u64 i1) := by simp [go_sem]
  have hwd := words_spec (cap := 2) h2.ok 5 (by omega) (l := [r1, i1]) (by simp; omega) (A := some ⟨w.heap.size + 1, 0, none⟩) (fun i x hx => by
    have hlt := (List.getElem?_eq_some_iff.1 hx).1
    simp at hlt
    refine ⟨_, rfl, .inr rfl, by rw [add0], ?_⟩
    rw [add0]
    match i, hlt with
    | 0, _ => simp at hx; subst hx; exact hc0
    | 1, _ => simp at hx; subst hx; exact hc1) (by simp)
  have HW := Lib.hid hwd; clear hwd hc0 hc1
  have H2 := Lib.hid h2; clear h2
  go_wp2_with (go_at_call 122; refine HW.out.mono ?_; rintro e w' ⟨rfl, h3⟩)
  go_ret2
  rw [HQ2.out]
  exact ⟨rfl, (H2.out.trans h3).plain⟩

set_option maxRecDepth 100000 in
set_option maxHeartbeats 4000000 in
theorem cell_comp {w : World} {S : Blk} {Γ : List Asn} {p h a m most : Nat} {st : St} {v : Value} {s : ByteArray} {n re im : Int} {xs : List Tm} {A : Option Addr} {cap : Nat} {stk : List Ti}
    (hO : Ok w S (LayG p h a m most st v (Row v 127 9 stk.length (tiV stk) :: Γ))) (hT : TmC w S [.int .i64 5, .string s, .int .i64 n, .int .u64 re, .int .u64 im, .slice A xs.length cap] (.mk 5 s n re im xs))
    (own : Int) (ho1 : -1 ≤ own) (ho2 : own ≤ 1048576) (hx1 : 1 ≤ xs.length) (hx2 : xs.length ≤ 20) (hstk : stk.length ≤ 100000) :
    Calls Try.prog 87 #[.pointer (some ⟨p, 0, none⟩), .agg #[.int .i64 5, .string s, .int .i64 n, .int .u64 re, .int .u64 im, .slice A xs.length cap, .int .i64 own, .bool false, .int .u64 0]] w (CompQ w S Γ p h a m most xs own stk (opn most s xs.length st)) := by
  have hal := hO.to.alloc (.cells #[.int .i64 5, .string s, .int .i64 n, .int .u64 re, .int .u64 im, .slice A xs.length cap, .int .i64 own, .bool false, .int .u64 0] 127)
  have hcs := compound_spec hal.ok (hT.to hal) own ho1 ho2 hx1 hx2 hstk
  generalize opn most s xs.length st = oo at hcs ⊢
  have HC := Lib.hid hcs; clear hcs
  have HAL := Lib.hid hal; clear hal
  have HT := Lib.hid hT; clear hT hO
  go_enter Try.func87, Try.ntmps87
  go_wp2_with (go_at_call 123; refine HC.out.mono ?_; rintro e w' ⟨v2, l, c, rfl, q1, q2, q3⟩)
  go_ret2
  refine ⟨v2, l, c, rfl, q1, fun i hi => (q2 i hi).imp id fun h => ?_, HAL.out.trans q3⟩
  cases i with
  | tm t A cap i => exact ⟨h.1.back HAL.out, h.2⟩
  | cl c i => exact h
end Go.Proofs.Ytceahdlcbiialaa
set_option linter.unusedVariables false
set_option linter.unusedSimpArgs false
namespace Go.Proofs.Ytceahdlcbiialaa

mutual
def nodes : Tm → Nat
  | .mk k _ _ _ _ xs => 1 + (if k = 5 then nodesL xs else 0)
def nodesL : List Tm → Nat
  | [] => 0
  | t :: r => nodes t + nodesL r
end
mutual
def good : Tm → Prop
  | .mk k s n re im xs => one (.mk k s n re im xs) = 0 ∧ (k = 5 → goodL xs)
def goodL : List Tm → Prop
  | [] => True
  | t :: r => good t ∧ goodL r
end
mutual
theorem may_zero : ∀ (t : Tm) (d c c' : Nat), c ≤ 2000 → may t d (c, 0) = (c', 0) → c' = c + nodes t ∧ good t ∧ c' ≤ 2000
  | .mk k s n re im xs, d, c, c', hc, h => by
    rw [may_eq, if_neg (by simp)] at h
    split at h
    · simp at h
    · rename_i h1
      split at h
      · rename_i h2
        simp only [Prod.mk.injEq] at h
        exact absurd h.2 h2
      · rename_i h2
        simp only [ne_eq, Decidable.not_not] at h2
        by_cases h5 : k = 5
        · rw [if_pos h5] at h
          obtain ⟨e1, e2, e3⟩ := mayL_zero xs (d + 1) (c + 1) c' (by omega) h
          refine ⟨?_, ⟨h2, fun _ => e2⟩, e3⟩
          simp only [nodes, h5, if_true]
          omega
        · rw [if_neg h5] at h
          simp only [Prod.mk.injEq, and_true] at h
          refine ⟨?_, ⟨h2, fun h => absurd h h5⟩, by omega⟩
          simp only [nodes, if_neg h5]
          omega
theorem mayL_zero : ∀ (l : List Tm) (d c c' : Nat), c ≤ 2000 → mayL l d (c, 0) = (c', 0) → c' = c + nodesL l ∧ goodL l ∧ c' ≤ 2000
  | [], d, c, c', hc, h => by
    simp only [mayL, Prod.mk.injEq, and_true] at h
    exact ⟨by simp [nodesL]; omega, trivial, by omega⟩
  | t :: r, d, c, c', hc, h => by
    simp only [mayL] at h
    rcases hm : may t d (c, 0) with ⟨c1, e1⟩
    rw [hm] at h
    by_cases he : e1 = 0
    · subst he
      obtain ⟨a1, a2, a3⟩ := may_zero t d c c1 hc hm
      obtain ⟨b1, b2, b3⟩ := mayL_zero r d c1 c' a3 h
      exact ⟨by simp [nodesL]; omega, ⟨a2, b2⟩, b3⟩
    · rw [mayL_err _ _ _ _ he] at h
      simp only [Prod.mk.injEq] at h
      exact absurd h.2 he
end
theorem May_zero {t : Tm} (h : May t = 0) : nodes t ≤ 2000 ∧ good t := by
  unfold May at h
  obtain ⟨a, b, c⟩ := may_zero t 1 0 (may t 1 (0, 0)).1 (by omega) (Prod.ext rfl h)
  exact ⟨by omega, b⟩
theorem nodes_pos (t : Tm) : 1 ≤ nodes t := by cases t; simp [nodes]
theorem goodL_mem : ∀ {l : List Tm}, goodL l → ∀ t ∈ l, good t
  | _ :: _, ⟨h1, h2⟩, t, ht => by
    rcases List.mem_cons.1 ht with rfl | ht
    · exact h1
    · exact goodL_mem h2 t ht
theorem number_lt' {l : List ByteArray} (h : Names l) (s : ByteArray) {n e : Nat} {l' : List ByteArray} (hn : number l s = ((n, e), l')) : n ≤ 4096 := by
  unfold number at hn
  split at hn
  · simp only [Prod.mk.injEq] at hn; omega
  · cases hp : place l s 0 with
    | some i =>
      rw [hp] at hn
      simp only [Prod.mk.injEq] at hn
      have := (place_lt s l 0 i hp).2
      have := h.1
      omega
    | none =>
      rw [hp] at hn
      simp only at hn
      have := h.1
      split at hn
      · simp only [Prod.mk.injEq] at hn; omega
      · simp only [Prod.mk.injEq] at hn; omega
/-- What is left to do. -/
def Td.weight : Td → Nat
  | .tm t _ => 2 * nodes t
  | .cl _ _ => 1
def weight (l : List Td) : Nat := (l.map Td.weight).sum
def Td.good : Td → Prop
  | .tm t _ => Ytceahdlcbiialaa.good t
  | .cl _ _ => True
theorem weight_cons (x : Td) (l : List Td) : weight (x :: l) = x.weight + weight l := by simp [weight]
theorem weight_tds (xs : List Tm) : ∀ i, weight (tds xs i) = 2 * nodesL xs := by
  induction xs with
  | nil => intro i; rfl
  | cons t r ih =>
    intro i
    have e : tds (t :: r) i = .tm t (i : Int) :: tds r (i + 1) := rfl
    rw [e, weight_cons, ih, nodesL]
    simp only [Td.weight]
    omega
theorem weight_append (l r : List Td) : weight (l ++ r) = weight l + weight r := by simp [weight]
theorem weight_len : ∀ l : List Td, l.length ≤ weight l
  | [] => Nat.zero_le _
  | x :: l => by
    have := weight_len l
    rw [weight_cons, List.length_cons]
    have : 1 ≤ x.weight := by
      cases x with
      | tm t i => simp only [Td.weight]; have := nodes_pos t; omega
      | cl c i => exact Nat.le_refl _
    omega
theorem good_tds (xs : List Tm) (h : goodL xs) : ∀ i, ∀ x ∈ tds xs i, x.good := by
  intro i x hx
  simp only [tds, List.mem_map] at hx
  obtain ⟨⟨t, j⟩, ht, rfl⟩ := hx
  exact goodL_mem h t (by simpa using (List.mem_zipIdx ht).2.2 ▸ List.getElem_mem _)
/-- The variables' cells are cells. -/
def VOk (V : List (Int × Nat)) : Prop := ∀ x ∈ V, x.2 < 18446744073709551616
theorem lk_mem {α β : Type} [DecidableEq α] : ∀ {l : List (α × β)} {a : α} {b : β}, lk l a = some b → ∃ x ∈ l, x.2 = b
  | (a', b') :: l, a, b, h => by
    unfold lk at h
    split at h
    · cases h; exact ⟨_, List.mem_cons_self .., rfl⟩
    · obtain ⟨x, hx, e⟩ := lk_mem h
      exact ⟨x, List.mem_cons_of_mem _ hx, e⟩
theorem VOk.up {V : List (Int × Nat)} (h : VOk V) (n : Int) (c : Nat) (hc : c < 18446744073709551616) : VOk (up V n c) := by
  induction V with
  | nil => intro x hx; simp [Ytceahdlcbiialaa.up] at hx; subst hx; exact hc
  | cons p l ih =>
    intro x hx
    unfold Ytceahdlcbiialaa.up at hx
    split at hx
    · rcases List.mem_cons.1 hx with rfl | hx
      · exact hc
      · exact h x (List.mem_cons_of_mem _ hx)
    · rcases List.mem_cons.1 hx with rfl | hx
      · exact h _ (List.mem_cons_self ..)
      · exact ih (fun y hy => h y (List.mem_cons_of_mem _ hy)) x hx
theorem leaf_ok {most : Nat} {t : Tm} {own : Int} {st : St} (hC : st.C.length ≤ 1048576) (hL : Names st.L) (ho : own ≤ 1048576) (hV : VOk st.V) : (leaf most t own st).1.1 < 18446744073709551616 ∧ VOk (leaf most t own st).2.V := by
  have hw : ∀ tag l, tag < 8 → (wordsP most tag l st).1.1 < 18446744073709551616 ∧ VOk (wordsP most tag l st).2.V := by
    intro tag l ht
    unfold wordsP
    split
    · exact ⟨mkc_lt _ _ ht (by omega), hV⟩
    · exact ⟨by simp, hV⟩
  unfold leaf
  split
  · unfold varP
    split
    · rename_i c hc
      obtain ⟨x, hx, rfl⟩ := lk_mem hc
      exact ⟨hV x hx, hV⟩
    · split
      · split
        · exact ⟨mkc_lt _ _ (by omega) (by omega), hV.up _ _ (mkc_lt _ _ (by omega) (by omega))⟩
        · exact ⟨by simp, hV⟩
      · exact ⟨mkc_lt _ _ (by omega) (by omega), hV.up _ _ (mkc_lt _ _ (by omega) (by omega))⟩
  · split
    · refine ⟨?_, hV⟩
      rcases hn : number st.L t.s with ⟨⟨a, b⟩, l⟩
      have := number_lt' hL t.s hn
      exact mkc_lt _ _ (by omega) (by simp only; omega)
    · split
      · split
        · exact ⟨small_lt _, hV⟩
        · exact hw 4 _ (by omega)
      · exact hw 5 _ (by omega)
theorem opn_V (most : Nat) (s : ByteArray) (n : Nat) (st : St) : (opn most s n st).2.V = st.V := by
  unfold opn
  split <;> (try split) <;> (try split) <;> rfl
/-- What Put answers. -/
def putP (most : Nat) (t : Tm) (st : St) : (Nat × Nat) × St := if May t ≠ 0 then ((0, May t), st) else fin most [.tm t (-1)] 0 st
end Go.Proofs.Ytceahdlcbiialaa
