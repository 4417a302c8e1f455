/- What May lets by: its size, its parts. The stack's weight. No condition. -/
import Derived.Test.YtceahdlcbiialaaB2
import Derived.Test.YtceahdlcbiialaaC9
set_option linter.unusedVariables false
set_option linter.unusedSimpArgs false
namespace Go.Proofs.Ytceahdlcbiialaa

mutual
def nodes : Tm → Nat
  | .mk k _ _ _ _ xs => 1 + (if k = 5 then nodesL xs else 0)
def nodesL : List Tm → Nat
  | [] => 0
  | t :: r => nodes t + nodesL r
end
mutual
def good : Tm → Prop
  | .mk k s n re im xs => one (.mk k s n re im xs) = 0 ∧ (k = 5 → goodL xs)
def goodL : List Tm → Prop
  | [] => True
  | t :: r => good t ∧ goodL r
end
mutual
theorem may_zero : ∀ (t : Tm) (d c c' : Nat), c ≤ 2000 → may t d (c, 0) = (c', 0) → c' = c + nodes t ∧ good t ∧ c' ≤ 2000
  | .mk k s n re im xs, d, c, c', hc, h => by
    rw [may_eq, if_neg (by simp)] at h
    split at h
    · simp at h
    · rename_i h1
      split at h
      · rename_i h2
        simp only [Prod.mk.injEq] at h
        exact absurd h.2 h2
      · rename_i h2
        simp only [ne_eq, Decidable.not_not] at h2
        by_cases h5 : k = 5
        · rw [if_pos h5] at h
          obtain ⟨e1, e2, e3⟩ := mayL_zero xs (d + 1) (c + 1) c' (by omega) h
          refine ⟨?_, ⟨h2, fun _ => e2⟩, e3⟩
          simp only [nodes, h5, if_true]
          omega
        · rw [if_neg h5] at h
          simp only [Prod.mk.injEq, and_true] at h
          refine ⟨?_, ⟨h2, fun h => absurd h h5⟩, by omega⟩
          simp only [nodes, if_neg h5]
          omega
theorem mayL_zero : ∀ (l : List Tm) (d c c' : Nat), c ≤ 2000 → mayL l d (c, 0) = (c', 0) → c' = c + nodesL l ∧ goodL l ∧ c' ≤ 2000
  | [], d, c, c', hc, h => by
    simp only [mayL, Prod.mk.injEq, and_true] at h
    exact ⟨by simp [nodesL]; omega, trivial, by omega⟩
  | t :: r, d, c, c', hc, h => by
    simp only [mayL] at h
    rcases hm : may t d (c, 0) with ⟨c1, e1⟩
    rw [hm] at h
    by_cases he : e1 = 0
    · subst he
      obtain ⟨a1, a2, a3⟩ := may_zero t d c c1 hc hm
      obtain ⟨b1, b2, b3⟩ := mayL_zero r d c1 c' a3 h
      exact ⟨by simp [nodesL]; omega, ⟨a2, b2⟩, b3⟩
    · rw [mayL_err _ _ _ _ he] at h
      simp only [Prod.mk.injEq] at h
      exact absurd h.2 he
end
theorem May_zero {t : Tm} (h : May t = 0) : nodes t ≤ 2000 ∧ good t := by
  unfold May at h
  obtain ⟨a, b, c⟩ := may_zero t 1 0 (may t 1 (0, 0)).1 (by omega) (Prod.ext rfl h)
  exact ⟨by omega, b⟩
theorem nodes_pos (t : Tm) : 1 ≤ nodes t := by cases t; simp [nodes]
theorem goodL_mem : ∀ {l : List Tm}, goodL l → ∀ t ∈ l, good t
  | _ :: _, ⟨h1, h2⟩, t, ht => by
    rcases List.mem_cons.1 ht with rfl | ht
    · exact h1
    · exact goodL_mem h2 t ht
theorem number_lt' {l : List ByteArray} (h : Names l) (s : ByteArray) {n e : Nat} {l' : List ByteArray} (hn : number l s = ((n, e), l')) : n ≤ 4096 := by
  unfold number at hn
  split at hn
  · simp only [Prod.mk.injEq] at hn; omega
  · cases hp : place l s 0 with
    | some i =>
      rw [hp] at hn
      simp only [Prod.mk.injEq] at hn
      have := (place_lt s l 0 i hp).2
      have := h.1
      omega
    | none =>
      rw [hp] at hn
      simp only at hn
      have := h.1
      split at hn
      · simp only [Prod.mk.injEq] at hn; omega
      · simp only [Prod.mk.injEq] at hn; omega
/-- What is left to do. -/
def Td.weight : Td → Nat
  | .tm t _ => 2 * nodes t
  | .cl _ _ => 1
def weight (l : List Td) : Nat := (l.map Td.weight).sum
def Td.good : Td → Prop
  | .tm t _ => Ytceahdlcbiialaa.good t
  | .cl _ _ => True
theorem weight_cons (x : Td) (l : List Td) : weight (x :: l) = x.weight + weight l := by simp [weight]
theorem weight_tds (xs : List Tm) : ∀ i, weight (tds xs i) = 2 * nodesL xs := by
  induction xs with
  | nil => intro i; rfl
  | cons t r ih =>
    intro i
    have e : tds (t :: r) i = .tm t (i : Int) :: tds r (i + 1) := rfl
    rw [e, weight_cons, ih, nodesL]
    simp only [Td.weight]
    omega
theorem weight_append (l r : List Td) : weight (l ++ r) = weight l + weight r := by simp [weight]
theorem weight_len : ∀ l : List Td, l.length ≤ weight l
  | [] => Nat.zero_le _
  | x :: l => by
    have := weight_len l
    rw [weight_cons, List.length_cons]
    have : 1 ≤ x.weight := by
      cases x with
      | tm t i => simp only [Td.weight]; have := nodes_pos t; omega
      | cl c i => exact Nat.le_refl _
    omega
theorem good_tds (xs : List Tm) (h : goodL xs) : ∀ i, ∀ x ∈ tds xs i, x.good := by
  intro i x hx
  simp only [tds, List.mem_map] at hx
  obtain ⟨⟨t, j⟩, ht, rfl⟩ := hx
  exact goodL_mem h t (by simpa using (List.mem_zipIdx ht).2.2 ▸ List.getElem_mem _)
/-- The variables' cells are cells. -/
def VOk (V : List (Int × Nat)) : Prop := ∀ x ∈ V, x.2 < 18446744073709551616
theorem lk_mem {α β : Type} [DecidableEq α] : ∀ {l : List (α × β)} {a : α} {b : β}, lk l a = some b → ∃ x ∈ l, x.2 = b
  | (a', b') :: l, a, b, h => by
    unfold lk at h
    split at h
    · cases h; exact ⟨_, List.mem_cons_self .., rfl⟩
    · obtain ⟨x, hx, e⟩ := lk_mem h
      exact ⟨x, List.mem_cons_of_mem _ hx, e⟩
theorem VOk.up {V : List (Int × Nat)} (h : VOk V) (n : Int) (c : Nat) (hc : c < 18446744073709551616) : VOk (up V n c) := by
  induction V with
  | nil => intro x hx; simp [Ytceahdlcbiialaa.up] at hx; subst hx; exact hc
  | cons p l ih =>
    intro x hx
    unfold Ytceahdlcbiialaa.up at hx
    split at hx
    · rcases List.mem_cons.1 hx with rfl | hx
      · exact hc
      · exact h x (List.mem_cons_of_mem _ hx)
    · rcases List.mem_cons.1 hx with rfl | hx
      · exact h _ (List.mem_cons_self ..)
      · exact ih (fun y hy => h y (List.mem_cons_of_mem _ hy)) x hx
theorem leaf_ok {most : Nat} {t : Tm} {own : Int} {st : St} (hC : st.C.length ≤ 1048576) (hL : Names st.L) (ho : own ≤ 1048576) (hV : VOk st.V) : (leaf most t own st).1.1 < 18446744073709551616 ∧ VOk (leaf most t own st).2.V := by
  have hw : ∀ tag l, tag < 8 → (wordsP most tag l st).1.1 < 18446744073709551616 ∧ VOk (wordsP most tag l st).2.V := by
    intro tag l ht
    unfold wordsP
    split
    · exact ⟨mkc_lt _ _ ht (by omega), hV⟩
    · exact ⟨by simp, hV⟩
  unfold leaf
  split
  · unfold varP
    split
    · rename_i c hc
      obtain ⟨x, hx, rfl⟩ := lk_mem hc
      exact ⟨hV x hx, hV⟩
    · split
      · split
        · exact ⟨mkc_lt _ _ (by omega) (by omega), hV.up _ _ (mkc_lt _ _ (by omega) (by omega))⟩
        · exact ⟨by simp, hV⟩
      · exact ⟨mkc_lt _ _ (by omega) (by omega), hV.up _ _ (mkc_lt _ _ (by omega) (by omega))⟩
  · split
    · refine ⟨?_, hV⟩
      rcases hn : number st.L t.s with ⟨⟨a, b⟩, l⟩
      have := number_lt' hL t.s hn
      exact mkc_lt _ _ (by omega) (by simp only; omega)
    · split
      · split
        · exact ⟨small_lt _, hV⟩
        · exact hw 4 _ (by omega)
      · exact hw 5 _ (by omega)
theorem opn_V (most : Nat) (s : ByteArray) (n : Nat) (st : St) : (opn most s n st).2.V = st.V := by
  unfold opn
  split <;> (try split) <;> (try split) <;> rfl
/-- What Put answers. -/
def putP (most : Nat) (t : Tm) (st : St) : (Nat × Nat) × St := if May t ≠ 0 then ((0, May t), st) else fin most [.tm t (-1)] 0 st
end Go.Proofs.Ytceahdlcbiialaa
