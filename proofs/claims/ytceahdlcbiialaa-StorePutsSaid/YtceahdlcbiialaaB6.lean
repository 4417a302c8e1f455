/- What laying keeps: bounds, lengths. No condition. -/
import Derived.Test.YtceahdlcbiialaaB4
import Derived.Test.YtceahdlcbiialaaC11
set_option linter.unusedVariables false
set_option linter.unusedSimpArgs false
namespace Go.Proofs.Ytceahdlcbiialaa

structure StOk (most : Nat) (st : St) : Prop where
  len : st.C.length ≤ most
  most : most ≤ 1048576
  names : Names st.L
  vars : VOk st.V
theorem number_names {l : List ByteArray} (h : Names l) (s : ByteArray) : Names (number l s).2 := by
  unfold number
  split
  · exact h
  · split
    · exact h
    · split
      · exact h
      · rename_i h1 _ _ h2
        exact h.snoc (by omega) (by have := h.1; omega)
theorem pushAll_le (most : Nat) : ∀ (l C : List Nat), C.length ≤ (pushAll most l C).2.length ∧ (C.length ≤ most → (pushAll most l C).2.length ≤ most)
  | [], C => by simp [pushAll]
  | x :: l, C => by
    unfold pushAll
    split
    · have h := pushAll_le most l (C ++ [x])
      simp at h
      exact ⟨by omega, fun _ => h.2 (by omega)⟩
    · simp
theorem varAll_most (most : Nat) : ∀ (n : Nat) (C : List Nat), C.length ≤ most → (varAll most n C).2.length ≤ most
  | 0, C, h => h
  | n + 1, C, h => by
    unfold varAll
    split
    · exact varAll_most most n _ (by simp; omega)
    · exact h
theorem leaf_len (most : Nat) (t : Tm) (own : Int) (st : St) : st.C.length ≤ (leaf most t own st).2.C.length ∧ (st.C.length ≤ most → (leaf most t own st).2.C.length ≤ most) := by
  have hw : ∀ tag l, st.C.length ≤ (wordsP most tag l st).2.C.length ∧ (st.C.length ≤ most → (wordsP most tag l st).2.C.length ≤ most) := by
    intro tag l
    have := pushAll_le most l st.C
    unfold wordsP
    split <;> exact this
  unfold leaf
  split
  · unfold varP
    split
    · exact ⟨Nat.le_refl _, id⟩
    · split
      · split
        · simp; omega
        · exact ⟨Nat.le_refl _, id⟩
      · exact ⟨Nat.le_refl _, id⟩
  · split
    · exact ⟨Nat.le_refl _, id⟩
    · split
      · split
        · exact ⟨Nat.le_refl _, id⟩
        · exact hw 4 _
      · exact hw 5 _
theorem leaf_names (most : Nat) (t : Tm) (own : Int) (st : St) (h : Names st.L) : Names (leaf most t own st).2.L := by
  have hw : ∀ tag l, Names (wordsP most tag l st).2.L := by
    intro tag l
    unfold wordsP
    split <;> exact h
  unfold leaf
  split
  · unfold varP
    split
    · exact h
    · split
      · split <;> exact h
      · exact h
  · split
    · exact number_names h _
    · split
      · split
        · exact h
        · exact hw 4 _
      · exact hw 5 _
theorem opn_ok {most : Nat} {st : St} (h : StOk most st) (s : ByteArray) (n : Nat) : StOk most (opn most s n st).2 ∧ st.C.length ≤ (opn most s n st).2.C.length ∧ ((opn most s n st).1.2 = 0 → (opn most s n st).1.1 = st.C.length ∧ (opn most s n st).2.C.length = st.C.length + 1 + n) := by
  have hn := number_names h.names s
  unfold opn
  split
  · rename_i h1
    exact ⟨⟨h.len, h.most, hn, h.vars⟩, Nat.le_refl _, fun h => absurd h h1⟩
  · split
    · rename_i h1 h2
      have h3 := varAll_le most n (st.C ++ [fun6 (number st.L s).1.1 n])
      have h4 := varAll_most most n (st.C ++ [fun6 (number st.L s).1.1 n]) (by simp; omega)
      simp only [List.length_append, List.length_singleton] at h3
      split
      · rename_i h5
        refine ⟨⟨h4, h.most, hn, h.vars⟩, by simp only; omega, fun _ => ⟨rfl, ?_⟩⟩
        have h6 := varAll_len most n (st.C ++ [fun6 (number st.L s).1.1 n]) _ (Prod.ext h5 rfl)
        simp at h6 ⊢
        omega
      · rename_i h5
        exact ⟨⟨h4, h.most, hn, h.vars⟩, by simp only; omega, fun h => absurd h h5⟩
    · exact ⟨⟨h.len, h.most, hn, h.vars⟩, Nat.le_refl _, fun h => by simp at h⟩
theorem StOk.at {most : Nat} {st : St} (h : StOk most st) (i c : Nat) : StOk most (st.at i c) := ⟨by simpa [St.at] using h.len, h.most, h.names, h.vars⟩
mutual
theorem lay_ok (most : Nat) : ∀ (t : Tm) (own : Int) (st : St), StOk most st → own ≤ 1048576 → (lay most t own st).1.1 < 18446744073709551616 ∧ StOk most (lay most t own st).2 ∧ st.C.length ≤ (lay most t own st).2.C.length
  | .mk k s n re im xs, own, st, h, ho => by
    unfold lay
    split
    · obtain ⟨h1, h2, h3⟩ := opn_ok h s xs.length
      simp only
      split
      · exact ⟨by simp, h1, h2⟩
      · rename_i h4
        simp only [ne_eq, Decidable.not_not] at h4
        obtain ⟨h5, h6⟩ := h3 h4
        have hb : (opn most s xs.length st).1.1 < 1048577 := by rw [h5]; have := h.len; have := h.most; omega
        have h7 := layL_ok most xs ((opn most s xs.length st).1.1 + 1) _ h1 (by have := h1.len; have := h1.most; omega)
        split
        · exact ⟨by simp, h7.1, by have := h7.2; simp only; omega⟩
        · exact ⟨by simp only [mkc]; omega, h7.1, by have := h7.2; simp only; omega⟩
    · have h1 := leaf_len most (.mk k s n re im []) own st
      have h2 := leaf_ok (most := most) (t := .mk k s n re im []) (own := own) (st := st) (by have := h.len; have := h.most; omega) h.names ho h.vars
      exact ⟨h2.1, ⟨h1.2 h.len, h.most, leaf_names most _ own st h.names, h2.2⟩, h1.1⟩
theorem layL_ok (most : Nat) : ∀ (l : List Tm) (i : Nat) (st : St), StOk most st → i + l.length ≤ 1048577 → StOk most (layL most l i st).2 ∧ st.C.length ≤ (layL most l i st).2.C.length
  | [], i, st, h, _ => ⟨h, Nat.le_refl _⟩
  | t :: r, i, st, h, hi => by
    simp only [List.length_cons] at hi
    obtain ⟨h1, h2, h3⟩ := lay_ok most t i st h (by omega)
    unfold layL
    simp only
    split
    · exact ⟨h2, h3⟩
    · have h4 := layL_ok most r (i + 1) _ (h2.at i (lay most t i st).1.1) (by omega)
      have h5 : ((lay most t i st).2.at i (lay most t i st).1.1).C.length = (lay most t i st).2.C.length := by simp [St.at]
      exact ⟨h4.1, by have := h4.2; omega⟩
end
theorem layL_drop (most : Nat) (l : List Tm) (j i : Nat) (st : St) (x : Tm) (hx : l[j]? = some x) : layL most (l.drop j) i st = if (lay most x i st).1.2 ≠ 0 then ((lay most x i st).1.2, (lay most x i st).2) else layL most (l.drop (j + 1)) (i + 1) ((lay most x i st).2.at i (lay most x i st).1.1) := by
  have hlt := (List.getElem?_eq_some_iff.1 hx).1
  have e : l[j] = x := (List.getElem?_eq_some_iff.1 hx).2
  rw [List.drop_eq_getElem_cons hlt, e, layL]
end Go.Proofs.Ytceahdlcbiialaa
