/- No variable has two cells. No condition. -/
import Derived.Test.YtceahdlcbiialaaB6
set_option linter.unusedVariables false
set_option linter.unusedSimpArgs false
namespace Go.Proofs.Ytceahdlcbiialaa

def KN {α β : Type} (V : List (α × β)) : Prop := (V.map (·.1)).Nodup
section
variable {α β : Type} [DecidableEq α]
theorem up_keys (a : α) (b : β) : ∀ (V : List (α × β)) (x : α), x ∈ (up V a b).map (·.1) → x = a ∨ x ∈ V.map (·.1)
  | [], x, h => by simp [up] at h; exact .inl h
  | (k, y) :: V, x, h => by
    unfold up at h
    split at h
    · rename_i he
      simp only [List.map_cons, List.mem_cons] at h ⊢
      rcases h with h | h
      · exact .inr (.inl h)
      · exact .inr (.inr h)
    · simp only [List.map_cons, List.mem_cons] at h ⊢
      rcases h with h | h
      · exact .inr (.inl h)
      · rcases up_keys a b V x h with h | h
        · exact .inl h
        · exact .inr (.inr h)
theorem KN.up (a : α) (b : β) : ∀ {V : List (α × β)}, KN V → KN (Ytceahdlcbiialaa.up V a b)
  | [], _ => by simp [KN, Ytceahdlcbiialaa.up]
  | (k, y) :: V, h => by
    unfold KN at h ⊢
    simp only [List.map_cons, List.nodup_cons] at h
    unfold Ytceahdlcbiialaa.up
    split
    · simpa using h
    · rename_i hne
      simp only [List.map_cons, List.nodup_cons]
      refine ⟨fun hx => ?_, KN.up (V := V) a b h.2⟩
      rcases up_keys a b V k hx with hx | hx
      · exact hne hx.symm
      · exact h.1 hx
theorem KN.lk {V : List (α × β)} (h : KN V) {a : α} {b : β} (hm : (a, b) ∈ V) : Ytceahdlcbiialaa.lk V a = some b := by
  induction V with
  | nil => cases hm
  | cons p V ih =>
    obtain ⟨k, y⟩ := p
    unfold KN at h
    simp only [List.map_cons, List.nodup_cons] at h
    unfold Ytceahdlcbiialaa.lk
    rcases List.mem_cons.1 hm with e | hm
    · cases e; simp
    · have hne : a ≠ k := fun e => h.1 (e ▸ List.mem_map_of_mem (f := Prod.fst) hm)
      rw [if_neg hne]
      exact ih h.2 hm
end
theorem leaf_kn (most : Nat) (t : Tm) (own : Int) (st : St) (h : KN st.V) : KN (leaf most t own st).2.V := by
  have hw : ∀ tag l, KN (wordsP most tag l st).2.V := by
    intro tag l
    unfold wordsP
    split <;> exact h
  unfold leaf
  split
  · unfold varP
    split
    · exact h
    · split
      · split
        · exact h.up _ _
        · exact h
      · exact h.up _ _
  · split
    · exact h
    · split
      · split
        · exact h
        · exact hw 4 _
      · exact hw 5 _
mutual
theorem lay_kn (most : Nat) : ∀ (t : Tm) (own : Int) (st : St), KN st.V → KN (lay most t own st).2.V
  | .mk k s n re im xs, own, st, h => by
    unfold lay
    split
    · simp only
      split
      · rw [opn_V]; exact h
      · have := layL_kn most xs ((opn most s xs.length st).1.1 + 1) (opn most s xs.length st).2 (by rw [opn_V]; exact h)
        split <;> exact this
    · exact leaf_kn most _ own st h
theorem layL_kn (most : Nat) : ∀ (l : List Tm) (i : Nat) (st : St), KN st.V → KN (layL most l i st).2.V
  | [], i, st, h => h
  | t :: r, i, st, h => by
    have h1 := lay_kn most t i st h
    unfold layL
    simp only
    split
    · exact h1
    · exact layL_kn most r (i + 1) _ h1
end
theorem putP_kn {most : Nat} {t : Tm} {st : St} (h : KN st.V) : KN (putP most t st).2.V := by
  unfold putP
  split
  · exact h
  · have h2 := lay_kn most t (-1) st h
    rcases hq : lay most t (-1) st with ⟨⟨c, e⟩, s1⟩
    rw [hq] at h2
    rw [fin_tm _ _ _ _ _ _ hq]
    by_cases he : e = 0
    · subst he; simpa [fin, St.atI] using h2
    · simpa [he] using h2
end Go.Proofs.Ytceahdlcbiialaa
