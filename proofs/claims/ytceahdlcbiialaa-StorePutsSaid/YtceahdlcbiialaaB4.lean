/- A term that May lets by is laid; how many cells it takes. No condition. -/
import Derived.Test.YtceahdlcbiialaaD3
set_option linter.unusedVariables false
set_option linter.unusedSimpArgs false
namespace Go.Proofs.Ytceahdlcbiialaa

theorem pushAll_fits (most : Nat) : ∀ (l C : List Nat), C.length + l.length ≤ most → pushAll most l C = (0, C ++ l)
  | [], C, _ => by simp [pushAll]
  | x :: l, C, h => by
    simp only [List.length_cons] at h
    rw [pushAll, if_pos (by omega), pushAll_fits most l _ (by simp; omega)]
    simp
theorem varAll_fits (most : Nat) : ∀ (n : Nat) (C : List Nat), C.length + n ≤ most → (varAll most n C).1 = 0 ∧ (varAll most n C).2.length = C.length + n
  | 0, C, _ => by simp [varAll]
  | n + 1, C, h => by
    rw [varAll, if_pos (by omega)]
    have := varAll_fits most n (C ++ [mkc 0 C.length]) (by simp; omega)
    simp at this ⊢
    omega
theorem number_fits (l : List ByteArray) (s : ByteArray) (hs : s.size ≤ 200) (hl : l.length < 4096) : (number l s).1.2 = 0 ∧ (number l s).2.length ≤ l.length + 1 := by
  unfold number
  rw [if_neg (by omega)]
  split
  · simp
  · rw [if_neg (by omega)]; simp
theorem one_name {t : Tm} (h : one t = 0) (hk : t.k = 2 ∨ t.k = 5) : t.s.size ≤ 200 := by
  unfold one at h
  split at h
  · cases h
  · split at h
    · cases h
    · omega
/-- What a term is counted: an argument; at the top where its variable has not been met. -/
def takes (t : Tm) (own : Int) (V : List (Int × Nat)) : Nat := if t.k = 1 then (if own < 0 then (match lk V t.n with | none => 1 | some _ => 0) else 0) else cnt t false
theorem leaf_1 (most : Nat) (s : ByteArray) (n re im : Int) (own : Int) (st : St) : leaf most (.mk 1 s n re im []) own st = varP most n own st := rfl
theorem leaf_2 (most : Nat) (s : ByteArray) (n re im : Int) (own : Int) (st : St) : leaf most (.mk 2 s n re im []) own st = ((mkc 2 (number st.L s).1.1, (number st.L s).1.2), { st with L := (number st.L s).2 }) := rfl
theorem leaf_3 (most : Nat) (s : ByteArray) (n re im : Int) (own : Int) (st : St) : leaf most (.mk 3 s n re im []) own st = (if smallOk n then ((small n, 0), st) else wordsP most 4 [u64 n] st) := rfl
theorem leaf_4 (most : Nat) (s : ByteArray) (n re im : Int) (own : Int) (st : St) : leaf most (.mk 4 s n re im []) own st = wordsP most 5 [re.toNat, im.toNat] st := rfl
theorem leaf_small {most : Nat} {k : Int} {s : ByteArray} {n re im : Int} {ys : List Tm} {own : Int} {st : St} (h1 : one (.mk k s n re im ys) = 0) (h5 : k ≠ 5) (hL : st.L.length + 1 ≤ 4096) (hC : st.C.length + takes (.mk k s n re im ys) own st.V ≤ most) :
    (leaf most (.mk k s n re im []) own st).1.2 = 0 ∧ (leaf most (.mk k s n re im []) own st).2.C.length = st.C.length + takes (.mk k s n re im ys) own st.V ∧ (leaf most (.mk k s n re im []) own st).2.L.length ≤ st.L.length + 1 := by
  have hk := one_k h1
  simp only [Tm.k] at hk
  by_cases k1 : k = 1
  · subst k1
    rw [leaf_1]
    simp only [takes, Tm.k, Tm.n, if_true] at hC ⊢
    obtain ⟨o, hl⟩ : ∃ o, lk st.V n = o := ⟨_, rfl⟩
    simp only [hl] at hC ⊢
    unfold varP
    simp only [hl]
    cases o with
    | none =>
      by_cases ho : own < 0
      · simp only [ho, if_true] at hC ⊢
        rw [if_pos (by omega)]
        simp
      · simp [ho]
    | some c => simp
  · have ht : takes (.mk k s n re im ys) own st.V = cnt (.mk k s n re im ys) false := by simp [takes, Tm.k, k1]
    rw [ht] at hC ⊢
    by_cases k2 : k = 2
    · subst k2
      rw [leaf_2]
      obtain ⟨a, b⟩ := number_fits st.L s (one_name (t := .mk 2 s n re im ys) h1 (.inl rfl)) (by omega)
      exact ⟨a, by simp [cnt], b⟩
    · by_cases k3 : k = 3
      · subst k3
        rw [leaf_3]
        by_cases hs : smallOk n = true
        · simp [hs, cnt]
        · simp only [cnt, hs, if_true] at hC ⊢
          have hp := pushAll_fits most [u64 n] st.C (by simpa using hC)
          simp [wordsP, hp, hs]
      · have k4 : k = 4 := by omega
        subst k4
        rw [leaf_4]
        simp only [cnt] at hC ⊢
        have hp := pushAll_fits most [re.toNat, im.toNat] st.C (by simpa using hC)
        simp [wordsP, hp]
mutual
theorem lay_small (most : Nat) : ∀ (t : Tm) (own : Int) (st : St), good t → st.L.length + nodes t ≤ 4096 → st.C.length + takes t own st.V ≤ most →
    (lay most t own st).1.2 = 0 ∧ (lay most t own st).2.C.length = st.C.length + takes t own st.V ∧ (lay most t own st).2.L.length ≤ st.L.length + nodes t
  | .mk k s n re im xs, own, st, hg, hL, hC => by
    obtain ⟨h1, hgk⟩ := hg
    unfold lay
    by_cases k5 : k = 5
    · subst k5
      simp only [if_true]
      have ht : takes (.mk 5 s n re im xs) own st.V = 1 + xs.length + cntL xs := by simp [takes, Tm.k, cnt]
      rw [ht] at hC ⊢
      simp only [nodes, if_true] at hL ⊢
      obtain ⟨a, b⟩ := number_fits st.L s (one_name (t := .mk 5 s n re im xs) h1 (.inr rfl)) (by omega)
      obtain ⟨c, d⟩ := varAll_fits most xs.length (st.C ++ [fun6 (number st.L s).1.1 xs.length]) (by simp; omega)
      have ho : opn most s xs.length st = ((st.C.length, 0), { st with C := (varAll most xs.length (st.C ++ [fun6 (number st.L s).1.1 xs.length])).2, L := (number st.L s).2 }) := by
        unfold opn
        rw [if_neg (by simp [a]), if_pos (by omega), if_pos c]
      rw [ho]
      simp only [ne_eq, not_true_eq_false, if_false]
      simp at d
      obtain ⟨e, f, g⟩ := layL_small most xs (st.C.length + 1) { st with C := (varAll most xs.length (st.C ++ [fun6 (number st.L s).1.1 xs.length])).2, L := (number st.L s).2 } (hgk rfl) (by simp only; omega) (by simp only; omega)
      rw [if_neg (by simp [e])]
      simp only at f g ⊢
      exact ⟨trivial, by omega, by omega⟩
    · rw [if_neg k5]
      have hn := nodes_pos (.mk k s n re im xs)
      obtain ⟨a, b, c⟩ := leaf_small (most := most) (own := own) (st := st) h1 k5 (by omega) hC
      exact ⟨a, b, by omega⟩
theorem layL_small (most : Nat) : ∀ (l : List Tm) (i : Nat) (st : St), goodL l → st.L.length + nodesL l ≤ 4096 → st.C.length + cntL l ≤ most →
    (layL most l i st).1 = 0 ∧ (layL most l i st).2.C.length = st.C.length + cntL l ∧ (layL most l i st).2.L.length ≤ st.L.length + nodesL l
  | [], i, st, _, _, _ => by simp [layL, cntL, nodesL]
  | t :: r, i, st, ⟨hg, hgr⟩, hL, hC => by
    simp only [nodesL, cntL] at hL hC ⊢
    have ht : takes t (i : Int) st.V = cnt t false := by
      obtain ⟨k, s, n, re, im, xs⟩ := t
      unfold takes
      split
      · rename_i h
        simp only [Tm.k] at h
        subst h
        have : ¬ ((i : Int) < 0) := by omega
        simp [this, cnt]
      · rfl
    obtain ⟨a, b, c⟩ := lay_small most t i st hg (by omega) (by rw [ht]; omega)
    rw [ht] at b
    rw [layL]
    rw [if_neg (by simp [a])]
    obtain ⟨e, f, g⟩ := layL_small most r (i + 1) ((lay most t i st).2.at i (lay most t i st).1.1) hgr (by simp only [St.at]; omega) (by simp only [St.at, List.length_set]; omega)
    simp only [St.at, List.length_set] at f g
    exact ⟨e, by simp only [St.at]; omega, by simp only [St.at]; omega⟩
end
mutual
theorem cnt_le : ∀ (t : Tm) (b : Bool), cnt t b + 1 ≤ 3 * nodes t
  | .mk k s n re im xs, b => by
    have hx := cntL_le xs
    by_cases k5 : k = 5
    · subst k5
      simp [cnt, nodes]
      omega
    · have hn : nodes (.mk k s n re im xs) = 1 := by simp [nodes, k5]
      rw [hn]
      unfold cnt
      simp only [if_neg k5]
      repeat' split
      all_goals omega
theorem cntL_le : ∀ l : List Tm, cntL l + l.length ≤ 3 * nodesL l
  | [] => by simp [cntL, nodesL]
  | t :: r => by
    have h1 := cnt_le t false
    have h2 := cntL_le r
    simp only [cntL, nodesL, List.length_cons]
    omega
end
/-- What Put leaves of a term that May lets by, on an empty heap. -/
theorem put_small {t : Tm} (h : May t = 0) : (putP 1048576 t ⟨[], names0, []⟩).1.2 = 0 ∧ (putP 1048576 t ⟨[], names0, []⟩).2.C.length = cnt t true ∧ cnt t true ≤ 6000 := by
  obtain ⟨hn, hg⟩ := May_zero h
  have hc := cnt_le t true
  have htk : takes t (-1) [] = cnt t true := by
    obtain ⟨k, s, n, re, im, xs⟩ := t
    unfold takes
    by_cases k1 : k = 1
    · subst k1
      simp [Tm.k, lk, cnt]
    · simp [Tm.k, k1, cnt]
  have hnl : names0.length = 2 := rfl
  obtain ⟨a, b, c⟩ := lay_small 1048576 t (-1) ⟨[], names0, []⟩ hg (by simp only; omega) (by simp only [List.length_nil]; rw [htk]; omega)
  rcases hl : lay 1048576 t (-1) ⟨[], names0, []⟩ with ⟨⟨x, e⟩, s1⟩
  rw [hl] at a b
  simp only at a b
  subst a
  have hp : putP 1048576 t ⟨[], names0, []⟩ = ((x, 0), s1) := by
    unfold putP
    rw [if_neg (by simp [h]), fin_tm _ _ _ _ _ _ hl]
    simp [fin, St.atI]
  rw [hp]
  exact ⟨rfl, by simp only; rw [b, htk]; simp, by omega⟩
end Go.Proofs.Ytceahdlcbiialaa
