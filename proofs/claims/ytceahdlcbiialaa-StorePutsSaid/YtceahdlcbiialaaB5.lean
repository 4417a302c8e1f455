/- The same term with other numbers of variables is laid alike. No condition. -/
import Derived.Test.YtceahdlcbiialaaC16
set_option linter.unusedVariables false
set_option linter.unusedSimpArgs false
namespace Go.Proofs.Ytceahdlcbiialaa
open Go.RowKit

mutual
/-- What is said of each variable's number. -/
def allV (P : Int → Prop) : Tm → Prop
  | .mk k _ n _ _ xs => (k = 1 → P n) ∧ (k = 5 → allVL P xs)
def allVL (P : Int → Prop) : List Tm → Prop
  | [] => True
  | t :: r => allV P t ∧ allVL P r
end
mutual
theorem varsT_sub : ∀ (t : Tm) (l : List Int), ∀ x ∈ l, x ∈ varsT t l
  | .mk k s n re im xs, l, x, hx => by
    unfold varsT
    split
    · split
      · exact hx
      · exact List.mem_append_left _ hx
    · split
      · exact varsL_sub xs l x hx
      · exact hx
theorem varsL_sub : ∀ (xs : List Tm) (l : List Int), ∀ x ∈ l, x ∈ varsL xs l
  | [], l, x, hx => hx
  | t :: r, l, x, hx => varsL_sub r _ x (varsT_sub t l x hx)
end
mutual
theorem allV_vars (P : Int → Prop) : ∀ (t : Tm) (l : List Int), (∀ x ∈ varsT t l, P x) → allV P t
  | .mk k s n re im xs, l, h => by
    unfold allV
    refine ⟨fun k1 => h n ?_, fun k5 => allVL_vars P xs l fun x hx => h x ?_⟩
    · unfold varsT
      rw [if_pos k1]
      split
      · assumption
      · simp
    · unfold varsT
      rw [if_neg (by omega), if_pos k5]
      exact hx
theorem allVL_vars (P : Int → Prop) : ∀ (xs : List Tm) (l : List Int), (∀ x ∈ varsL xs l, P x) → allVL P xs
  | [], l, h => trivial
  | t :: r, l, h => ⟨allV_vars P t l fun x hx => h x (by simp only [varsL]; exact varsL_sub r _ x hx), allVL_vars P r (varsT t l) h⟩
end
theorem one_zero {t : Tm} : one t = 0 ↔ 1 ≤ t.k ∧ t.k ≤ 5 ∧ (t.k = 1 → 0 ≤ t.n) ∧ (t.k = 5 → 1 ≤ t.xs.length ∧ t.xs.length ≤ 20) ∧ ((t.k = 2 ∨ t.k = 5) → t.s.size ≤ 200) := by
  unfold one
  split
  · constructor
    · intro h; cases h
    · intro h; omega
  · split
    · constructor
      · intro h; cases h
      · intro h; omega
    · constructor
      · intro h; omega
      · intro h; rfl
theorem may_leaf {k n re im : Int} {s : ByteArray} {xs : List Tm} (h1 : one (.mk k s n re im xs) = 0) (h5 : k ≠ 5) (d c : Nat) : may (.mk k s n re im xs) d (c, 0) = if 2000 < c + 1 ∨ 500 < d then (c + 1, 3) else (c + 1, 0) := by
  rw [may_eq]
  simp [h1, h5]
theorem plain_leaf {k n re im : Int} {s : ByteArray} {xs : List Tm} (h1 : one (.mk k s n re im xs) = 0) (h5 : k ≠ 5) : PlainT (.mk k s n re im xs) = .mk k (if k = 2 ∨ k = 5 then s else ⟨#[]⟩) (if k = 1 ∨ k = 3 then n else 0) (if k = 4 then re else 0) (if k = 4 then im else 0) [] := by
  have hm : May (.mk k s n re im xs) = 0 := by
    unfold May
    rw [may_leaf h1 h5]
    simp
  unfold PlainT
  rw [if_neg (by simp [hm])]
  simp [plainT, h5]
theorem one_plain {k n re im : Int} {s : ByteArray} {xs : List Tm} (h1 : one (.mk k s n re im xs) = 0) (h5 : k ≠ 5) : one (.mk k (if k = 2 ∨ k = 5 then s else ⟨#[]⟩) (if k = 1 ∨ k = 3 then n else 0) (if k = 4 then re else 0) (if k = 4 then im else 0) []) = 0 := by
  obtain ⟨a, b, c, d, e⟩ := one_zero.1 h1
  simp only [Tm.k, Tm.n, Tm.s, Tm.xs] at a b c d e
  refine one_zero.2 ⟨a, b, ?_, fun h => absurd h h5, ?_⟩
  · intro h
    simp only [Tm.k] at h
    simp only [Tm.n, h, true_or, if_true]
    exact c h
  · intro h
    simp only [Tm.k] at h
    simp only [Tm.s, h, if_true]
    exact e h
theorem leaf_plain (most : Nat) {k n re im : Int} {s : ByteArray} {xs : List Tm} (h1 : one (.mk k s n re im xs) = 0) (h5 : k ≠ 5) (own : Int) (st : St) :
    leaf most (.mk k (if k = 2 ∨ k = 5 then s else ⟨#[]⟩) (if k = 1 ∨ k = 3 then n else 0) (if k = 4 then re else 0) (if k = 4 then im else 0) []) own st = leaf most (.mk k s n re im []) own st := by
  have hk := one_k h1
  simp only [Tm.k] at hk
  have : k = 1 ∨ k = 2 ∨ k = 3 ∨ k = 4 := by omega
  rcases this with rfl | rfl | rfl | rfl <;> rfl

/-- The variables' cells under other numbers. -/
def shV (b : Int) (V : List (Int × Nat)) : List (Int × Nat) := V.map fun p => (p.1 + b, p.2)
def St.sh (b : Int) (s : St) : St := { s with V := shV b s.V }
theorem lk_sh (b : Int) (n : Int) : ∀ V : List (Int × Nat), lk (shV b V) (n + b) = lk V n
  | [] => rfl
  | (x, c) :: V => by
    have ih := lk_sh b n V
    simp only [shV, List.map_cons, lk] at ih ⊢
    by_cases h : n = x
    · simp [h]
    · rw [if_neg h, if_neg (by omega)]; exact ih
theorem up_sh (b : Int) (n : Int) (c : Nat) : ∀ V : List (Int × Nat), up (shV b V) (n + b) c = shV b (up V n c)
  | [] => rfl
  | (x, d) :: V => by
    have ih := up_sh b n c V
    simp only [shV, List.map_cons, up] at ih ⊢
    by_cases h : n = x
    · simp [h]
    · rw [if_neg h, if_neg (by omega), ih]; rfl
def small40 (n : Int) : Prop := 0 ≤ n ∧ n ≤ 1099511627776
set_option linter.unusedSectionVars false
section
variable (b : Int) (hb : 0 ≤ b ∧ b ≤ 1048575)
include hb
theorem map_leaf1 {n : Int} (hn : small40 n) : tVar (wrap64 (n + b)) = .mk 1 ⟨#[]⟩ (n + b) 0 0 [] := by
  unfold small40 at hn
  rw [IntWalk.wrap64_in _ (by omega)]
  rfl
mutual
theorem may_map : ∀ (t : Tm) (d c : Nat) (e : Nat), good t → allV small40 t → may (mapT (fun n => tVar (wrap64 (n + b))) t) d (c, e) = may t d (c, e)
  | .mk k s n re im xs, d, c, e, ⟨h1, h2⟩, ha => by
    obtain ⟨a1, a2⟩ := ha
    by_cases he : e = 0
    case neg => rw [may_err _ _ _ _ he, may_err _ _ _ _ he]
    subst he
    by_cases k1 : k = 1
    · subst k1
      have hm : mapT (fun n => tVar (wrap64 (n + b))) (.mk 1 s n re im xs) = .mk 1 ⟨#[]⟩ (n + b) 0 0 [] := by
        rw [mapT, if_pos rfl]
        exact map_leaf1 b hb (a1 rfl)
      have hn := a1 rfl
      unfold small40 at hn
      have h3 : one (.mk 1 ⟨#[]⟩ (n + b) 0 0 []) = 0 := one_zero.2 ⟨by simp [Tm.k], by simp [Tm.k], fun _ => by simp only [Tm.n]; omega, fun h => by simp [Tm.k] at h, fun h => by simp [Tm.k] at h⟩
      rw [hm, may_leaf h3 (by omega), may_leaf h1 (by omega)]
    · by_cases k5 : k = 5
      · subst k5
        have hm : mapT (fun n => tVar (wrap64 (n + b))) (.mk 5 s n re im xs) = .mk 5 s 0 0 0 (mapL (fun n => tVar (wrap64 (n + b))) xs) := by rw [mapT, if_neg (by omega), if_neg (by simp)]
        have hl : (mapL (fun n => tVar (wrap64 (n + b))) xs).length = xs.length := by rw [mapL_map]; simp
        have h3 : one (.mk 5 s 0 0 0 (mapL (fun n => tVar (wrap64 (n + b))) xs)) = 0 := by
          obtain ⟨x1, x2, x3, x4, x5⟩ := one_zero.1 h1
          exact one_zero.2 ⟨x1, x2, fun h => by simp [Tm.k] at h, fun h => by simp only [Tm.xs, hl] at x4 ⊢; exact x4 rfl, fun h => x5 (.inr rfl)⟩
        rw [hm, may_eq, may_eq, h3]
        simp only [h1, mayL_map xs (d + 1) (c + 1) 0 (h2 rfl) (a2 rfl)]
      · have hm : mapT (fun n => tVar (wrap64 (n + b))) (.mk k s n re im xs) = PlainT (.mk k s n re im xs) := by rw [mapT, if_neg k1, if_pos k5]
        rw [hm, plain_leaf h1 k5, may_leaf (one_plain h1 k5) k5, may_leaf h1 k5]
theorem mayL_map : ∀ (l : List Tm) (d c : Nat) (e : Nat), goodL l → allVL small40 l → mayL (mapL (fun n => tVar (wrap64 (n + b))) l) d (c, e) = mayL l d (c, e)
  | [], d, c, e, _, _ => rfl
  | t :: r, d, c, e, ⟨h1, h2⟩, ⟨a1, a2⟩ => by
    simp only [mapL, mayL]
    rw [may_map t d c e h1 a1]
    rcases may t d (c, e) with ⟨c1, e1⟩
    exact mayL_map r d c1 e1 h2 a2
end
theorem varP_sh (most : Nat) (n own : Int) (st : St) : varP most (n + b) own (st.sh b) = ((varP most n own st).1, (varP most n own st).2.sh b) := by
  obtain ⟨C, L, V⟩ := st
  unfold varP
  simp only [St.sh, lk_sh, up_sh]
  cases lk V n with
  | some c => rfl
  | none =>
    simp only
    split
    · split <;> rfl
    · rfl
theorem leaf_sh (most : Nat) {k n re im : Int} {s : ByteArray} {xs : List Tm} (h1 : one (.mk k s n re im xs) = 0) (k1 : k ≠ 1) (k5 : k ≠ 5) (own : Int) (st : St) : leaf most (.mk k s n re im []) own (st.sh b) = ((leaf most (.mk k s n re im []) own st).1, (leaf most (.mk k s n re im []) own st).2.sh b) := by
  have hw : ∀ tag l, wordsP most tag l (st.sh b) = ((wordsP most tag l st).1, (wordsP most tag l st).2.sh b) := by
    intro tag l
    obtain ⟨C, L, V⟩ := st
    by_cases hp : (pushAll most l C).1 = 0 <;> simp [wordsP, St.sh, hp]
  have hk := one_k h1
  simp only [Tm.k] at hk
  have : k = 2 ∨ k = 3 ∨ k = 4 := by omega
  rcases this with rfl | rfl | rfl
  · rfl
  · rw [leaf_3, leaf_3]
    by_cases hs : smallOk n = true
    · simp [hs]
    · simp only [hs, if_false, Bool.false_eq_true]; exact hw 4 _
  · rw [leaf_4, leaf_4]; exact hw 5 _
theorem opn_sh (most : Nat) (s : ByteArray) (n : Nat) (st : St) : opn most s n (st.sh b) = ((opn most s n st).1, (opn most s n st).2.sh b) := by
  obtain ⟨C, L, V⟩ := st
  by_cases h1 : (number L s).1.2 = 0
  · by_cases h2 : C.length < most
    · by_cases h3 : (varAll most n (C ++ [fun6 (number L s).1.1 n])).1 = 0 <;> simp [opn, St.sh, h1, h2, h3]
    · simp [opn, St.sh, h1, h2]
  · simp [opn, St.sh, h1]
mutual
theorem lay_map (most : Nat) : ∀ (t : Tm) (own : Int) (st : St), good t → allV small40 t → lay most (mapT (fun n => tVar (wrap64 (n + b))) t) own (st.sh b) = ((lay most t own st).1, (lay most t own st).2.sh b)
  | .mk k s n re im xs, own, st, ⟨h1, h2⟩, ⟨a1, a2⟩ => by
    by_cases k1 : k = 1
    · subst k1
      have hm : mapT (fun n => tVar (wrap64 (n + b))) (.mk 1 s n re im xs) = .mk 1 ⟨#[]⟩ (n + b) 0 0 [] := by
        rw [mapT, if_pos rfl]
        exact map_leaf1 b hb (a1 rfl)
      rw [hm]
      unfold lay
      rw [if_neg (by omega), if_neg (by omega), leaf_1, leaf_1]
      exact varP_sh b hb most n own st
    · by_cases k5 : k = 5
      · subst k5
        have hm : mapT (fun n => tVar (wrap64 (n + b))) (.mk 5 s n re im xs) = .mk 5 s 0 0 0 (mapL (fun n => tVar (wrap64 (n + b))) xs) := by rw [mapT, if_neg (by omega), if_neg (by simp)]
        have hl : (mapL (fun n => tVar (wrap64 (n + b))) xs).length = xs.length := by rw [mapL_map]; simp
        rw [hm]
        unfold lay
        simp only [if_true, hl, opn_sh b hb]
        by_cases ho : (opn most s xs.length st).1.2 = 0
        · simp only [ho, ne_eq, not_true_eq_false, if_false]
          rw [layL_map most xs _ _ (h2 rfl) (a2 rfl)]
          simp only
          split <;> rfl
        · simp only [ne_eq, ho, not_false_eq_true, if_true]
      · have hm : mapT (fun n => tVar (wrap64 (n + b))) (.mk k s n re im xs) = PlainT (.mk k s n re im xs) := by rw [mapT, if_neg k1, if_pos k5]
        rw [hm, plain_leaf h1 k5]
        unfold lay
        rw [if_neg k5, if_neg k5, leaf_plain most h1 k5, leaf_sh b hb most h1 k1 k5]
theorem layL_map (most : Nat) : ∀ (l : List Tm) (i : Nat) (st : St), goodL l → allVL small40 l → layL most (mapL (fun n => tVar (wrap64 (n + b))) l) i (st.sh b) = ((layL most l i st).1, (layL most l i st).2.sh b)
  | [], i, st, _, _ => rfl
  | t :: r, i, st, ⟨h1, h2⟩, ⟨a1, a2⟩ => by
    simp only [mapL, layL]
    rw [lay_map most t i st h1 a1]
    simp only
    by_cases he : (lay most t i st).1.2 = 0
    · simp only [he, ne_eq, not_true_eq_false, if_false]
      have e : ((lay most t i st).2.sh b).at i (lay most t i st).1.1 = ((lay most t i st).2.at i (lay most t i st).1.1).sh b := rfl
      rw [e]
      exact layL_map most r (i + 1) _ h2 a2
    · simp only [ne_eq, he, not_false_eq_true, if_true]
end
theorem put_map (most : Nat) {t : Tm} (h : May t = 0) (ha : allV small40 t) (C : List Nat) (L : List ByteArray) :
    May (mapT (fun n => tVar (wrap64 (n + b))) t) = 0 ∧ putP most (mapT (fun n => tVar (wrap64 (n + b))) t) ⟨C, L, []⟩ = ((putP most t ⟨C, L, []⟩).1, (putP most t ⟨C, L, []⟩).2.sh b) := by
  have hg := (May_zero h).2
  have hm : May (mapT (fun n => tVar (wrap64 (n + b))) t) = 0 := by
    unfold May
    rw [may_map b hb t 1 0 0 hg ha]
    exact h
  refine ⟨hm, ?_⟩
  have hl := lay_map b hb most t (-1) ⟨C, L, []⟩ hg ha
  have e : (St.mk C L []).sh b = ⟨C, L, []⟩ := rfl
  rw [e] at hl
  unfold putP
  rw [if_neg (by simp [hm]), if_neg (by simp [h])]
  rcases hq : lay most t (-1) ⟨C, L, []⟩ with ⟨⟨c, e1⟩, s1⟩
  rw [hq] at hl
  rw [fin_tm _ _ _ _ _ _ hl, fin_tm _ _ _ _ _ _ hq]
  split
  · rfl
  · simp [fin, St.atI]
end
end Go.Proofs.Ytceahdlcbiialaa
