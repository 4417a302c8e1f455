/- Terms laid in cells, one after the other. No condition. -/
import Derived.Test.YtceahdlcbiialaaB1
import Derived.Test.YtceahdlcbiialaaC4
set_option linter.unusedVariables false
set_option linter.unusedSimpArgs false
namespace Go.Proofs.Ytceahdlcbiialaa

/-- What there is while terms are laid: the cells, the names, the variables' cells. -/
structure St where
  C : List Nat
  L : List ByteArray
  V : List (Int × Nat)
/-- Words, pushed: what is wrong, the cells. -/
def pushAll (most : Nat) : List Nat → List Nat → Nat × List Nat
  | [], C => (0, C)
  | x :: r, C => if C.length < most then pushAll most r (C ++ [x]) else (4, C)
/-- Variables, pushed. -/
def varAll (most : Nat) : Nat → List Nat → Nat × List Nat
  | 0, C => (0, C)
  | n + 1, C => if C.length < most then varAll most n (C ++ [mkc 0 C.length]) else (4, C)
def wordsP (most tag : Nat) (l : List Nat) (s : St) : (Nat × Nat) × St :=
  if (pushAll most l s.C).1 = 0 then ((mkc tag s.C.length, 0), { s with C := (pushAll most l s.C).2 }) else ((0, (pushAll most l s.C).1), { s with C := (pushAll most l s.C).2 })
def varP (most : Nat) (n own : Int) (s : St) : (Nat × Nat) × St :=
  match lk s.V n with
  | some c => ((c, 0), s)
  | none => if own < 0 then (if s.C.length < most then ((mkc 0 s.C.length, 0), { s with C := s.C ++ [mkc 0 s.C.length], V := up s.V n (mkc 0 s.C.length) }) else ((0, 4), s))
    else ((mkc 0 own.toNat, 0), { s with V := up s.V n (mkc 0 own.toNat) })
/-- The cell of a term that is no compound. -/
def leaf (most : Nat) (t : Tm) (own : Int) (s : St) : (Nat × Nat) × St :=
  if t.k = 1 then varP most t.n own s
  else if t.k = 2 then ((mkc 2 (number s.L t.s).1.1, (number s.L t.s).1.2), { s with L := (number s.L t.s).2 })
  else if t.k = 3 then (if smallOk t.n then ((small t.n, 0), s) else wordsP most 4 [u64 t.n] s)
  else wordsP most 5 [t.re.toNat, t.im.toNat] s
/-- A compound's functor and its arguments' cells: where, what is wrong. -/
def opn (most : Nat) (name : ByteArray) (n : Nat) (s : St) : (Nat × Nat) × St :=
  if (number s.L name).1.2 ≠ 0 then ((0, (number s.L name).1.2), { s with L := (number s.L name).2 })
  else if s.C.length < most then
    if (varAll most n (s.C ++ [fun6 (number s.L name).1.1 n])).1 = 0 then ((s.C.length, 0), { s with C := (varAll most n (s.C ++ [fun6 (number s.L name).1.1 n])).2, L := (number s.L name).2 })
    else ((0, (varAll most n (s.C ++ [fun6 (number s.L name).1.1 n])).1), { s with C := (varAll most n (s.C ++ [fun6 (number s.L name).1.1 n])).2, L := (number s.L name).2 })
  else ((0, 4), { s with L := (number s.L name).2 })
def St.at (s : St) (i c : Nat) : St := { s with C := s.C.set i c }
mutual
/-- A term laid: its cell, what is wrong. -/
def lay (most : Nat) : Tm → Int → St → (Nat × Nat) × St
  | .mk k s n re im xs, own, st =>
    if k = 5 then
      let o := opn most s xs.length st
      if o.1.2 ≠ 0 then ((0, o.1.2), o.2) else
      let q := layL most xs (o.1.1 + 1) o.2
      if q.1 ≠ 0 then ((0, q.1), q.2) else ((mkc 1 o.1.1, 0), q.2)
    else leaf most (.mk k s n re im []) own st
def layL (most : Nat) : List Tm → Nat → St → Nat × St
  | [], _, st => (0, st)
  | t :: r, i, st =>
    let o := lay most t i st
    if o.1.2 ≠ 0 then (o.1.2, o.2) else layL most r (i + 1) (o.2.at i o.1.1)
end
/-- What is to be laid: a term; a cell. -/
inductive Td where
  | tm (t : Tm) (i : Int)
  | cl (c : Nat) (i : Int)
def St.atI (s : St) (i : Int) (c : Nat) : St := if i < 0 then s else s.at i.toNat c
/-- All of a stack laid. -/
def fin (most : Nat) : List Td → Nat → St → (Nat × Nat) × St
  | [], f, s => ((f, 0), s)
  | .tm t i :: r, f, s => if (lay most t i s).1.2 ≠ 0 then ((0, (lay most t i s).1.2), (lay most t i s).2) else fin most r (if i < 0 then (lay most t i s).1.1 else f) ((lay most t i s).2.atI i (lay most t i s).1.1)
  | .cl c i :: r, f, s => fin most r (if i < 0 then c else f) (s.atI i c)
theorem fin_tm (most : Nat) (t : Tm) (i : Int) (r : List Td) (f : Nat) (s : St) {c e : Nat} {s1 : St} (h : lay most t i s = ((c, e), s1)) : fin most (.tm t i :: r) f s = if e ≠ 0 then ((0, e), s1) else fin most r (if i < 0 then c else f) (s1.atI i c) := by
  rw [fin, h]
theorem layL_cons (most : Nat) (t : Tm) (r : List Tm) (i : Nat) (s : St) {c e : Nat} {s1 : St} (h : lay most t i s = ((c, e), s1)) : layL most (t :: r) i s = if e ≠ 0 then (e, s1) else layL most r (i + 1) (s1.at i c) := by
  rw [layL, h]
def tds (xs : List Tm) (i : Nat) : List Td := xs.zipIdx i |>.map fun p => .tm p.1 (p.2 : Int)
theorem fin_kids (most : Nat) (r : List Td) (f : Nat) : ∀ (xs : List Tm) (i : Nat) (s : St), fin most (tds xs i ++ r) f s = if (layL most xs i s).1 ≠ 0 then ((0, (layL most xs i s).1), (layL most xs i s).2) else fin most r f (layL most xs i s).2
  | [], i, s => by simp [tds, layL]
  | t :: xs, i, s => by
    have e : tds (t :: xs) i = .tm t (i : Int) :: tds xs (i + 1) := rfl
    rw [e, List.cons_append]
    rcases h : lay most t i s with ⟨⟨c, e1⟩, s1⟩
    rw [fin_tm _ _ _ _ _ _ h, layL_cons _ _ _ _ _ h]
    by_cases h : e1 = 0
    · subst h
      have h2 : ¬ ((i : Int) < 0) := by omega
      have h3 : s1.atI (i : Int) c = s1.at i c := by simp [St.atI, h2]
      rw [if_neg (by simp), if_neg h2, h3, fin_kids most r f xs (i + 1) _, if_neg (show ¬ (0 ≠ 0) from by simp)]
    · simp [h]
theorem fin_leaf (most : Nat) (k : Int) (s : ByteArray) (n re im : Int) (xs : List Tm) (i : Int) (r : List Td) (f : Nat) (st : St) (h : k ≠ 5) : fin most (.tm (.mk k s n re im xs) i :: r) f st =
    if (leaf most (.mk k s n re im []) i st).1.2 ≠ 0 then ((0, (leaf most (.mk k s n re im []) i st).1.2), (leaf most (.mk k s n re im []) i st).2)
    else fin most r (if i < 0 then (leaf most (.mk k s n re im []) i st).1.1 else f) ((leaf most (.mk k s n re im []) i st).2.atI i (leaf most (.mk k s n re im []) i st).1.1) := by
  have e : lay most (.mk k s n re im xs) i st = leaf most (.mk k s n re im []) i st := by unfold lay; rw [if_neg h]
  rw [fin, e]
theorem fin_comp (most : Nat) (s : ByteArray) (n re im : Int) (xs : List Tm) (i : Int) (r : List Td) (f : Nat) (st : St) : fin most (.tm (.mk 5 s n re im xs) i :: r) f st =
    if (opn most s xs.length st).1.2 ≠ 0 then ((0, (opn most s xs.length st).1.2), (opn most s xs.length st).2)
    else fin most (tds xs ((opn most s xs.length st).1.1 + 1) ++ .cl (mkc 1 (opn most s xs.length st).1.1) i :: r) f (opn most s xs.length st).2 := by
  rw [fin_kids]
  have e : lay most (.mk 5 s n re im xs) i st = if (opn most s xs.length st).1.2 ≠ 0 then ((0, (opn most s xs.length st).1.2), (opn most s xs.length st).2) else if (layL most xs ((opn most s xs.length st).1.1 + 1) (opn most s xs.length st).2).1 ≠ 0 then ((0, (layL most xs ((opn most s xs.length st).1.1 + 1) (opn most s xs.length st).2).1), (layL most xs ((opn most s xs.length st).1.1 + 1) (opn most s xs.length st).2).2) else ((mkc 1 (opn most s xs.length st).1.1, 0), (layL most xs ((opn most s xs.length st).1.1 + 1) (opn most s xs.length st).2).2) := by
    rw [lay, if_pos rfl]
  rw [show fin most (.tm (.mk 5 s n re im xs) i :: r) f st = if (lay most (.mk 5 s n re im xs) i st).1.2 ≠ 0 then ((0, (lay most (.mk 5 s n re im xs) i st).1.2), (lay most (.mk 5 s n re im xs) i st).2) else fin most r (if i < 0 then (lay most (.mk 5 s n re im xs) i st).1.1 else f) ((lay most (.mk 5 s n re im xs) i st).2.atI i (lay most (.mk 5 s n re im xs) i st).1.1) from by rw [fin]]
  rw [e]
  rcases opn most s xs.length st with ⟨⟨c, e1⟩, s1⟩
  simp only
  by_cases h : e1 = 0
  · subst h
    simp only [ne_eq, not_true_eq_false, if_false]
    rcases layL most xs (c + 1) s1 with ⟨e2, s2⟩
    simp only
    by_cases h2 : e2 = 0
    · subst h2
      simp [fin]
    · simp [h2]
  · simp [h]
end Go.Proofs.Ytceahdlcbiialaa
