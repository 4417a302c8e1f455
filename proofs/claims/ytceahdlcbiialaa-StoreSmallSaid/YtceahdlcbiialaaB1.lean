/- Terms as trees, and what is asked of them. No condition. -/
import Derived.Test.YtceahdlcbiialaaB0
set_option linter.unusedVariables false
set_option linter.unusedSimpArgs false
namespace Go.Proofs.Ytceahdlcbiialaa

/-- A term: its kind, its name, its number, its words, its arguments. -/
inductive Tm where
  | mk (k : Int) (s : ByteArray) (n re im : Int) (xs : List Tm)
def Tm.k : Tm → Int | .mk k _ _ _ _ _ => k
def Tm.s : Tm → ByteArray | .mk _ s _ _ _ _ => s
def Tm.n : Tm → Int | .mk _ _ n _ _ _ => n
def Tm.re : Tm → Int | .mk _ _ _ r _ _ => r
def Tm.im : Tm → Int | .mk _ _ _ _ i _ => i
def Tm.xs : Tm → List Tm | .mk _ _ _ _ _ xs => xs
theorem Tm.eta (t : Tm) : t = .mk t.k t.s t.n t.re t.im t.xs := by cases t; rfl
mutual
theorem Tm.ind {P : Tm → Prop} (h : ∀ k s n re im xs, (∀ t ∈ xs, P t) → P (.mk k s n re im xs)) : ∀ t, P t
  | .mk k s n re im xs => h k s n re im xs (Tm.indL h xs)
theorem Tm.indL {P : Tm → Prop} (h : ∀ k s n re im xs, (∀ t ∈ xs, P t) → P (.mk k s n re im xs)) : ∀ (l : List Tm), ∀ t ∈ l, P t
  | [], t, ht => by cases ht
  | x :: l, t, ht => by
    rcases List.mem_cons.1 ht with e | e
    · rw [e]; exact Tm.ind h x
    · exact Tm.indL h l t e
end

/-- What is wrong with a term, its arguments aside: 0: nothing; 1: ErrArg; 3: ErrLong. -/
def one (t : Tm) : Nat :=
  if t.k < 1 ∨ 5 < t.k ∨ (t.k = 1 ∧ t.n < 0) ∨ (t.k = 5 ∧ t.xs.length = 0) then 1
  else if ((t.k = 2 ∨ t.k = 5) ∧ 200 < t.s.size) ∨ (t.k = 5 ∧ 20 < t.xs.length) then 3 else 0
mutual
/-- How many nodes have been met, what is wrong; behind the term. -/
def may : Tm → Nat → Nat × Nat → Nat × Nat
  | .mk k s n re im xs, d, (c, e) =>
    if e ≠ 0 then (c, e) else if 2000 < c + 1 ∨ 500 < d then (c + 1, 3) else
    if one (.mk k s n re im xs) ≠ 0 then (c + 1, one (.mk k s n re im xs)) else if k = 5 then mayL xs (d + 1) (c + 1, 0) else (c + 1, 0)
def mayL : List Tm → Nat → Nat × Nat → Nat × Nat
  | [], _, st => st
  | t :: r, d, st => mayL r d (may t d st)
end
def May (t : Tm) : Nat := (may t 1 (0, 0)).2
mutual
def lightT : Tm → Nat → Int → Int
  | .mk _ s _ _ _ xs, d, left => if left < 1 ∨ 700 < d ∨ 400 < s.size ∨ 60 < xs.length then -1 else lightL xs (d + 1) (left - 1)
def lightL : List Tm → Nat → Int → Int
  | [], _, left => left
  | t :: r, d, left => if lightT t d left < 0 then -1 else lightL r d (lightT t d left)
end
def Light : List Tm → Nat → Int → Bool
  | [], _, _ => true
  | t :: r, i, left => if 100 ≤ i ∨ lightT t 1 left < 0 then false else Light r (i + 1) (lightT t 1 left)
def tVar (n : Int) : Tm := .mk 1 ⟨#[]⟩ n 0 0 []
def tAtom (s : ByteArray) : Tm := .mk 2 s 0 0 0 []
def tInt (n : Int) : Tm := .mk 3 ⟨#[]⟩ n 0 0 []
def tCpx (re im : Int) : Tm := .mk 4 ⟨#[]⟩ 0 re im []
def tComp (s : ByteArray) (xs : List Tm) : Tm := .mk 5 s 0 0 0 xs
def tNone : Tm := .mk 0 ⟨#[]⟩ 0 0 0 []
end Go.Proofs.Ytceahdlcbiialaa
