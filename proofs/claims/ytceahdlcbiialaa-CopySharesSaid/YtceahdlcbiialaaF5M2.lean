/- Assertions on blocks of memory, each with the blocks that it speaks of; lists of them that lie apart; what a call keeps. No condition. Words with a tag, as numbers: what stands in the lowest three bits, what above. No condition. -/
import Derived.Test.YtceahdlcbiialaaRows
import Derived.WalkKit
import Derived.WalkSpells
import Derived.WalkLawsBesides
import Derived.Deep.QuietTactic
import Derived.BigQuiet
import Derived.OwnWalk
import Derived.Lib.Hide
set_option linter.unusedVariables false
set_option linter.unusedSimpArgs false
namespace Go.Proofs.Ytceahdlcbiialaa
open Go.RowKit

abbrev Blk := Nat → Prop

/-- An assertion on a world: the blocks that it speaks of are its second argument. -/
structure Asn where
  holds : World → Blk → Prop
  loc : ∀ {w w' : World} {F : Blk}, (∀ b, F b → w'.heap[b]? = w.heap[b]?) → holds w F → holds w' F

def Sat (w : World) : Blk → List Asn → Prop
  | _, [] => True
  | U, A :: Γ => ∃ F : Blk, (∀ b, F b → ¬ U b ∧ b < w.heap.size) ∧ A.holds w F ∧ Sat w (fun b => U b ∨ F b) Γ

theorem Sat.keep2 {w w' : World} (hsz : w.heap.size ≤ w'.heap.size) : ∀ {Γ : List Asn} {U U' : Blk}, (∀ b, b < w.heap.size → U' b → U b) → (∀ b, b < w.heap.size → ¬ U b → w'.heap[b]? = w.heap[b]?) → Sat w U Γ → Sat w' U' Γ
  | [], _, _, _, _, _ => trivial
  | A :: Γ, U, U', hU, h, ⟨F, hF, hA, hr⟩ => ⟨F, fun b hb => ⟨fun hu => (hF b hb).1 (hU b (hF b hb).2 hu), Nat.lt_of_lt_of_le (hF b hb).2 hsz⟩, A.loc (fun b hb => h b (hF b hb).2 (hF b hb).1) hA,
      Sat.keep2 (Γ := Γ) hsz (fun b hb hu => hu.elim (fun x => .inl (hU b hb x)) .inr) (fun b hb hu => h b hb (fun x => hu (.inl x))) hr⟩
theorem Sat.anti {w : World} {Γ : List Asn} {U U' : Blk} (h : ∀ b, U' b → U b) (hs : Sat w U Γ) : Sat w U' Γ := Sat.keep2 (Nat.le_refl _) (fun b _ => h b) (fun _ _ _ => rfl) hs

theorem Sat.swap {w : World} {U : Blk} {A B : Asn} {Γ : List Asn} (h : Sat w U (A :: B :: Γ)) : Sat w U (B :: A :: Γ) := by
  obtain ⟨F, hF, hA, G, hG, hB, hr⟩ := h
  refine ⟨G, fun b hb => ⟨fun hu => (hG b hb).1 (.inl hu), (hG b hb).2⟩, hB, F, fun b hb => ⟨fun hu => ?_, (hF b hb).2⟩, hA, Sat.anti ?_ hr⟩
  · rcases hu with hu | hu
    · exact (hF b hb).1 hu
    · exact (hG b hu).1 (.inr hb)
  · rintro b ((h | h) | h)
    · exact .inl (.inl h)
    · exact .inr h
    · exact .inl (.inr h)

theorem Sat.perm {w : World} {Γ Γ' : List Asn} (hp : Γ.Perm Γ') : ∀ {U : Blk}, Sat w U Γ → Sat w U Γ' := by
  induction hp with
  | nil => exact fun h => h
  | cons A _ ih => exact fun ⟨F, hF, hA, hr⟩ => ⟨F, hF, hA, ih hr⟩
  | swap A B Γ => exact fun h => Sat.swap h
  | trans _ _ ih1 ih2 => exact fun h => ih2 (ih1 h)

/-- The world, the blocks that no one will turn any more, the assertions that lie apart from these and from one another. -/
structure Ok (w : World) (S : Blk) (Γ : List Asn) : Prop where
  old : ∀ b, S b → b < w.heap.size
  sat : Sat w S Γ

/-- From w to w': what was kept (S) is as it was; S' is kept from now on; Γ' holds. -/
structure To (w : World) (S : Blk) (w' : World) (S' : Blk) (Γ' : List Asn) : Prop where
  os : w'.os = w.os
  tape : w'.tape = w.tape
  output : w'.output = w.output
  size : w.heap.size ≤ w'.heap.size
  kept : ∀ b, S b → w'.heap[b]? = w.heap[b]?
  sub : ∀ b, S b → S' b
  ok : Ok w' S' Γ'

theorem Ok.to {w : World} {S : Blk} {Γ : List Asn} (h : Ok w S Γ) : To w S w S Γ := ⟨rfl, rfl, rfl, Nat.le_refl _, fun _ _ => rfl, fun _ h => h, h⟩
theorem To.trans {w w1 w2 : World} {S S1 S2 : Blk} {Γ Γ' : List Asn} (h : To w S w1 S1 Γ) (k : To w1 S1 w2 S2 Γ') : To w S w2 S2 Γ' :=
  ⟨k.os.trans h.os, k.tape.trans h.tape, k.output.trans h.output, Nat.le_trans h.size k.size, fun b hb => (k.kept b (h.sub b hb)).trans (h.kept b hb), fun b hb => k.sub b (h.sub b hb), k.ok⟩
theorem To.re {w w1 : World} {S S1 : Blk} {Γ Γ' : List Asn} (h : To w S w1 S1 Γ) (k : Ok w1 S1 Γ → Ok w1 S1 Γ') : To w S w1 S1 Γ' :=
  ⟨h.os, h.tape, h.output, h.size, h.kept, h.sub, k h.ok⟩

theorem Ok.perm {w : World} {S : Blk} {Γ Γ' : List Asn} (h : Ok w S Γ) (hp : Γ.Perm Γ') : Ok w S Γ' := ⟨h.old, h.sat.perm hp⟩
theorem perm_pick {α : Type} (d : α) : ∀ (l : List α) (n : Nat), n < l.length → l.Perm (l.getD n d :: l.eraseIdx n)
  | [], _, h => by simp at h
  | x :: l, 0, _ => by simp
  | x :: l, n + 1, h => by
    have ih := perm_pick d l n (by simpa using h)
    simp only [List.getD_cons_succ, List.eraseIdx_cons_succ]
    exact (List.Perm.cons x ih).trans (List.Perm.swap _ _ _)

def Asn.emp : Asn := ⟨fun _ F => ∀ b, ¬ F b, fun _ h => h⟩
/-- The nth assertion comes first. -/
theorem Ok.pick {w : World} {S : Blk} {Γ : List Asn} (h : Ok w S Γ) (n : Nat) (hn : n < Γ.length) : Ok w S (Γ.getD n Asn.emp :: Γ.eraseIdx n) := h.perm (perm_pick _ _ _ hn)
theorem To.pick {w0 w : World} {S0 S : Blk} {Γ : List Asn} (h : To w0 S0 w S Γ) (n : Nat) (hn : n < Γ.length) : To w0 S0 w S (Γ.getD n Asn.emp :: Γ.eraseIdx n) := h.re fun k => k.pick n hn
theorem Ok.p1 {w : World} {S : Blk} {A B : Asn} {Γ : List Asn} (h : Ok w S (A :: B :: Γ)) : Ok w S (B :: A :: Γ) := h.pick 1 (by simp)
theorem To.p1 {w0 w : World} {S0 S : Blk} {A B : Asn} {Γ : List Asn} (h : To w0 S0 w S (A :: B :: Γ)) : To w0 S0 w S (B :: A :: Γ) := h.pick 1 (by simp)
theorem Ok.p2 {w : World} {S : Blk} {A B C : Asn} {Γ : List Asn} (h : Ok w S (A :: B :: C :: Γ)) : Ok w S (C :: A :: B :: Γ) := h.pick 2 (by simp)
theorem To.p2 {w0 w : World} {S0 S : Blk} {A B C : Asn} {Γ : List Asn} (h : To w0 S0 w S (A :: B :: C :: Γ)) : To w0 S0 w S (C :: A :: B :: Γ) := h.pick 2 (by simp)
theorem Ok.p3 {w : World} {S : Blk} {A B C D : Asn} {Γ : List Asn} (h : Ok w S (A :: B :: C :: D :: Γ)) : Ok w S (D :: A :: B :: C :: Γ) := h.pick 3 (by simp)
theorem To.p3 {w0 w : World} {S0 S : Blk} {A B C D : Asn} {Γ : List Asn} (h : To w0 S0 w S (A :: B :: C :: D :: Γ)) : To w0 S0 w S (D :: A :: B :: C :: Γ) := h.pick 3 (by simp)
theorem Ok.p4 {w : World} {S : Blk} {A B C D E : Asn} {Γ : List Asn} (h : Ok w S (A :: B :: C :: D :: E :: Γ)) : Ok w S (E :: A :: B :: C :: D :: Γ) := h.pick 4 (by simp)
theorem To.p4 {w0 w : World} {S0 S : Blk} {A B C D E : Asn} {Γ : List Asn} (h : To w0 S0 w S (A :: B :: C :: D :: E :: Γ)) : To w0 S0 w S (E :: A :: B :: C :: D :: Γ) := h.pick 4 (by simp)
theorem Ok.p5 {w : World} {S : Blk} {A B C D E F : Asn} {Γ : List Asn} (h : Ok w S (A :: B :: C :: D :: E :: F :: Γ)) : Ok w S (F :: A :: B :: C :: D :: E :: Γ) := h.pick 5 (by simp)
theorem To.p5 {w0 w : World} {S0 S : Blk} {A B C D E F : Asn} {Γ : List Asn} (h : To w0 S0 w S (A :: B :: C :: D :: E :: F :: Γ)) : To w0 S0 w S (F :: A :: B :: C :: D :: E :: Γ) := h.pick 5 (by simp)
theorem Ok.p6 {w : World} {S : Blk} {A B C D E F G : Asn} {Γ : List Asn} (h : Ok w S (A :: B :: C :: D :: E :: F :: G :: Γ)) : Ok w S (G :: A :: B :: C :: D :: E :: F :: Γ) := h.pick 6 (by simp)
theorem To.p6 {w0 w : World} {S0 S : Blk} {A B C D E F G : Asn} {Γ : List Asn} (h : To w0 S0 w S (A :: B :: C :: D :: E :: F :: G :: Γ)) : To w0 S0 w S (G :: A :: B :: C :: D :: E :: F :: Γ) := h.pick 6 (by simp)
theorem Ok.p7 {w : World} {S : Blk} {A B C D E F G H : Asn} {Γ : List Asn} (h : Ok w S (A :: B :: C :: D :: E :: F :: G :: H :: Γ)) : Ok w S (H :: A :: B :: C :: D :: E :: F :: G :: Γ) := h.pick 7 (by simp)
theorem To.p7 {w0 w : World} {S0 S : Blk} {A B C D E F G H : Asn} {Γ : List Asn} (h : To w0 S0 w S (A :: B :: C :: D :: E :: F :: G :: H :: Γ)) : To w0 S0 w S (H :: A :: B :: C :: D :: E :: F :: G :: Γ) := h.pick 7 (by simp)
theorem Ok.p8 {w : World} {S : Blk} {A B C D E F G H I : Asn} {Γ : List Asn} (h : Ok w S (A :: B :: C :: D :: E :: F :: G :: H :: I :: Γ)) : Ok w S (I :: A :: B :: C :: D :: E :: F :: G :: H :: Γ) := h.pick 8 (by simp)
theorem To.p8 {w0 w : World} {S0 S : Blk} {A B C D E F G H I : Asn} {Γ : List Asn} (h : To w0 S0 w S (A :: B :: C :: D :: E :: F :: G :: H :: I :: Γ)) : To w0 S0 w S (I :: A :: B :: C :: D :: E :: F :: G :: H :: Γ) := h.pick 8 (by simp)
theorem Ok.p9 {w : World} {S : Blk} {A B C D E F G H I J : Asn} {Γ : List Asn} (h : Ok w S (A :: B :: C :: D :: E :: F :: G :: H :: I :: J :: Γ)) : Ok w S (J :: A :: B :: C :: D :: E :: F :: G :: H :: I :: Γ) := h.pick 9 (by simp)
theorem To.p9 {w0 w : World} {S0 S : Blk} {A B C D E F G H I J : Asn} {Γ : List Asn} (h : To w0 S0 w S (A :: B :: C :: D :: E :: F :: G :: H :: I :: J :: Γ)) : To w0 S0 w S (J :: A :: B :: C :: D :: E :: F :: G :: H :: I :: Γ) := h.pick 9 (by simp)
/-- The assertions in another order: the list of their places. -/
def order (Γ : List Asn) (is : List Nat) : List Asn := is.map fun i => Γ.getD i Asn.emp
theorem perm_order (Γ : List Asn) (is : List Nat) (h : is.Perm (List.range Γ.length)) : Γ.Perm (order Γ is) := by
  have h1 : (List.range Γ.length).map (fun i => Γ.getD i Asn.emp) = Γ := by
    apply List.ext_getElem
    · simp
    · intro i h1 h2
      simp [List.getElem?_eq_getElem h2]
  have h2 : (order Γ is).Perm ((List.range Γ.length).map fun i => Γ.getD i Asn.emp) := h.map _
  rw [h1] at h2
  exact h2.symm
theorem Ok.order {w : World} {S : Blk} {Γ : List Asn} (h : Ok w S Γ) (is : List Nat) (hp : (is.isPerm (List.range Γ.length)) = true) : Ok w S (order Γ is) := h.perm (perm_order _ _ (List.isPerm_iff.1 hp))
theorem To.order {w0 w : World} {S0 S : Blk} {Γ : List Asn} (h : To w0 S0 w S Γ) (is : List Nat) (hp : (is.isPerm (List.range Γ.length)) = true) : To w0 S0 w S (Ytceahdlcbiialaa.order Γ is) := h.re fun k => k.order is hp

/-! ### The rest, when the first turns -/
theorem Ok.head {w : World} {S : Blk} {A : Asn} {Γ : List Asn} (h : Ok w S (A :: Γ)) : ∃ F : Blk, (∀ b, F b → ¬ S b ∧ b < w.heap.size) ∧ A.holds w F ∧
    ∀ (w' : World) (F' : Blk) (A' : Asn), w'.os = w.os → w'.tape = w.tape → w'.output = w.output → w.heap.size ≤ w'.heap.size → (∀ b, b < w.heap.size → ¬ F b → w'.heap[b]? = w.heap[b]?) →
      (∀ b, F' b → (F b ∨ w.heap.size ≤ b) ∧ b < w'.heap.size) → A'.holds w' F' → To w S w' S (A' :: Γ) := by
  obtain ⟨ho, F, hF, hA, hr⟩ := h
  refine ⟨F, hF, hA, fun w' F' A' h1 h2 h3 hsz hk hF' hA' => ⟨h1, h2, h3, hsz, fun b hb => hk b (ho b hb) (fun hf => (hF b hf).1 hb), fun _ h => h, fun b hb => Nat.lt_of_lt_of_le (ho b hb) hsz, F', fun b hb => ?_, hA', ?_⟩⟩
  · obtain ⟨h4, h5⟩ := hF' b hb
    refine ⟨fun hs => ?_, h5⟩
    rcases h4 with h4 | h4
    · exact (hF b h4).1 hs
    · have := ho b hs; omega
  · exact Sat.keep2 hsz (fun b hb hu => hu.elim .inl fun h => (hF' b h).1.elim .inr (fun h2 => by omega)) (fun b hb hu => hk b hb (fun hf => hu (.inr hf))) hr

/-- Nothing of the first is needed any more. -/
theorem Ok.drop {w : World} {S : Blk} {A : Asn} {Γ : List Asn} (h : Ok w S (A :: Γ)) : Ok w S Γ := by
  obtain ⟨ho, F, hF, hA, hr⟩ := h
  exact ⟨ho, hr.anti fun b hb => .inl hb⟩
theorem To.drop {w0 w : World} {S0 S : Blk} {A : Asn} {Γ : List Asn} (h : To w0 S0 w S (A :: Γ)) : To w0 S0 w S Γ := h.re Ok.drop

/-- Nothing that there was has turned. -/
theorem Ok.below {w w' : World} {S : Blk} {Γ : List Asn} (h : Ok w S Γ) (hb : Below w.heap.size w w') : To w S w' S Γ :=
  ⟨hb.os, hb.tape, hb.output, hb.size, fun b hs => hb.block b (h.old b hs), fun _ h => h, fun b hs => Nat.lt_of_lt_of_le (h.old b hs) hb.size, h.sat.keep2 hb.size (fun _ _ h => h) (fun b hlt _ => hb.block b hlt)⟩
/-- .. and what is new stays so from now on. -/
def keepNew (S : Blk) (lo hi : Nat) : Blk := fun b => S b ∨ (lo ≤ b ∧ b < hi)
theorem Ok.belowSeal {w w' : World} {S : Blk} {Γ : List Asn} (h : Ok w S Γ) (hb : Below w.heap.size w w') : To w S w' (keepNew S w.heap.size w'.heap.size) Γ :=
  ⟨hb.os, hb.tape, hb.output, hb.size, fun b hs => hb.block b (h.old b hs), fun _ h => .inl h, fun b hs => hs.elim (fun x => Nat.lt_of_lt_of_le (h.old b x) hb.size) (·.2),
    h.sat.keep2 hb.size (fun b hlt hu => hu.elim id (fun x => by omega)) (fun b hlt _ => hb.block b hlt)⟩
theorem To.below {w0 w w' : World} {S0 S : Blk} {Γ : List Asn} (h : To w0 S0 w S Γ) (hb : Below w.heap.size w w') : To w0 S0 w' S Γ := h.trans (h.ok.below hb)
theorem To.belowSeal {w0 w w' : World} {S0 S : Blk} {Γ : List Asn} (h : To w0 S0 w S Γ) (hb : Below w.heap.size w w') : To w0 S0 w' (keepNew S w.heap.size w'.heap.size) Γ := h.trans (h.ok.belowSeal hb)
theorem To.drewN {w0 w : World} {S0 S : Blk} {Γ : List Asn} (h : To w0 S0 w S Γ) (n : Nat) : To w0 S0 (w.drewN n) S Γ := h.below ⟨rfl, rfl, rfl, Nat.le_refl _, fun _ _ => rfl⟩
theorem To.drew {w0 w : World} {S0 S : Blk} {Γ : List Asn} (h : To w0 S0 w S Γ) : To w0 S0 w.drew S Γ := h.below ⟨rfl, rfl, rfl, Nat.le_refl _, fun _ _ => rfl⟩
theorem To.alloc {w0 w : World} {S0 S : Blk} {Γ : List Asn} (h : To w0 S0 w S Γ) (o : Obj) : To w0 S0 (w.alloc o) S Γ := h.below ((Below.refl _ _).alloc (Nat.le_refl _) o)

/-! ### Kinds of assertions -/
/-- Block b is these cells. -/
def Pt (b : Nat) (cs : Array Value) (t : TypeId) : Asn := ⟨fun w F => (∀ x, F x ↔ x = b) ∧ w.heap[b]? = some (.cells cs t (0, 0)), fun h ⟨h1, h2⟩ => ⟨h1, by rw [h b ((h1 b).2 rfl)]; exact h2⟩⟩
/-- A slice of its own: as many elements as xs has, each of `size` cells. -/
def Row (v : Value) (e : TypeId) (size n : Nat) (xs : List Value) : Asn := ⟨fun w F => (∀ x, F x ↔ v.ownBlock = some x) ∧ w.ownsRow 0 e size v n xs, by
  rintro w w' F h ⟨h1, h2, h3⟩
  refine ⟨h1, h2, ?_⟩
  rcases h3 with h3 | ⟨g, cap, cur, rfl, hb, hg, hr⟩
  · exact .inl h3
  · exact .inr ⟨g, cap, cur, rfl, hb, by rw [h g ((h1 g).2 rfl)]; exact hg, hr⟩⟩
/-- Two of them, apart. -/
def Two (A B : Asn) : Asn := ⟨fun w F => ∃ G H : Blk, (∀ b, F b ↔ G b ∨ H b) ∧ (∀ b, H b → ¬ G b) ∧ A.holds w G ∧ B.holds w H, by
  rintro w w' F h ⟨G, H, h1, h2, h3, h4⟩
  exact ⟨G, H, h1, h2, A.loc (fun b hb => h b ((h1 b).2 (.inl hb))) h3, B.loc (fun b hb => h b ((h1 b).2 (.inr hb))) h4⟩⟩
def Ex {α : Type} (f : α → Asn) : Asn := ⟨fun w F => ∃ x, (f x).holds w F, fun h ⟨x, hx⟩ => ⟨x, (f x).loc h hx⟩⟩
def Fact (p : Prop) : Asn := ⟨fun _ F => (∀ b, ¬ F b) ∧ p, fun _ h => h⟩

theorem Ok.two {w : World} {S : Blk} {A B : Asn} {Γ : List Asn} : Ok w S (Two A B :: Γ) ↔ Ok w S (A :: B :: Γ) := by
  constructor
  · rintro ⟨ho, F, hF, ⟨G, H, h1, h2, h3, h4⟩, hr⟩
    exact ⟨ho, G, fun b hb => hF b ((h1 b).2 (.inl hb)), h3, H, fun b hb => ⟨fun hu => hu.elim (hF b ((h1 b).2 (.inr hb))).1 (h2 b hb), (hF b ((h1 b).2 (.inr hb))).2⟩, h4,
      hr.anti fun b hb => hb.elim (fun x => x.elim .inl (fun y => .inr ((h1 b).2 (.inl y)))) (fun y => .inr ((h1 b).2 (.inr y)))⟩
  · rintro ⟨ho, G, hG, h3, H, hH, h4, hr⟩
    refine ⟨ho, fun b => G b ∨ H b, fun b hb => hb.elim (hG b) (fun x => ⟨fun hu => (hH b x).1 (.inl hu), (hH b x).2⟩), ⟨G, H, fun _ => Iff.rfl, fun b hb hg => (hH b hb).1 (.inr hg), h3, h4⟩,
      hr.anti fun b hb => hb.elim (fun x => .inl (.inl x)) (fun x => x.elim (fun y => .inl (.inr y)) .inr)⟩
theorem Ok.ex {w : World} {S : Blk} {α : Type} {f : α → Asn} {Γ : List Asn} : Ok w S (Ex f :: Γ) ↔ ∃ x, Ok w S (f x :: Γ) := by
  constructor
  · rintro ⟨ho, F, hF, ⟨x, hx⟩, hr⟩
    exact ⟨x, ho, F, hF, hx, hr⟩
  · rintro ⟨x, ho, F, hF, hx, hr⟩
    exact ⟨ho, F, hF, ⟨x, hx⟩, hr⟩
theorem Ok.fact {w : World} {S : Blk} {p : Prop} {Γ : List Asn} : Ok w S (Fact p :: Γ) ↔ p ∧ Ok w S Γ := by
  constructor
  · rintro h
    have h2 := h.drop
    obtain ⟨_, F, _, hp, _⟩ := h
    exact ⟨hp.2, h2⟩
  · rintro ⟨hp, ho, hr⟩
    exact ⟨ho, fun _ => False, fun _ h => h.elim, ⟨fun _ h => h, hp⟩, hr.anti fun b hb => hb.elim id False.elim⟩

/-! ### A block of known cells -/
section
variable {w0 w : World} {S0 S : Blk} {Γ : List Asn} {b : Nat} {cs : Array Value} {t : TypeId}
theorem Ok.ptHeap (h : Ok w S (Pt b cs t :: Γ)) : w.heap[b]? = some (.cells cs t (0, 0)) := by
  obtain ⟨_, F, _, h2, _⟩ := h
  exact h2.2
theorem Ok.ptLt (h : Ok w S (Pt b cs t :: Γ)) : b < w.heap.size := (Array.getElem?_eq_some_iff.1 h.ptHeap).1
theorem Ok.ptCell (h : Ok w S (Pt b cs t :: Γ)) (i : Nat) (v : Value) (hi : cs[i]? = some v) : w.cell? ⟨b, i, none⟩ = some v := by
  simp [World.cell?, h.ptHeap, hi]
theorem Ok.ptFree (h : Ok w S (Pt b cs t :: Γ)) (i : Nat) : w.frozen? ⟨b, i, none⟩ = false := by
  simp [World.frozen?, h.ptHeap]
theorem Ok.ptSet (h : Ok w S (Pt b cs t :: Γ)) (i : Nat) (v : Value) : To w S (w.setCell ⟨b, i, none⟩ v) S (Pt b (cs.setIfInBounds i v) t :: Γ) := by
  have hb := h.ptHeap
  obtain ⟨F, hF, ⟨h1, h2⟩, hk⟩ := h.head
  refine hk _ F _ rfl rfl rfl (by simp [World.setCell]) (fun k hk hf => Below.heap_setCell _ _ _ _ (fun e => hf ((h1 k).2 e))) (fun k hk => ⟨.inl hk, by simpa [World.setCell] using (hF k hk).2⟩) ⟨h1, ?_⟩
  simp [World.setCell, Array.getElem?_modify, hb]
theorem To.ptSet (h : To w0 S0 w S (Pt b cs t :: Γ)) (i : Nat) (v : Value) : To w0 S0 (w.setCell ⟨b, i, none⟩ v) S (Pt b (cs.setIfInBounds i v) t :: Γ) := h.trans (h.ok.ptSet i v)
/-- A new block that nobody else knows. -/
theorem Ok.allocPt (h : Ok w S Γ) (cs : Array Value) (t : TypeId) : To w S (w.alloc (.cells cs t)) S (Pt w.heap.size cs t :: Γ) := by
  have h1 := h.below ((Below.refl _ _).alloc (Nat.le_refl _) (.cells cs t))
  refine ⟨h1.os, h1.tape, h1.output, h1.size, h1.kept, h1.sub, h1.ok.old, fun x => x = w.heap.size, ?_, ⟨fun _ => Iff.rfl, heap_alloc_new w _⟩, ?_⟩
  · rintro x rfl
    exact ⟨fun hs => by have := h.old _ hs; omega, by simp⟩
  · refine h.sat.keep2 h1.size (fun x hx hu => hu.elim id (fun e => by omega)) (fun x hx _ => Below.heap_alloc w _ x hx)
theorem To.allocPt (h : To w0 S0 w S Γ) (cs : Array Value) (t : TypeId) : To w0 S0 (w.alloc (.cells cs t)) S (Pt w.heap.size cs t :: Γ) := h.trans (h.ok.allocPt cs t)
theorem To.allocPt' (h : To w0 S0 w S Γ) (cs : Array Value) (t : TypeId) (b : Nat) (hb : b = w.heap.size) : To w0 S0 (w.alloc (.cells cs t)) S (Pt b cs t :: Γ) := hb ▸ h.allocPt cs t
/-- The block is turned no more: it may be shared from now on. -/
theorem Ok.seal1 (h : Ok w S (Pt b cs t :: Γ)) : To w S w (fun x => S x ∨ x = b) Γ := by
  have hlt := h.ptLt
  obtain ⟨ho, F, hF, ⟨h1, h2⟩, hr⟩ := h
  exact ⟨rfl, rfl, rfl, Nat.le_refl _, fun _ _ => rfl, fun _ h => .inl h, fun x hx => hx.elim (ho x) (fun e => e ▸ hlt), hr.anti fun x hx => hx.elim .inl (fun e => .inr ((h1 x).2 e))⟩
end

/-! ### A slice of its own -/
section
variable {w0 w : World} {S0 S : Blk} {Γ : List Asn} {v : Value} {e : TypeId} {size n : Nat} {xs : List Value}
theorem Ok.rowOwns (h : Ok w S (Row v e size n xs :: Γ)) : w.ownsRow 0 e size v n xs := by
  obtain ⟨_, F, _, h2, _⟩ := h
  exact h2.2
theorem Ok.rowNil (h : Ok w S Γ) (e : TypeId) (size : Nat) : Ok w S (Row (.slice none 0 0) e size 0 [] :: Γ) :=
  ⟨h.old, fun _ => False, fun _ h => h.elim, ⟨fun x => ⟨False.elim, fun h => by simp [Value.ownBlock] at h⟩, World.ownsRow_nil w 0 e size⟩, h.sat.anti fun b hb => hb.elim id False.elim⟩
/-- What an append, a store in place leave. -/
theorem Ok.rowGrown (h : Ok w S (Row v e size n xs :: Γ)) {w' : World} {v' : Value} {n' : Nat} {xs' : List Value} (hg : w.grownBy w' v.ownBlock) (ho : w'.ownsRow 0 e size v' n' xs')
    (hat : v'.ownBlock = v.ownBlock ∨ ∀ b, v'.ownBlock = some b → w.heap.size ≤ b) : To w S w' S (Row v' e size n' xs' :: Γ) := by
  obtain ⟨F, hF, ⟨h1, h2⟩, hk⟩ := h.head
  refine hk w' (fun x => v'.ownBlock = some x) _ hg.os hg.tape hg.output hg.size (fun b hb hf => hg.block b hb (fun e => hf ((h1 b).2 e.symm))) (fun b hb => ⟨?_, (ho.lt b hb).2⟩) ⟨fun _ => Iff.rfl, ho⟩
  rcases hat with hat | hat
  · exact .inl ((h1 b).2 (hat ▸ hb))
  · exact .inr (hat b hb)
end

end Go.Proofs.Ytceahdlcbiialaa
set_option linter.unusedVariables false
set_option linter.unusedSimpArgs false
namespace Go.Proofs.Ytceahdlcbiialaa
open Go.RowKit

def tg (c : Nat) : Nat := c % 8
def vl (c : Nat) : Nat := c / 8
def mkc (t n : Nat) : Nat := n * 8 + t
def u64 (n : Int) : Nat := (n % 18446744073709551616).toNat
def smallOk (n : Int) : Bool := decide (-1152921504606846976 ≤ n) && decide (n ≤ 1152921504606846975)
def small (n : Int) : Nat := (n % 2305843009213693952).toNat * 8 + 3
def sint (c : Nat) : Int := wrap64 c / 8
def fAtom (c : Nat) : Nat := if tg c = 6 then vl c / 256 else 0
def fArity (c : Nat) : Nat := if tg c = 6 then vl c % 256 else 0
def fun6 (a n : Nat) : Nat := mkc 6 (a * 256 + n)

theorem p64 : (2 : Int) ^ 64 = 18446744073709551616 := by decide
theorem wraps_u64 (n : Int) (h₀ : 0 ≤ n) (h₁ : n < 2 ^ 64) : IntKind.u64.wrap n = n := by
  rw [p64] at h₁
  exact IntWalk.u64_in n ⟨h₀, by omega⟩
theorem and7 (c : Nat) (hc : c < 18446744073709551616) : bits .and .u64 (c : Int) 7 = ((c % 8 : Nat) : Int) := by
  have := bits_mask .u64 64 (by decide) wraps_u64 3 (by decide) (c : Int) (by omega) (by rw [p64]; omega)
  simpa using this
theorem or_at (i : Nat) (x t : Nat) (hi : x % 2 ^ i = 0) (ht : t < 2 ^ i) (hx : x < 18446744073709551616) (ht2 : t < 18446744073709551616) : bits .or .u64 (x : Int) (t : Int) = ((x + t : Nat) : Int) := by
  have h := bits_join .u64 64 (by decide) wraps_u64 i (x : Int) (t : Int) (by omega) (by exact_mod_cast hi) (by rw [p64]; omega) (by omega) (by exact_mod_cast ht) (by rw [p64]; omega)
  rw [h]; simp
theorem or_tag (t n : Nat) (ht : t < 8) (hn : n < 2305843009213693952) : bits .or .u64 ((n : Int) * 8) (t : Int) = ((n * 8 + t : Nat) : Int) := by
  have := or_at 3 (n * 8) t (by omega) (by omega) (by omega) (by omega)
  rw [← this]; simp
theorem u64_lt (n : Int) : u64 n < 18446744073709551616 := by unfold u64; omega
theorem small_lt (n : Int) : small n < 18446744073709551616 := by unfold small; omega
theorem u64_wrap (n : Int) : IntKind.u64.wrap n = (u64 n : Int) := by
  have : IntKind.u64.wrap n = n % 18446744073709551616 := by simp [IntKind.wrap, IntKind.bits, IntKind.signed]
  rw [this]; unfold u64; omega
theorem u64_u64 (n : Int) : IntKind.u64.wrap ((u64 n : Int) * 8) = (((n % 2305843009213693952).toNat * 8 : Nat) : Int) := by
  have : ∀ m : Int, IntKind.u64.wrap m = m % 18446744073709551616 := fun m => by simp [IntKind.wrap, IntKind.bits, IntKind.signed]
  rw [this]; unfold u64; omega
theorem tg_lt (c : Nat) : tg c < 8 := by unfold tg; omega
theorem vl_lt (c : Nat) (h : c < 18446744073709551616) : vl c < 2305843009213693952 := by unfold vl; omega
theorem tg_mkc (t n : Nat) (h : t < 8) : tg (mkc t n) = t := by unfold tg mkc; omega
theorem vl_mkc (t n : Nat) (h : t < 8) : vl (mkc t n) = n := by unfold vl mkc; omega
theorem mkc_eta (c : Nat) : mkc (tg c) (vl c) = c := by unfold tg vl mkc; omega
theorem mkc_lt (t n : Nat) (h : t < 8) (hn : n < 2305843009213693952) : mkc t n < 18446744073709551616 := by unfold mkc; omega
end Go.Proofs.Ytceahdlcbiialaa
