/- Maps with plain keys as they lie in memory: looked up, written, made. No condition. Terms as trees, and what is asked of them. No condition. Terms as they lie in memory. No condition. -/
import Derived.Test.YtceahdlcbiialaaF5M3
import Derived.Test.YtceahdlcbiialaaF5M2
set_option linter.unusedVariables false
set_option linter.unusedSimpArgs false
namespace Go.Proofs.Ytceahdlcbiialaa
open Go.RowKit

section
variable {α β : Type} [DecidableEq α]
/-- Looked up; written. -/
def lk : List (α × β) → α → Option β
  | [], _ => none
  | (x, y) :: r, a => if a = x then some y else lk r a
def up : List (α × β) → α → β → List (α × β)
  | [], a, b => [(a, b)]
  | (x, y) :: r, a, b => if a = x then (x, b) :: r else (x, y) :: up r a b
def fi : List (α × β) → α → Nat → Option (Nat × β)
  | [], _, _ => none
  | (x, y) :: r, a, i => if a = x then some (i, y) else fi r a (i + 1)
theorem lk_fi (l : List (α × β)) (a : α) : ∀ i, lk l a = (fi l a i).map (·.2) := by
  induction l with
  | nil => exact fun _ => rfl
  | cons p r ih =>
    intro i
    unfold lk fi
    split
    · rfl
    · exact ih _
theorem fi_none (l : List (α × β)) (a : α) (b : β) : ∀ i, fi l a i = none → up l a b = l ++ [(a, b)] := by
  induction l with
  | nil => exact fun _ _ => rfl
  | cons p r ih =>
    intro i h
    unfold fi at h
    unfold up
    split at h
    · cases h
    · rename_i hne
      rw [if_neg hne, ih _ h]
      rfl
theorem fi_some (l : List (α × β)) (a : α) (b : β) : ∀ i j y, fi l a i = some (j, y) → i ≤ j ∧ j - i < l.length ∧ (l[j - i]?).map (·.1) = some a ∧ up l a b = l.modify (j - i) (fun p => (p.1, b)) := by
  induction l with
  | nil => intro i j y h; cases h
  | cons p r ih =>
    intro i j y h
    unfold fi at h
    unfold up
    split at h
    · rename_i he
      simp only [Option.some.injEq, Prod.mk.injEq] at h
      obtain ⟨rfl, rfl⟩ := h
      subst he
      refine ⟨Nat.le_refl _, by simp, by simp, ?_⟩
      rw [if_pos rfl]
      simp
    · rename_i hne
      obtain ⟨h1, h2, h3, h4⟩ := ih _ _ _ h
      have e : j - i = (j - (i + 1)) + 1 := by omega
      rw [if_neg hne, e, h4]
      refine ⟨by omega, by simp; omega, by simpa using h3, by simp⟩
end

/-- What the walk asks of a key's kind. -/
structure KeyOk {α : Type} [DecidableEq α] (kd : TypeDesc) (enc : α → Value) : Prop where
  same : ∀ a b, Instr.sameNow kd (enc a) (enc b) = some (decide (a = b))
  check : ∀ (P : Program) (w : World) (e : Bool) (t : TypeId) (a : α), P.underlying t = some kd → (Instr.checkKey e 10000 t (enc a)).run P w = .ok () w
  bits : ∀ a, Instr.sameBits 10000 (enc a) (enc a) = true
theorem beq_bytes (a b : ByteArray) : (a == b) = decide (a = b) := by
  obtain ⟨a⟩ := a
  obtain ⟨b⟩ := b
  have h : ((⟨a⟩ : ByteArray) == ⟨b⟩) = (a == b) := rfl
  rw [h]
  by_cases e : a = b
  · subst e; simp
  · have : ¬ ((⟨a⟩ : ByteArray) = ⟨b⟩) := fun h => e (by cases h; rfl)
    simp [e, this]
theorem key_string : KeyOk .string Value.string where
  same a b := by
    show some (a == b) = some (decide (a = b))
    rw [beq_bytes]
  check P w e t a h := by
    unfold Instr.checkKey
    simp [run_underlying h]
  bits a := by simp [Instr.sameBits, beq_bytes]
theorem key_int (k : IntKind) : KeyOk (.int k) (Value.int k) where
  same a b := by
    show (if k = k then some (a == b) else none) = some (decide (a = b))
    rw [if_pos rfl]
    congr 1
  check P w e t a h := by
    unfold Instr.checkKey
    simp [run_underlying h]
  bits a := by simp [Instr.sameBits]
theorem key_nat (k : IntKind) : KeyOk (.int k) (fun n : Nat => Value.int k (n : Int)) where
  same a b := by
    show (if k = k then some ((a : Int) == b) else none) = some (decide (a = b))
    rw [if_pos rfl]
    congr 1
    by_cases h : a = b
    · simp [h]
    · simp [h]; omega
  check P w e t a h := by
    unfold Instr.checkKey
    simp [run_underlying h]
  bits a := by simp [Instr.sameBits]

section
variable {α β : Type} [DecidableEq α] {kd : TypeDesc} {enc : α → Value} {val : β → Value}
theorem findNow_eq (K : KeyOk kd enc) (a : α) : ∀ (l : List (α × β)) (es : List MapEntry) (i : Nat), es.map (fun e => (e.key, e.val)) = l.map (fun p => (enc p.1, val p.2)) →
    Instr.findNow kd (enc a) es i = some ((fi l a i).map fun q => (q.1, val q.2))
  | [], [], _, _ => rfl
  | [], _ :: _, _, h => by cases h
  | _ :: _, [], _, h => by cases h
  | (x, y) :: l, e :: es, i, h => by
    simp only [List.map_cons, List.cons.injEq, Prod.mk.injEq] at h
    obtain ⟨⟨h1, h2⟩, h3⟩ := h
    unfold Instr.findNow fi
    rw [h1, K.same]
    by_cases he : a = x
    · simp [he, h2]
    · simp only [he, decide_false, if_false]
      exact findNow_eq K a l es (i + 1) h3

/-- Block b is a map of these entries, the eldest first. -/
def MapA {α β : Type} (b : Nat) (enc : α → Value) (val : β → Value) (l : List (α × β)) : Asn := ⟨fun w F => (∀ x, F x ↔ x = b) ∧ ∃ es clock, w.heap[b]? = some (.map es clock) ∧ es.toList.map (fun e => (e.key, e.val)) = l.map (fun p => (enc p.1, val p.2)) ∧
    (∀ e ∈ es.toList, e.born < clock) ∧ (es.toList.map MapEntry.born).Nodup, fun {w w' F} h hh => by
  obtain ⟨h1, es, clock, h2, h3⟩ := hh
  exact ⟨h1, es, clock, by rw [h b ((h1 b).2 rfl)]; exact h2, h3⟩⟩

variable {w w0 : World} {S S0 : Blk} {Γ : List Asn} {b : Nat} {l : List (α × β)}
theorem Ok.allocMap {α β : Type} {enc : α → Value} {val : β → Value} (h : Ok w S Γ) : To w S (w.alloc (.map #[] 0)) S (MapA w.heap.size enc val ([] : List (α × β)) :: Γ) := by
  have h1 := h.below ((Below.refl _ _).alloc (Nat.le_refl _) (.map #[] 0))
  refine ⟨h1.os, h1.tape, h1.output, h1.size, h1.kept, h1.sub, h1.ok.old, fun x => x = w.heap.size, ?_, ⟨fun _ => Iff.rfl, #[], 0, heap_alloc_new w _, rfl, by simp, by simp⟩, ?_⟩
  · rintro x rfl
    exact ⟨fun hs => by have := h.old _ hs; omega, by simp⟩
  · refine h.sat.keep2 h1.size (fun x hx hu => hu.elim id (fun e => by omega)) (fun x hx _ => Below.heap_alloc w _ x hx)
theorem To.allocMap {α β : Type} {enc : α → Value} {val : β → Value} (h : To w0 S0 w S Γ) : To w0 S0 (w.alloc (.map #[] 0)) S (MapA w.heap.size enc val ([] : List (α × β)) :: Γ) := h.trans h.ok.allocMap

theorem To.allocMap' {α β : Type} {enc : α → Value} {val : β → Value} (h : To w0 S0 w S Γ) (b : Nat) (hb : b = w.heap.size) : To w0 S0 (w.alloc (.map #[] 0)) S (MapA b enc val ([] : List (α × β)) :: Γ) := hb ▸ h.allocMap
/-- A look-up, with or without its bool; whatever has been drawn. -/
theorem Ok.look {P : Program} (h : Ok w S (MapA b enc val l :: Γ)) (K : KeyOk kd enc) {t k e : TypeId} (ht : P.underlying t = some (.map k e)) (hk : P.underlying k = some kd) {z : Value} (hz : ∀ W, (zeroValue e).run P W = .ok z W) (a : α) (c : Bool) (n : Nat) :
    (Instr.lookup t (.map (some b)) (enc a) c).run P (w.drewN n) = .ok (if c then .tuple #[((lk l a).map val).getD z, .bool (lk l a).isSome] else ((lk l a).map val).getD z) (w.drewN n) := by
  obtain ⟨_, F, _, ⟨_, es, clock, hb, hl, _⟩, _⟩ := h
  have hb' : (w.drewN n).heap[b]? = some (.map es clock) := hb
  have hc := K.check P (w.drewN n) es.isEmpty k a hk
  have hf := findNow_eq (val := val) K a l es.toList 0 hl
  rw [lk_fi l a 0]
  unfold Instr.lookup Instr.findKey
  simp only [Sem.run_bind, run_underlying ht, run_underlying hk, Result.andThen_ok, hc, hf]
  cases hq : fi l a 0 with
  | none => cases c <;> simp [run_underlying hk, getObj, Sem.run, hb, hc, hf, hq, hz, Result.andThen]
  | some q => cases c <;> simp [run_underlying hk, getObj, Sem.run, hb, hc, hf, hq, Result.andThen]
/-- A write. -/
theorem Ok.mapPut {P : Program} (h : Ok w S (MapA b enc val l :: Γ)) (K : KeyOk kd enc) {t k e : TypeId} (ht : P.underlying t = some (.map k e)) (hk : P.underlying k = some kd) (a : α) (y : β) :
    ∃ w', (Instr.mapUpdate t (.map (some b)) (enc a) (val y)).run P w = .ok () w' ∧ To w S w' S (MapA b enc val (up l a y) :: Γ) := by
  obtain ⟨F, hF, ⟨h1, es, clock, hb, hl, hborn, hnd⟩, hkeep⟩ := h.head
  have hc := K.check P w false k a hk
  have hf := findNow_eq (val := val) K a l es.toList 0 hl
  have hlen : es.toList.length = l.length := by
    have := congrArg List.length hl
    simpa using this
  have hblt : b < w.heap.size := (Array.getElem?_eq_some_iff.1 hb).1
  have key : ∀ es' clock', es'.toList.map (fun e => (e.key, e.val)) = (up l a y).map (fun p => (enc p.1, val p.2)) → (∀ e ∈ es'.toList, e.born < clock') → (es'.toList.map MapEntry.born).Nodup →
      To w S { w with heap := w.heap.setIfInBounds b (.map es' clock') } S (MapA b enc val (up l a y) :: Γ) := by
    intro es' clock' h2 h3 h4
    refine hkeep _ F _ rfl rfl rfl (by simp) (fun x hx hf => ?_) (fun x hx => ⟨.inl hx, by simpa using (hF x hx).2⟩) ⟨h1, es', clock', ?_, h2, h3, h4⟩
    · have : b ≠ x := fun e => hf ((h1 x).2 e.symm)
      simp [Array.getElem?_setIfInBounds, this]
    · simp [hblt]
  cases hq : fi l a 0 with
  | none =>
    refine ⟨_, ?_, key (es.push { key := enc a, val := val y, born := clock }) (clock + 1) ?_ ?_ ?_⟩
    · unfold Instr.mapUpdate Instr.findKey
      simp [Sem.run_bind, run_underlying ht, run_underlying hk, getObj, setObj, Sem.run, hb, hc, hf, hq, Result.andThen]
    · rw [fi_none l a y 0 hq]
      simp [hl]
    · intro e he
      simp only [Array.toList_push, List.mem_append, List.mem_singleton] at he
      rcases he with he | rfl
      · have := hborn e he; omega
      · simp
    · simp only [Array.toList_push, List.map_append, List.map_cons, List.map_nil]
      refine List.nodup_append.2 ⟨hnd, by simp, ?_⟩
      intro x hx z hz
      simp only [List.mem_singleton] at hz
      obtain ⟨e, he, rfl⟩ := List.mem_map.1 hx
      have := hborn e he
      omega
  | some q =>
    obtain ⟨j, y0⟩ := q
    obtain ⟨_, hj, hja, hup⟩ := fi_some l a y 0 j y0 hq
    simp only [Nat.sub_zero] at hj hja hup
    have hkey : (es[j]?).map (·.key) = some (enc a) := by
      have h2 := congrArg (fun q => (q[j]?).map (·.1)) hl
      simp only [List.getElem?_map, Option.map_map] at h2
      cases hx : l[j]? with
      | none => rw [hx] at hja; cases hja
      | some p =>
        rw [hx] at hja h2
        simp only [Option.map_some, Option.some.injEq] at hja
        cases hy : es.toList[j]? with
        | none => rw [hy] at h2; cases h2
        | some e0 =>
          rw [hy] at h2
          simp only [Option.map_some, Function.comp, Option.some.injEq] at h2
          have : es[j]? = some e0 := by simpa using hy
          rw [this]
          simp [h2, hja]
    refine ⟨_, ?_, key (es.modify j fun e => { e with key := enc a, val := val y }) clock ?_ ?_ ?_⟩
    · unfold Instr.mapUpdate Instr.findKey Instr.keyThatStays
      simp [Sem.run_bind, run_underlying ht, run_underlying hk, getObj, setObj, Sem.run, hb, hc, hf, hq, hkey, K.bits, Result.andThen]
    · rw [hup]
      have h3 : ∀ (es : List MapEntry) (l : List (α × β)) (j : Nat), es.map (fun e => (e.key, e.val)) = l.map (fun p => (enc p.1, val p.2)) → (l[j]?).map (·.1) = some a →
          (es.modify j fun e => { e with key := enc a, val := val y }).map (fun e => (e.key, e.val)) = (l.modify j fun p => (p.1, y)).map (fun p => (enc p.1, val p.2)) := by
        intro es
        induction es with
        | nil => intro l j h; cases l with
          | nil => intro _; simp
          | cons _ _ => cases h
        | cons e es ih => intro l j h; cases l with
          | nil => cases h
          | cons p l =>
            simp only [List.map_cons, List.cons.injEq] at h
            cases j with
            | zero =>
              intro hp
              simp only [List.getElem?_cons_zero, Option.map_some, Option.some.injEq] at hp
              simp [h.2, hp]
            | succ j =>
              intro hp
              simp only [List.modify_succ_cons, List.map_cons, h.1, List.cons.injEq, true_and]
              exact ih l j h.2 (by simpa using hp)
      rw [Array.toList_modify]
      exact h3 _ _ j hl hja
    · have h4 : (es.toList.modify j fun e => { e with key := enc a, val := val y }).map MapEntry.born = es.toList.map MapEntry.born := by
        apply List.ext_getElem?
        intro i
        simp only [List.getElem?_map, List.getElem?_modify]
        split <;> cases es.toList[i]? <;> rfl
      intro e he
      rw [Array.toList_modify] at he
      have h5 : e.born ∈ es.toList.map MapEntry.born := by rw [← h4]; exact List.mem_map_of_mem he
      obtain ⟨e1, h6, h7⟩ := List.mem_map.1 h5
      rw [← h7]
      exact hborn e1 h6
    · have h4 : (es.toList.modify j fun e => { e with key := enc a, val := val y }).map MapEntry.born = es.toList.map MapEntry.born := by
        apply List.ext_getElem?
        intro i
        simp only [List.getElem?_map, List.getElem?_modify]
        split <;> cases es.toList[i]? <;> rfl
      rw [Array.toList_modify, h4]
      exact hnd
theorem wpList_mapInsert {P : Program} {ops : Array Oper} {rest : List Oper} {o : Oper} {a0 : Act} {Q : Exit → Act → World → Prop} (hg : o.guard = none) (m x v : Operand) (t : TypeId) (hop : o.op = Op.insert t m x v)
    (H : To w0 S0 w S (MapA b enc val l :: Γ)) (K : KeyOk kd enc) {k e : TypeId} (ht : P.underlying t = some (.map k e)) (hk : P.underlying k = some kd) (a : α) (y : β)
    (hm : a0.eval m = .map (some b)) (hx : a0.eval x = enc a) (hv : a0.eval v = val y)
    (hK : ∀ w', To w0 S0 w' S (MapA b enc val (up l a y) :: Γ) → wpList P ops Q rest (a0.put o.dst undef) w') : wpList P ops Q (o :: rest) a0 w := by
  refine wpList_plain hg fun K' hK' => ?_
  obtain ⟨w', hrun, r1⟩ := H.ok.mapPut K ht hk a y
  unfold Oper.wp
  simp only [execOp, hop, hm, hx, hv, Sem.run_bind, hrun, Result.andThen_ok, Sem.run_pure, Oper.upon]
  exact hK' _ _ (hK w' (H.trans r1))
theorem wpList_mapPut {P : Program} {ops : Array Oper} {rest : List Oper} {o : Oper} {a0 : Act} {Q : Exit → Act → World → Prop} (hg : o.guard = none) (m x v : Operand) (t : TypeId) (hop : o.op = Op.mapUpdate t m x v)
    (H : To w0 S0 w S (MapA b enc val l :: Γ)) (K : KeyOk kd enc) {k e : TypeId} (ht : P.underlying t = some (.map k e)) (hk : P.underlying k = some kd) (a : α) (y : β)
    (hm : a0.eval m = .map (some b)) (hx : a0.eval x = enc a) (hv : a0.eval v = val y)
    (hK : ∀ w', To w0 S0 w' S (MapA b enc val (up l a y) :: Γ) → wpList P ops Q rest (a0.put o.dst undef) w') : wpList P ops Q (o :: rest) a0 w := by
  refine wpList_plain hg fun K' hK' => ?_
  obtain ⟨w', hrun, r1⟩ := H.ok.mapPut K ht hk a y
  unfold Oper.wp
  simp only [execOp, hop, hm, hx, hv, Sem.run_bind, hrun, Result.andThen_ok, Sem.run_pure, Oper.upon]
  exact hK' _ _ (hK w' (H.trans r1))
theorem step_mapPut {P : Program} {ops : Array Oper} {o : Oper} {a0 : Act} {K' : Act → World → Prop} {Q : Exit → Act → World → Prop} {E : Prop} (hg : o.guard = none) (m x v : Operand) (t : TypeId) (hop : o.op = Op.mapUpdate t m x v)
    (H : To w0 S0 w S (MapA b enc val l :: Γ)) (K : KeyOk kd enc) {k e : TypeId} (ht : P.underlying t = some (.map k e)) (hk : P.underlying k = some kd) (a : α) (y : β)
    (hm : a0.eval m = .map (some b)) (hx : a0.eval x = enc a) (hv : a0.eval v = val y)
    (hK : ∀ w', To w0 S0 w' S (MapA b enc val (up l a y) :: Γ) → K' (a0.put o.dst undef) w') : if Region.wanted o (yielded ops a0.tmps) = true then Oper.wp P o a0 w K' Q else E := by
  have hw : Region.wanted o (yielded ops a0.tmps) = true := by simp [Region.wanted, hg]
  rw [if_pos hw]
  obtain ⟨w', hrun, r1⟩ := H.ok.mapPut K ht hk a y
  unfold Oper.wp
  simp only [execOp, hop, hm, hx, hv, Sem.run_bind, hrun, Result.andThen_ok, Sem.run_pure, Oper.upon]
  exact hK w' (H.trans r1)
end
theorem Ok.mapLen {α β : Type} {enc : α → Value} {val : β → Value} {w : World} {S : Blk} {Γ : List Asn} {b : Nat} {l : List (α × β)} {P : Program} (h : Ok w S (MapA b enc val l :: Γ)) {t k e : TypeId} (ht : P.underlying t = some (.map k e)) (ty : TypeId) (n : Nat) :
    (Builtin.len_ #[t] ty #[.map (some b)]).run P (w.drewN n) = .ok (.int .i64 l.length) (w.drewN n) := by
  obtain ⟨_, F, _, ⟨_, es, clock, hb, hl, _⟩, _⟩ := h
  have hb' : (w.drewN n).heap[b]? = some (.map es clock) := hb
  have hs : es.size = l.length := by
    have := congrArg List.length hl
    simpa using this
  simp [Builtin.len_, run_underlying ht, getObj, Sem.run, hb, hs, goInt, Result.andThen]
end Go.Proofs.Ytceahdlcbiialaa
set_option linter.unusedVariables false
set_option linter.unusedSimpArgs false
namespace Go.Proofs.Ytceahdlcbiialaa

/-- A term: its kind, its name, its number, its words, its arguments. -/
inductive Tm where
  | mk (k : Int) (s : ByteArray) (n re im : Int) (xs : List Tm)
def Tm.k : Tm → Int | .mk k _ _ _ _ _ => k
def Tm.s : Tm → ByteArray | .mk _ s _ _ _ _ => s
def Tm.n : Tm → Int | .mk _ _ n _ _ _ => n
def Tm.re : Tm → Int | .mk _ _ _ r _ _ => r
def Tm.im : Tm → Int | .mk _ _ _ _ i _ => i
def Tm.xs : Tm → List Tm | .mk _ _ _ _ _ xs => xs
theorem Tm.eta (t : Tm) : t = .mk t.k t.s t.n t.re t.im t.xs := by cases t; rfl
mutual
theorem Tm.ind {P : Tm → Prop} (h : ∀ k s n re im xs, (∀ t ∈ xs, P t) → P (.mk k s n re im xs)) : ∀ t, P t
  | .mk k s n re im xs => h k s n re im xs (Tm.indL h xs)
theorem Tm.indL {P : Tm → Prop} (h : ∀ k s n re im xs, (∀ t ∈ xs, P t) → P (.mk k s n re im xs)) : ∀ (l : List Tm), ∀ t ∈ l, P t
  | [], t, ht => by cases ht
  | x :: l, t, ht => by
    rcases List.mem_cons.1 ht with e | e
    · rw [e]; exact Tm.ind h x
    · exact Tm.indL h l t e
end

/-- What is wrong with a term, its arguments aside: 0: nothing; 1: ErrArg; 3: ErrLong. -/
def one (t : Tm) : Nat :=
  if t.k < 1 ∨ 5 < t.k ∨ (t.k = 1 ∧ t.n < 0) ∨ (t.k = 5 ∧ t.xs.length = 0) then 1
  else if ((t.k = 2 ∨ t.k = 5) ∧ 200 < t.s.size) ∨ (t.k = 5 ∧ 20 < t.xs.length) then 3 else 0
mutual
/-- How many nodes have been met, what is wrong; behind the term. -/
def may : Tm → Nat → Nat × Nat → Nat × Nat
  | .mk k s n re im xs, d, (c, e) =>
    if e ≠ 0 then (c, e) else if 2000 < c + 1 ∨ 500 < d then (c + 1, 3) else
    if one (.mk k s n re im xs) ≠ 0 then (c + 1, one (.mk k s n re im xs)) else if k = 5 then mayL xs (d + 1) (c + 1, 0) else (c + 1, 0)
def mayL : List Tm → Nat → Nat × Nat → Nat × Nat
  | [], _, st => st
  | t :: r, d, st => mayL r d (may t d st)
end
def May (t : Tm) : Nat := (may t 1 (0, 0)).2
mutual
def lightT : Tm → Nat → Int → Int
  | .mk _ s _ _ _ xs, d, left => if left < 1 ∨ 700 < d ∨ 400 < s.size ∨ 60 < xs.length then -1 else lightL xs (d + 1) (left - 1)
def lightL : List Tm → Nat → Int → Int
  | [], _, left => left
  | t :: r, d, left => if lightT t d left < 0 then -1 else lightL r d (lightT t d left)
end
def Light : List Tm → Nat → Int → Bool
  | [], _, _ => true
  | t :: r, i, left => if 100 ≤ i ∨ lightT t 1 left < 0 then false else Light r (i + 1) (lightT t 1 left)
def tVar (n : Int) : Tm := .mk 1 ⟨#[]⟩ n 0 0 []
def tAtom (s : ByteArray) : Tm := .mk 2 s 0 0 0 []
def tInt (n : Int) : Tm := .mk 3 ⟨#[]⟩ n 0 0 []
def tCpx (re im : Int) : Tm := .mk 4 ⟨#[]⟩ 0 re im []
def tComp (s : ByteArray) (xs : List Tm) : Tm := .mk 5 s 0 0 0 xs
def tNone : Tm := .mk 0 ⟨#[]⟩ 0 0 0 []
end Go.Proofs.Ytceahdlcbiialaa
set_option linter.unusedVariables false
set_option linter.unusedSimpArgs false
namespace Go.Proofs.Ytceahdlcbiialaa
open Go.RowKit

/-- Six cells that are a term; what its arguments' cells are; all of these lie in blocks of S. -/
inductive TmC (w : World) (S : Blk) : List Value → Tm → Prop
  | mk (k : Int) (s : ByteArray) (n re im : Int) (A : Option Addr) (cap : Nat) (xs : List Tm) (css : List (List Value))
      (hk : -9223372036854775808 ≤ k ∧ k ≤ 9223372036854775807) (hs : s.size ≤ 140737488351232) (hn : -9223372036854775808 ≤ n ∧ n ≤ 9223372036854775807)
      (hr : 0 ≤ re ∧ re ≤ 18446744073709551615) (hi : 0 ≤ im ∧ im ≤ 18446744073709551615) (hl : xs.length ≤ 140737488351232)
      (hc : css.length = xs.length)
      (hm : ∀ (i : Nat) (c : List Value), css[i]? = some c → c.length = 6 ∧ ∃ g o, A = some ⟨g, o, none⟩ ∧ S g ∧ ∀ (j : Nat) (u : Value), c[j]? = some u → w.cell? ⟨g, o + i * 6 + j, none⟩ = some u)
      (ha : ∀ (i : Nat) (c : List Value) (t : Tm), css[i]? = some c → xs[i]? = some t → TmC w S c t) :
      TmC w S [.int .i64 k, .string s, .int .i64 n, .int .u64 re, .int .u64 im, .slice A xs.length cap] (.mk k s n re im xs)

theorem TmC.mono {w w' : World} {S S' : Blk} (hw : ∀ a v, S a.block → w.cell? a = some v → w'.cell? a = some v) (hS : ∀ b, S b → S' b) {cs : List Value} {t : Tm} (h : TmC w S cs t) : TmC w' S' cs t := by
  induction h with
  | mk k s n re im A cap xs css hk hs hn hr hi hl hc hm ha ih =>
    refine .mk k s n re im A cap xs css hk hs hn hr hi hl hc (fun i c hic => ?_) ih
    obtain ⟨h1, g, o, h2, h3, h4⟩ := hm i c hic
    exact ⟨h1, g, o, h2, hS _ h3, fun j u hu => hw _ _ h3 (h4 j u hu)⟩
theorem TmC.bel {w w' : World} {S : Blk} {cs : List Value} {t : Tm} (h : TmC w S cs t) (hb : Below w.heap.size w w') : TmC w' S cs t :=
  h.mono (fun a v _ ha => (hb.cell (World.block_lt_of_cell? w a ha)).trans ha) (fun _ h => h)
theorem TmC.to {w w' : World} {S S' : Blk} {Γ : List Asn} {cs : List Value} {t : Tm} (h : TmC w S cs t) (ht : To w S w' S' Γ) : TmC w' S' cs t :=
  h.mono (fun a v ha hv => (World.cell?_of_block (w := w) (ht.kept _ ha)).trans hv) ht.sub
theorem TmC.drewN {w : World} {S : Blk} {cs : List Value} {t : Tm} (h : TmC w S cs t) (n : Nat) : TmC (w.drewN n) S cs t := TmC.mono (w := w) (w' := w.drewN n) (fun _ _ _ h => h) (fun _ h => h) h
/-- Its six cells. -/
theorem TmC.form0 {w : World} {S : Blk} {cs : List Value} {t : Tm} (h : TmC w S cs t) : ∃ A cap, cs = [.int .i64 t.k, .string t.s, .int .i64 t.n, .int .u64 t.re, .int .u64 t.im, .slice A t.xs.length cap] := by
  cases h with
  | mk k s n re im A cap xs css hk hs hn hr hi hl hc hm ha => exact ⟨A, cap, rfl⟩
/-- What is known of a term whose arguments lie from A on. -/
def Kids (w : World) (S : Blk) (A : Option Addr) (xs : List Tm) : Prop := ∀ (i : Nat) (x : Tm), xs[i]? = some x → ∃ g o A' cap', A = some ⟨g, o, none⟩ ∧ S g ∧ w.cell? ⟨g, o + i * 6, none⟩ = some (.int .i64 x.k) ∧ w.cell? ⟨g, o + i * 6 + 1, none⟩ = some (.string x.s) ∧
  w.cell? ⟨g, o + i * 6 + 2, none⟩ = some (.int .i64 x.n) ∧ w.cell? ⟨g, o + i * 6 + 3, none⟩ = some (.int .u64 x.re) ∧ w.cell? ⟨g, o + i * 6 + 4, none⟩ = some (.int .u64 x.im) ∧ w.cell? ⟨g, o + i * 6 + 5, none⟩ = some (.slice A' x.xs.length cap') ∧
  TmC w S [.int .i64 x.k, .string x.s, .int .i64 x.n, .int .u64 x.re, .int .u64 x.im, .slice A' x.xs.length cap'] x
/-- Its numbers are in range. -/
def Ranged (t : Tm) : Prop := (-9223372036854775808 ≤ t.k ∧ t.k ≤ 9223372036854775807) ∧ t.s.size ≤ 140737488351232 ∧ (-9223372036854775808 ≤ t.n ∧ t.n ≤ 9223372036854775807) ∧
    (0 ≤ t.re ∧ t.re ≤ 18446744073709551615) ∧ (0 ≤ t.im ∧ t.im ≤ 18446744073709551615) ∧ t.xs.length ≤ 140737488351232
theorem TmC.form {w : World} {S : Blk} {cs : List Value} {t : Tm} (h : TmC w S cs t) : ∃ A cap, cs = [.int .i64 t.k, .string t.s, .int .i64 t.n, .int .u64 t.re, .int .u64 t.im, .slice A t.xs.length cap] ∧ Ranged t ∧ Kids w S A t.xs := by
  cases h with
  | mk k s n re im A cap xs css hk hs hn hr hi hl hc hm ha =>
    refine ⟨A, cap, rfl, ⟨hk, hs, hn, hr, hi, hl⟩, fun i x hx => ?_⟩
    have hx' : xs[i]? = some x := hx
    have hlt := (List.getElem?_eq_some_iff.1 hx').1
    have hci : css[i]? = some (css[i]'(by omega)) := List.getElem?_eq_getElem (by omega)
    generalize css[i]'(by omega) = c at hci
    obtain ⟨h6, g, o, e, hS, hcell⟩ := hm i c hci
    have hta := ha i c x hci hx'
    obtain ⟨A', cap', rfl⟩ := hta.form0
    exact ⟨g, o, A', cap', e, hS, hcell 0 _ rfl, hcell 1 _ rfl, hcell 2 _ rfl, hcell 3 _ rfl, hcell 4 _ rfl, hcell 5 _ rfl, hta⟩
theorem TmC.of {w : World} {S : Blk} {A : Option Addr} {cap : Nat} {t : Tm} (hr : Ranged t) (hk : Kids w S A t.xs) : TmC w S [.int .i64 t.k, .string t.s, .int .i64 t.n, .int .u64 t.re, .int .u64 t.im, .slice A t.xs.length cap] t := by
  obtain ⟨k, s, n, re, im, xs⟩ := t
  obtain ⟨h1, h2, h3, h4, h5, h6⟩ := hr
  have hex : ∀ i : Nat, ∃ c : List Value, ∀ x, xs[i]? = some x → TmC w S c x ∧ c.length = 6 ∧ ∃ g o, A = some ⟨g, o, none⟩ ∧ S g ∧ ∀ (j : Nat) (u : Value), c[j]? = some u → w.cell? ⟨g, o + i * 6 + j, none⟩ = some u := by
    intro i
    by_cases hi : i < xs.length
    · obtain ⟨g, o, A', cap', e, hS, g0, g1, g2, g3, g4, g5, ht⟩ := hk i xs[i] (List.getElem?_eq_getElem hi)
      refine ⟨[.int .i64 xs[i].k, .string xs[i].s, .int .i64 xs[i].n, .int .u64 xs[i].re, .int .u64 xs[i].im, .slice A' xs[i].xs.length cap'], fun x hx => ?_⟩
      rw [List.getElem?_eq_getElem hi] at hx
      cases hx
      refine ⟨ht, rfl, g, o, e, hS, fun j u hu => ?_⟩
      match j, hu with
      | 0, hu => cases hu; exact g0
      | 1, hu => cases hu; exact g1
      | 2, hu => cases hu; exact g2
      | 3, hu => cases hu; exact g3
      | 4, hu => cases hu; exact g4
      | 5, hu => cases hu; exact g5
      | j + 6, hu => simp at hu
    · exact ⟨[], fun x hx => absurd (List.getElem?_eq_some_iff.1 hx).1 hi⟩
  obtain ⟨f, hf⟩ := Classical.axiomOfChoice hex
  refine .mk k s n re im A cap xs ((List.range xs.length).map f) h1 h2 h3 h4 h5 h6 (by simp) (fun i c hc => ?_) (fun i c t hc ht => ?_)
  · have hi : i < xs.length := by
      have := (List.getElem?_eq_some_iff.1 hc).1
      simpa using this
    have := hf i xs[i] (List.getElem?_eq_getElem hi)
    simp [hi] at hc
    subst hc
    exact ⟨this.2.1, this.2.2⟩
  · have hi : i < xs.length := (List.getElem?_eq_some_iff.1 ht).1
    have := hf i t ht
    simp [hi] at hc
    subst hc
    exact this.1
end Go.Proofs.Ytceahdlcbiialaa
