/- A range over a map that is only read. -/
import Derived.Laws.IdiomRangeMap
import Derived.Test.YtceahdlcbiialaaA7
set_option linter.unusedVariables false
set_option linter.unusedSimpArgs false
namespace Go.Proofs.Ytceahdlcbiialaa
open Go.RowKit

/-- What leaves the tape as it was. -/
def Tame {α : Type} (P : Program) (m : Sem α) : Prop := ∀ (w : World) (v : α) (w' : World), m.run P w = .ok v w' → w'.tape = w.tape
section
variable {P : Program}
theorem tame_pure {α : Type} (a : α) : Tame P (pure a : Sem α) := fun w v w' h => by
  simp only [Sem.run_pure, Result.ok.injEq] at h
  rw [h.2]
theorem tame_bind {α β : Type} {m : Sem α} {f : α → Sem β} (hm : Tame P m) (hf : ∀ a, Tame P (f a)) : Tame P (m >>= f) := fun w v w' h => by
  rw [Sem.run_bind] at h
  cases hr : m.run P w with
  | ok a w1 =>
    rw [hr] at h
    exact (hf a w1 v w' h).trans (hm w a w1 hr)
  | halt x w1 => rw [hr] at h; cases h
theorem tame_getObj (r : Nat) : Tame P (getObj r) := fun w v w' h => by
  unfold getObj at h
  simp only [Sem.run] at h
  split at h
  · cases h
  · cases h; rfl
  · cases h
theorem tame_setObj (r : Nat) (o : Obj) : Tame P (setObj r o) := fun w v w' h => by
  unfold setObj at h
  simp only [Sem.run] at h
  split at h
  · cases h
  · cases h; rfl
  · cases h
theorem tame_choose (q : Question) : Tame P (choose q) := fun w v w' h => by
  unfold choose at h
  simp only [Sem.run] at h
  split at h <;> (cases h; rfl)
theorem tame_stuck {α : Type} (s : String) : Tame P (stuck s : Sem α) := fun w v w' h => by cases h
theorem tame_unsupported {α : Type} (s : Unsupported) : Tame P (unsupported s : Sem α) := fun w v w' h => by cases h
theorem next_tame (it : Value) (b : Bool) (t : TypeId) : Tame P (Instr.next it b t) := by
  unfold Instr.next
  repeat' (first | exact tame_pure _ | exact tame_stuck _ | exact tame_unsupported _ | exact tame_getObj _ | exact tame_setObj _ _ | exact tame_choose _ | refine tame_bind ?_ (fun _ => ?_) | split)
/-- What the map's block is. -/
theorem Ok.mapRaw {α β : Type} {enc : α → Value} {val : β → Value} {w : World} {S : Blk} {Γ : List Asn} {b : Nat} {l : List (α × β)} (h : Ok w S (MapA b enc val l :: Γ)) :
    ∃ es clock, w.heap[b]? = some (.map es clock) ∧ es.toList.map (fun e => (e.key, e.val)) = l.map (fun p => (enc p.1, val p.2)) ∧ (∀ e ∈ es.toList, e.born < clock) ∧ (es.toList.map MapEntry.born).Nodup ∧ es.size = l.length := by
  obtain ⟨_, F, _, ⟨_, es, clock, h1, h2, h3, h4⟩, _⟩ := h
  refine ⟨es, clock, h1, h2, h3, h4, ?_⟩
  have := congrArg List.length h2
  simpa using this
/-- One more look at a map. -/
theorem next_map (w : World) (bm clock : Nat) (seen : Array Nat) (es : Array MapEntry) (hb : w.heap[bm]? = some (.map es clock)) (hold : ∀ x ∈ es.toList, x.born < clock) (hnd : (es.toList.map MapEntry.born).Nodup) :
    ((leftOf es seen).size = 0 ∧ ∀ ty, (Instr.next (.pointer (some ⟨w.heap.size, 0, none⟩)) false ty).run P (w.alloc (.mapIter (some bm) clock seen clock)) = .ok (.tuple #[.bool false]) (w.alloc (.mapIter (some bm) clock seen clock))) ∨
    ∃ e ∈ (leftOf es seen).toList, ∃ w1 : World, w1.heap = w.heap ∧ w1.os = w.os ∧ w1.output = w.output ∧ w1.tape = w.tape ∧ (∀ ty, (Instr.next (.pointer (some ⟨w.heap.size, 0, none⟩)) false ty).run P (w.alloc (.mapIter (some bm) clock seen clock)) = .ok (.tuple #[.bool true, e.key, e.val]) (w1.alloc (.mapIter (some bm) clock (seen.push e.born) clock))) ∧
      (Instr.entry (.pointer (some ⟨w.heap.size, 0, none⟩))).run P (w1.alloc (.mapIter (some bm) clock (seen.push e.born) clock)) = .ok (.tuple #[e.key, e.val]) (w1.alloc (.mapIter (some bm) clock (seen.push e.born) clock)) := by
  rcases run_next_map (P := P) w 0 bm clock clock seen es clock hb hold (Nat.le_refl _) with ⟨h0, hr⟩ | ⟨e, he, w1, hal, hr⟩
  · exact .inl ⟨h0, fun _ => hr⟩
  · refine .inr ⟨e, he, w1, hal.1, hal.2.1, hal.2.2, ?_, fun _ => hr, ?_⟩
    · have := next_tame _ _ _ _ _ _ hr
      exact this
    · have hb1 : w1.heap[bm]? = some (.map es clock) := by rw [hal.1]; exact hb
      have hen := run_entry_map (P := P) w1 bm clock seen es clock e hb1 (mem_left he).1 hnd
      rw [hal.1] at hen
      exact hen
end
/-- An operation that its guard passes over. -/
theorem skipH {P : Program} {ops : Array Oper} {Q : Exit → Act → World → Prop} {md : Region.Mode} {S : World → Prop} {oi : Oper} {fuel : Nat} {listed : Array Bool} {tmps : Array Value} {ds : List Deferred} {w : World} (i d : Nat) (hi : ops[i]? = some oi) (hdst : oi.dst = some d)
    (hs : Region.noSelect ops = true) (hf : Region.free md ops listed i = true) (hr : (Region.ready md ops listed).contains i = true)
    (hQ : ∀ c a w, Q (.panic c) (a.put oi.dst undef) w → Q (.panic c) a w) (hw : Region.wanted oi (yielded ops tmps) = false) (hS : S w)
    (h : wpAnyH P md ops Q S fuel (listed.setIfInBounds i true) ⟨tmps.setIfInBounds d undef, ds⟩ w) : wpAnyH P md ops Q S (fuel + 1) listed ⟨tmps, ds⟩ w :=
  wpAnyH_take hi hs hf hr hQ (.inr ⟨hw, rfl⟩) hS (by rw [hdst]; exact h)
/-- len of a map. -/
theorem run_lenMap {P : Program} {w : World} {t k e : TypeId} {b n ck : Nat} {es : Array MapEntry} (ht : P.underlying t = some (.map k e)) (h : w.heap[b]? = some (.map es ck)) (hn : es.size = n) (ty : TypeId) : (Builtin.len_ #[t] ty #[.map (some b)]).run P w = .ok (.int .i64 (n : Int)) w := by
  simp [Builtin.len_, run_underlying ht, getObj, Sem.run, h, hn, goInt, Result.andThen]
end Go.Proofs.Ytceahdlcbiialaa
