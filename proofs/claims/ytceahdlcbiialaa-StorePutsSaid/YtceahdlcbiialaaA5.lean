/- Rows of structs; appends within a round. -/
import Derived.Maps.OwnIn
import Derived.Test.YtceahdlcbiialaaA4
set_option linter.unusedVariables false
set_option linter.unusedSimpArgs false
namespace Go.Proofs.Ytceahdlcbiialaa
open Go.RowKit

section
variable {w0 w : World} {S0 S : Blk} {Γ : List Asn} {e : TypeId} {size n : Nat}
theorem Ok.rowPop {A : Option Addr} {c : Nat} {xs last : List Value} (h : Ok w S (Row (.slice A (n + 1) c) e size (n + 1) (xs ++ last) :: Γ)) (hx : xs.length = n * size) : Ok w S (Row (.slice A n c) e size n xs :: Γ) := by
  obtain ⟨ho, F, hF, ⟨h1, h2⟩, hr⟩ := h
  refine ⟨ho, F, hF, ⟨fun b => ?_, ?_⟩, hr⟩
  · rw [h1 b]; cases A <;> simp [Value.ownBlock]
  · rcases h2.2 with ⟨e1, e2⟩ | ⟨g, cap, cur, e1, _⟩
    · cases e1
    · cases e1
      exact ownsRow_pop hx h2
theorem To.rowPop {A : Option Addr} {c : Nat} {xs last : List Value} (h : To w0 S0 w S (Row (.slice A (n + 1) c) e size (n + 1) (xs ++ last) :: Γ)) (hx : xs.length = n * size) : To w0 S0 w S (Row (.slice A n c) e size n xs :: Γ) := h.re fun k => k.rowPop hx
theorem Ok.rowShape {v : Value} {xs : List Value} (h : Ok w S (Row v e size n xs :: Γ)) : ∃ A c, v = .slice A n c := by
  rcases h.rowOwns.2 with ⟨e1, hn⟩ | ⟨g, cap, cur, e1, _⟩
  · exact ⟨none, 0, by rw [e1, hn]⟩
  · exact ⟨_, _, e1⟩
/-- The last of a row. -/
theorem Ok.rowLast {v : Value} {xs last : List Value} (h : Ok w S (Row v e size (n + 1) (xs ++ last) :: Γ)) (hx : xs.length = n * size) :
    ∃ g c, v = .slice (some ⟨g, 0, none⟩) (n + 1) c ∧ n + 1 ≤ c ∧ g < w.heap.size ∧ ¬ S g ∧ ∀ (i : Nat) (u : Value), last[i]? = some u → w.cell? ⟨g, n * size + i, none⟩ = some u := by
  have ho := h.rowOwns
  obtain ⟨F, hF, ⟨h1, _⟩, _⟩ := h.head
  rcases ho.2 with ⟨e1, hn⟩ | ⟨g, cap, cur, e1, h3, h2, h4⟩
  · omega
  · subst e1
    refine ⟨g, cap, rfl, h4.1, (hF g ((h1 g).2 rfl)).2, (hF g ((h1 g).2 rfl)).1, fun i u hu => ?_⟩
    rw [← add0]
    refine ho.cells (g := g) rfl _ _ ?_
    rw [← hx, List.getElem?_append_right (by omega)]
    simpa using hu
end

section
variable {F : Fence} {nF : Nat} {P : Program} {ops : Array Oper} {rest : List Oper} {o : Oper} {a : Act} {Q : Exit → Act → World → Prop}
theorem wpListIn_append_ok (hgd : o.guard = none) (s x : Operand) (t e : TypeId) (z : Value) (size bytes : Nat)
    (ho : o.op = .call { callee := .builtin .append, args := #[s, x], argTypes := #[t, t] })
    (ht : P.underlying t = some (.slice e)) (hinfo : (P.info? e).map (fun i => (i.zero, i.size, i.bytes)) = some (some z, size, bytes)) (hzs : z.cells.size = size) (hsz : 0 < size) (hby : 0 < bytes)
    {w0 W : World} {S0 S : Blk} {Γ : List Asn} {v : Value} {n : Nat} {xs : List Value} (H : To w0 S0 W S (Row v e size n xs :: Γ)) (hs : a.eval s = v)
    (ys : List Value) (ad : Addr) (hx : a.eval x = .slice (some ad) 1 1) (hys : ys.length = size) (hnews : ∀ j u, ys[j]? = some u → W.cell? (ad.add j) = some u) (h1 : ∀ u ∈ ys, u.oneCell' = true) (hl : (n + 1) * bytes ≤ 140737488355328)
    (h : ∀ A' c' W', To w0 S0 W' S (Row (.slice A' (n + 1) c') e size (n + 1) (xs ++ ys) :: Γ) → wpListIn F nF P ops Q rest (a.put o.dst (.slice A' (n + 1) c')) W') : wpListIn F nF P ops Q (o :: rest) a W := by
  obtain ⟨i0, hi, hzz⟩ := Option.map_eq_some_iff.1 hinfo
  simp only [Prod.mk.injEq] at hzz
  obtain ⟨hz0, hz1, hz2⟩ := hzz
  have hle : n + 1 ≤ 140737488355328 := Nat.le_trans (Nat.le_mul_of_pos_right _ hby) hl
  refine wpListIn_append_own_at (w := W) hgd s x t ho 0 e i0 z size bytes ht hi hz0 hz1 hz2 hzs hsz v n xs hs H.ok.rowOwns ad 1 1 ys hx (by omega) hnews h1 (by simp only [maxLen]; omega) hl (Nat.zero_le _) ?_
  intro v' w' hown hg _ hat
  have H2 := H.trans (H.ok.rowGrown hg hown (hat.imp id (by
    intro e b hb
    rw [e] at hb
    cases hb
    exact Nat.le_refl _)))
  rcases hown.2 with ⟨_, h0⟩ | ⟨g, cap, cur, rfl, _⟩
  · omega
  · exact h _ _ w' H2
theorem wpListIn_append_new (hgd : o.guard = none) (s x : Operand) (t e : TypeId) (z : Value) (size bytes : Nat)
    (ho : o.op = .call { callee := .builtin .append, args := #[s, x], argTypes := #[t, t] })
    (ht : P.underlying t = some (.slice e)) (hinfo : (P.info? e).map (fun i => (i.zero, i.size, i.bytes)) = some (some z, size, bytes)) (hzs : z.cells.size = size) (hsz : 0 < size) (hby : 0 < bytes)
    {w0 W : World} {S0 S : Blk} {Γ : List Asn} {v : Value} {n : Nat} {xs : List Value} (H : To w0 S0 W S (Row v e size n xs :: Γ)) (hs : a.eval s = v)
    (ys : Array Value) (hx : a.eval x = .slice (some ⟨W.heap.size, 0, none⟩) 1 1) (hys : ys.size = size) (h1 : ∀ u ∈ ys.toList, u.oneCell' = true) (hl : (n + 1) * bytes ≤ 140737488355328)
    (h : ∀ A' c' W', To w0 S0 W' S (Row (.slice A' (n + 1) c') e size (n + 1) (xs ++ ys.toList) :: Γ) → wpListIn F nF P ops Q rest (a.put o.dst (.slice A' (n + 1) c')) W') : wpListIn F nF P ops Q (o :: rest) a (W.alloc (.cells ys e)) :=
  wpListIn_append_ok hgd s x t e z size bytes ho ht hinfo hzs hsz hby (H.alloc _) hs ys.toList ⟨W.heap.size, 0, none⟩ hx (by simpa using hys) (World.news_of_block (heap_alloc_new W _)) h1 hl h
end
/-- Terms on the way: a stack, the first is its top. -/
structure It where
  t : Tm
  A : Option Addr
  c : Nat
  d : Nat
abbrev It.six (i : It) : List Value := [.int .i64 i.t.k, .string i.t.s, .int .i64 i.t.n, .int .u64 i.t.re, .int .u64 i.t.im, .slice i.A i.t.xs.length i.c]
abbrev It.v (i : It) : List Value := [.int .i64 i.t.k, .string i.t.s, .int .i64 i.t.n, .int .u64 i.t.re, .int .u64 i.t.im, .slice i.A i.t.xs.length i.c, .int .i64 i.d]
def stkV : List It → List Value
  | [] => []
  | i :: l => stkV l ++ i.v
theorem stkV_length : ∀ l : List It, (stkV l).length = l.length * 7
  | [] => rfl
  | i :: l => by simp [stkV, stkV_length l]; omega
/-- At a return ahead of a range over a function; behind one. -/
theorem bodyM_ret {P : Program} {fn : Func} {R : Ending → World → Prop} {tmps : Array Value} {w : World} {v : Value} (hv : (results fn tmps).run P w = .ok v w) (h : R (.returned v) w) : bodyPostM Fence.wide 5 P fn R .ret { tmps := tmps, defers := [] } w := ⟨v, hv, h⟩
theorem bodyM_done {P : Program} {fn : Func} {R : Ending → World → Prop} {tmps : Array Value} {D : Nat} {w w0 : World} {S S0 : Blk} {Γ : List Asn} {v : Value} (h : To w0 S0 w S (Raw D (.deferred (some [])) :: Γ)) (hv : ∀ W, (results fn tmps).run P W = .ok v W)
    (hR : ∀ W, To w0 S0 W S Γ → R (.returned v) W) : bodyPostM Fence.wide 5 P fn R .ret { tmps := tmps, defers := [{ target := .collected D, args := #[] }] } w :=
  ⟨by simp, .inl ⟨_, _, rfl, run_takeDeferred h.ok.rawHeap, ⟨v, hv _, hR _ (h.rawPut _).drop⟩⟩⟩
end Go.Proofs.Ytceahdlcbiialaa
