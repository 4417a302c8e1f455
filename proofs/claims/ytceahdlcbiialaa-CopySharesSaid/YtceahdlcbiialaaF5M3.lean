/- Heaps of words as they lie in memory, and how they read; loops by a goto. No condition. -/
import Derived.Maps.AppendAt
import Derived.Deep.AppendLies
import Derived.Test.YtceahdlcbiialaaF5M2
set_option linter.unusedVariables false
set_option linter.unusedSimpArgs false
namespace Go.Proofs.Ytceahdlcbiialaa
open Go.RowKit

/-! ### Frames at a label -/
def Fr (n : Nat) (f : Nat → Value) : Act := ⟨((List.range n).map f).toArray, []⟩
def sl (a : Act) (i : Nat) : Value := a.tmps.getD i undef
theorem fr_of {a : Act} {n : Nat} (h : a.tmps.size = n) (hd : a.defers = []) : ∃ f, a = Fr n f ∧ ∀ i, sl a i = f i := by
  refine ⟨sl a, ?_, fun _ => rfl⟩
  obtain ⟨t, d⟩ := a
  simp only at h hd
  subst hd
  unfold Fr
  congr 1
  apply Array.ext
  · simp [h]
  · intro i h1 h2
    simp [sl, Array.getD, h1]
/-- What holds at a label. -/
def AtL (n : Nat) (R : (Nat → Value) → World → Prop) (a : Act) (w : World) : Prop := a.tmps.size = n ∧ a.defers = [] ∧ R (sl a) w
theorem wp_goto_loop {P : Program} {a : Act} {w : World} {Q : Exit → Act → World → Prop} {c rest : Code} (l n : Nat) (R : (Nat → Value) → World → Prop) (μ : (Nat → Value) → World → Nat)
    (hf : findLabel c l = some (Code.skip.seq rest))
    (pass : ∀ f w, R f w → rest.wp P (Exit.jump l (fun a' w' => AtL n R a' w' ∧ μ (sl a') w' < μ f w) Q) (Fr n f) w)
    (first : (∀ a w, AtL n R a w → rest.wp P (Exit.jump l (AtL n R) Q) a w) → c.wp P (Exit.jump l (AtL n R) Q) a w) : (Code.scope c).wp P Q a w := by
  have hp : ∀ a w, AtL n R a w → rest.wp P (Exit.jump l (fun a' w' => AtL n R a' w' ∧ μ (sl a') w' < μ (sl a) w) Q) a w := by
    rintro a w ⟨h1, h2, h3⟩
    obtain ⟨f, rfl, h4⟩ := fr_of h1 h2
    have h5 : sl (Fr n f) = f := funext h4
    rw [h5] at h3 ⊢
    exact pass f w h3
  refine wp_scope_jumps l (AtL n R) (fun a w => μ (sl a) w) hf (first fun a w h => wp_mono (hp a w h) ?_) (fun a w h => wp_seq (wp_skip (hp a w h)))
  intro e a w h
  cases e with
  | goto l' => exact ⟨h.1, h.2.1⟩
  | _ => exact h

/-! ### A quiet callee behind an earlier draw -/
theorem quiet2 {P : Program} {f : FuncId} {args : Array Value} {w : World} {a n : Nat} {v : Value} (h : Calls P f args (w.drewN (a + n)) fun e w' => e = .returned v ∧ w' = w.drewN (a + n)) :
    Calls P f args (w.drewN (a + n)) fun e w'' => e = .returned v ∧ ∃ m, w'' = w.drewN (a + m) := h.mono fun _ _ ⟨he, hm⟩ => ⟨he, n, hm⟩
theorem quiet2d {P : Program} {f : FuncId} {args : Array Value} {w : World} {a n : Nat} {v : Value} (h : Calls P f args (w.drewN (a + n)) fun e w' => e = .returned v ∧ ∃ m, w' = (w.drewN (a + n)).drewN m) :
    Calls P f args (w.drewN (a + n)) fun e w'' => e = .returned v ∧ ∃ m, w'' = w.drewN (a + m) := h.mono fun _ _ ⟨he, m, hm⟩ => ⟨he, n + m, by rw [hm, World.drewN_drewN, Nat.add_assoc]⟩

/-! ### Words in memory -/
def nums (l : List Nat) : List Value := l.map fun (x : Nat) => Value.int .u64 (x : Int)
theorem nums_length (l : List Nat) : (nums l).length = l.length := by simp [nums]
theorem nums_get (l : List Nat) (i : Nat) : (nums l)[i]? = (l[i]?).map fun (x : Nat) => Value.int .u64 (x : Int) := by simp [nums]
/-- A slice that reads as these words. -/
def SlR (w : World) (A : Option Addr) (l : List Nat) : Prop := ∀ (i x : Nat), l[i]? = some x → ∃ ad, A = some ad ∧ w.cell? (ad.add i) = some (.int .u64 x)
/-- A heap that reads as these words: its slice lies at place ol of its struct, its bound at om. -/
def HeapR (w : World) (ol om p most : Nat) (l : List Nat) : Prop :=
  (∃ A c, w.cell? ⟨p, ol, none⟩ = some (.slice A l.length c) ∧ SlR w A l) ∧ w.cell? ⟨p, om, none⟩ = some (.int .i64 most) ∧ most ≤ 1048576 ∧ l.length ≤ most ∧ ∀ x ∈ l, x < 18446744073709551616
/-- Words are words. -/
def Words (most : Nat) (l : List Nat) : Prop := most ≤ 1048576 ∧ l.length ≤ most ∧ ∀ x ∈ l, x < 18446744073709551616
/-- package heap's heap -/
def HeapA (p most : Nat) (l : List Nat) : Asn := Ex fun v => Two (Pt p #[.int .i64 most, v] 121) (Two (Row v 34 1 l.length (nums l)) (Fact (Words most l)))
/-- the reference's heap -/
def HeapB (p most : Nat) (l : List Nat) : Asn := Ex fun v => Two (Pt p #[v, .int .i64 most] 135) (Two (Row v 34 1 l.length (nums l)) (Fact (Words most l)))

section
variable {w : World} {S : Blk} {Γ : List Asn} {p most : Nat} {l : List Nat}
theorem row_read {v : Value} {e : TypeId} {Γ : List Asn} (h : Ok w S (Row v e 1 l.length (nums l) :: Γ)) : ∃ A c, v = .slice A l.length c ∧ SlR w A l := by
  have ho := h.rowOwns
  rcases ho.2 with ⟨rfl, hn⟩ | ⟨g, cap, cur, rfl, _⟩
  · refine ⟨none, 0, by rw [hn], fun i x hx => ?_⟩
    have := (List.getElem?_eq_some_iff.1 hx).1
    omega
  · refine ⟨_, cap, rfl, fun i x hx => ⟨_, rfl, ho.cells (g := g) rfl i _ (by rw [nums_get, hx]; rfl)⟩⟩
theorem Ok.heapA (h : Ok w S (HeapA p most l :: Γ)) : ∃ v, Ok w S (Pt p #[.int .i64 most, v] 121 :: Row v 34 1 l.length (nums l) :: Γ) ∧ Words most l := by
  obtain ⟨v, h⟩ := Ok.ex.1 h
  have h := Ok.two.1 h
  have h2 := Ok.two.1 (h.p1)
  have h3 := Ok.fact.1 (h2.p1)
  exact ⟨v, h3.2.p1, h3.1⟩
theorem Ok.heapA_mk {v : Value} (h : Ok w S (Pt p #[.int .i64 most, v] 121 :: Row v 34 1 l.length (nums l) :: Γ)) (hw : Words most l) : Ok w S (HeapA p most l :: Γ) := by
  have h4 := (Ok.fact.2 ⟨hw, h⟩).p2
  exact Ok.ex.2 ⟨v, Ok.two.2 ((Ok.two.2 h4).p1)⟩
theorem Ok.heapB (h : Ok w S (HeapB p most l :: Γ)) : ∃ v, Ok w S (Pt p #[v, .int .i64 most] 135 :: Row v 34 1 l.length (nums l) :: Γ) ∧ Words most l := by
  obtain ⟨v, h⟩ := Ok.ex.1 h
  have h := Ok.two.1 h
  have h2 := Ok.two.1 (h.p1)
  have h3 := Ok.fact.1 (h2.p1)
  exact ⟨v, h3.2.p1, h3.1⟩
theorem Ok.heapB_mk {v : Value} (h : Ok w S (Pt p #[v, .int .i64 most] 135 :: Row v 34 1 l.length (nums l) :: Γ)) (hw : Words most l) : Ok w S (HeapB p most l :: Γ) := by
  have h4 := (Ok.fact.2 ⟨hw, h⟩).p2
  exact Ok.ex.2 ⟨v, Ok.two.2 ((Ok.two.2 h4).p1)⟩
/-- How a heap reads. -/
theorem Ok.heapAR (h : Ok w S (HeapA p most l :: Γ)) : HeapR w 1 0 p most l := by
  obtain ⟨v, h1, hw⟩ := h.heapA
  obtain ⟨A, c, rfl, hr⟩ := row_read (h1.p1)
  exact ⟨⟨A, c, h1.ptCell 1 _ rfl, hr⟩, h1.ptCell 0 _ rfl, hw⟩
theorem Ok.heapBR (h : Ok w S (HeapB p most l :: Γ)) : HeapR w 0 1 p most l := by
  obtain ⟨v, h1, hw⟩ := h.heapB
  obtain ⟨A, c, rfl, hr⟩ := row_read (h1.p1)
  exact ⟨⟨A, c, h1.ptCell 0 _ rfl, hr⟩, h1.ptCell 1 _ rfl, hw⟩
theorem HeapR.of_heap {w w' : World} {ol om : Nat} (h : HeapR w ol om p most l) (hw : ∀ b, b < w.heap.size → w'.heap[b]? = w.heap[b]?) : HeapR w' ol om p most l := by
  have hc : ∀ a v, w.cell? a = some v → w'.cell? a = some v := fun a v ha => (World.cell?_of_block (w := w) (hw a.block (World.block_lt_of_cell? w a ha))).trans ha
  obtain ⟨⟨A, c, h1, h2⟩, h3, h4⟩ := h
  refine ⟨⟨A, c, hc _ _ h1, fun i x hx => ?_⟩, hc _ _ h3, h4⟩
  obtain ⟨ad, e, h5⟩ := h2 i x hx
  exact ⟨ad, e, hc _ _ h5⟩
theorem HeapR.drewN {w : World} {ol om : Nat} (h : HeapR w ol om p most l) (n : Nat) : HeapR (w.drewN n) ol om p most l := h
end
/-! ### append(v, x): one element behind a row of its own -/
section
variable {P : Program} {ops : Array Oper} {rest : List Oper} {o : Oper} {a : Act} {Q : Exit → Act → World → Prop}
theorem wpList_append_ok (hgd : o.guard = none) (s x : Operand) (t e : TypeId) (z : Value) (size bytes : Nat)
    (ho : o.op = .call { callee := .builtin .append, args := #[s, x], argTypes := #[t, t] })
    (ht : P.underlying t = some (.slice e)) (hinfo : (P.info? e).map (fun i => (i.zero, i.size, i.bytes)) = some (some z, size, bytes)) (hzs : z.cells.size = size) (hsz : 0 < size) (hby : 0 < bytes)
    {w0 W : World} {S0 S : Blk} {Γ : List Asn} {v : Value} {n : Nat} {xs : List Value} (H : To w0 S0 W S (Row v e size n xs :: Γ)) (hs : a.eval s = v)
    (ys : List Value) (ad : Addr) (hx : a.eval x = .slice (some ad) 1 1) (hys : ys.length = size) (hnews : ∀ j u, ys[j]? = some u → W.cell? (ad.add j) = some u) (h1 : ∀ u ∈ ys, u.oneCell' = true) (hl : (n + 1) * bytes ≤ 140737488355328)
    (h : ∀ A' c' W', To w0 S0 W' S (Row (.slice A' (n + 1) c') e size (n + 1) (xs ++ ys) :: Γ) → wpList P ops Q rest (a.put o.dst (.slice A' (n + 1) c')) W') : wpList P ops Q (o :: rest) a W := by
  obtain ⟨i0, hi, hzz⟩ := Option.map_eq_some_iff.1 hinfo
  simp only [Prod.mk.injEq] at hzz
  obtain ⟨hz0, hz1, hz2⟩ := hzz
  have hle : n + 1 ≤ 140737488355328 := Nat.le_trans (Nat.le_mul_of_pos_right _ hby) hl
  refine wpList_append_own_at W hgd s x t ho 0 e i0 z size bytes ht hi hz0 hz1 hz2 hzs hsz v n xs hs H.ok.rowOwns ad 1 1 ys hx (by omega) hnews h1 (by simp only [maxLen]; omega) hl (Nat.zero_le _) ?_
  intro v' w' hown hg _ hat
  have H2 := H.trans (H.ok.rowGrown hg hown (hat.imp id (by
    intro e b hb
    rw [e] at hb
    cases hb
    exact Nat.le_refl _)))
  rcases hown.2 with ⟨_, h0⟩ | ⟨g, cap, cur, rfl, _⟩
  · omega
  · exact h _ _ w' H2
theorem wp_append_ok {K : Act → World → Prop} (s x : Operand) (t e : TypeId) (z : Value) (size bytes : Nat)
    (ho : o.op = .call { callee := .builtin .append, args := #[s, x], argTypes := #[t, t] })
    (ht : P.underlying t = some (.slice e)) (hinfo : (P.info? e).map (fun i => (i.zero, i.size, i.bytes)) = some (some z, size, bytes)) (hzs : z.cells.size = size) (hsz : 0 < size) (hby : 0 < bytes)
    {w0 W : World} {S0 S : Blk} {Γ : List Asn} {v : Value} {n : Nat} {xs : List Value} (H : To w0 S0 W S (Row v e size n xs :: Γ)) (hs : a.eval s = v)
    (ys : List Value) (ad : Addr) (hx : a.eval x = .slice (some ad) 1 1) (hys : ys.length = size) (hnews : ∀ j u, ys[j]? = some u → W.cell? (ad.add j) = some u) (h1 : ∀ u ∈ ys, u.oneCell' = true) (hl : (n + 1) * bytes ≤ 140737488355328)
    (h : ∀ A' c' W', To w0 S0 W' S (Row (.slice A' (n + 1) c') e size (n + 1) (xs ++ ys) :: Γ) → K (a.put o.dst (.slice A' (n + 1) c')) W') : o.wp P a W K Q := by
  obtain ⟨i0, hi, hzz⟩ := Option.map_eq_some_iff.1 hinfo
  simp only [Prod.mk.injEq] at hzz
  obtain ⟨hz0, hz1, hz2⟩ := hzz
  have hle : n + 1 ≤ 140737488355328 := Nat.le_trans (Nat.le_mul_of_pos_right _ hby) hl
  obtain ⟨v', w', hr, hown, hg, h4, hat⟩ := run_append_own_at (P := P) W 0 t o.type e i0 z size bytes ht hi hz0 hz1 hz2 hzs hsz v n xs H.ok.rowOwns ad 1 1 ys (by omega) hnews h1 (by simp only [maxLen]; omega) hl (Nat.zero_le _)
  unfold Oper.wp execOp
  simp only [ho, resolve, invoke, builtin, Sem.run_bind, Sem.run_pure, Result.andThen_ok, List.map_toArray, List.map_cons, List.map_nil, hs, hx, hr]
  have H2 := H.trans (H.ok.rowGrown hg hown (hat.imp id (by
    intro e b hb
    rw [e] at hb
    cases hb
    exact Nat.le_refl _)))
  rcases hown.2 with ⟨_, h0⟩ | ⟨g, cap, cur, rfl, _⟩
  · omega
  · exact h _ _ w' H2
/-- in a region that draws its order -/
theorem step_append_ok {K : Act → World → Prop} {E : Prop} (hgd : o.guard = none) (s x : Operand) (t e : TypeId) (z : Value) (size bytes : Nat)
    (ho : o.op = .call { callee := .builtin .append, args := #[s, x], argTypes := #[t, t] })
    (ht : P.underlying t = some (.slice e)) (hinfo : (P.info? e).map (fun i => (i.zero, i.size, i.bytes)) = some (some z, size, bytes)) (hzs : z.cells.size = size) (hsz : 0 < size) (hby : 0 < bytes)
    {w0 W : World} {S0 S : Blk} {Γ : List Asn} {v : Value} {n : Nat} {xs : List Value} (H : To w0 S0 W S (Row v e size n xs :: Γ)) (hs : a.eval s = v)
    (ys : List Value) (ad : Addr) (hx : a.eval x = .slice (some ad) 1 1) (hys : ys.length = size) (hnews : ∀ j u, ys[j]? = some u → W.cell? (ad.add j) = some u) (h1 : ∀ u ∈ ys, u.oneCell' = true) (hl : (n + 1) * bytes ≤ 140737488355328)
    (h : ∀ A' c' W', To w0 S0 W' S (Row (.slice A' (n + 1) c') e size (n + 1) (xs ++ ys) :: Γ) → K (a.put o.dst (.slice A' (n + 1) c')) W') : if Region.wanted o (yielded ops a.tmps) = true then Oper.wp P o a W K Q else E := by
  have hw : Region.wanted o (yielded ops a.tmps) = true := by simp [Region.wanted, hgd]
  rw [if_pos hw]
  exact wp_append_ok s x t e z size bytes ho ht hinfo hzs hsz hby H hs ys ad hx hys hnews h1 hl h
theorem step_append_new {K : Act → World → Prop} {E : Prop} (hgd : o.guard = none) (s x : Operand) (t e : TypeId) (z : Value) (size bytes : Nat)
    (ho : o.op = .call { callee := .builtin .append, args := #[s, x], argTypes := #[t, t] })
    (ht : P.underlying t = some (.slice e)) (hinfo : (P.info? e).map (fun i => (i.zero, i.size, i.bytes)) = some (some z, size, bytes)) (hzs : z.cells.size = size) (hsz : 0 < size) (hby : 0 < bytes)
    {w0 W : World} {S0 S : Blk} {Γ : List Asn} {v : Value} {n : Nat} {xs : List Value} (H : To w0 S0 W S (Row v e size n xs :: Γ)) (hs : a.eval s = v)
    (ys : Array Value) (hx : a.eval x = .slice (some ⟨W.heap.size, 0, none⟩) 1 1) (hys : ys.size = size) (h1 : ∀ u ∈ ys.toList, u.oneCell' = true) (hl : (n + 1) * bytes ≤ 140737488355328)
    (h : ∀ A' c' W', To w0 S0 W' S (Row (.slice A' (n + 1) c') e size (n + 1) (xs ++ ys.toList) :: Γ) → K (a.put o.dst (.slice A' (n + 1) c')) W') : if Region.wanted o (yielded ops a.tmps) = true then Oper.wp P o a (W.alloc (.cells ys e)) K Q else E :=
  step_append_ok hgd s x t e z size bytes ho ht hinfo hzs hsz hby (H.alloc _) hs ys.toList ⟨W.heap.size, 0, none⟩ hx (by simpa using hys) (World.news_of_block (heap_alloc_new W _)) h1 hl h
/-- .. the variadic's box just made -/
theorem wpList_append_new (hgd : o.guard = none) (s x : Operand) (t e : TypeId) (z : Value) (size bytes : Nat)
    (ho : o.op = .call { callee := .builtin .append, args := #[s, x], argTypes := #[t, t] })
    (ht : P.underlying t = some (.slice e)) (hinfo : (P.info? e).map (fun i => (i.zero, i.size, i.bytes)) = some (some z, size, bytes)) (hzs : z.cells.size = size) (hsz : 0 < size) (hby : 0 < bytes)
    {w0 W : World} {S0 S : Blk} {Γ : List Asn} {v : Value} {n : Nat} {xs : List Value} (H : To w0 S0 W S (Row v e size n xs :: Γ)) (hs : a.eval s = v)
    (ys : Array Value) (hx : a.eval x = .slice (some ⟨W.heap.size, 0, none⟩) 1 1) (hys : ys.size = size) (h1 : ∀ u ∈ ys.toList, u.oneCell' = true) (hl : (n + 1) * bytes ≤ 140737488355328)
    (h : ∀ A' c' W', To w0 S0 W' S (Row (.slice A' (n + 1) c') e size (n + 1) (xs ++ ys.toList) :: Γ) → wpList P ops Q rest (a.put o.dst (.slice A' (n + 1) c')) W') : wpList P ops Q (o :: rest) a (W.alloc (.cells ys e)) :=
  wpList_append_ok hgd s x t e z size bytes ho ht hinfo hzs hsz hby (H.alloc _) hs ys.toList ⟨W.heap.size, 0, none⟩ hx (by simpa using hys) (World.news_of_block (heap_alloc_new W _)) h1 hl h
end

/-! ### A block of known cells as a row -/
theorem Ok.ptRow {w : World} {S : Blk} {Γ : List Asn} {b : Nat} {cs : Array Value} {e : TypeId} (h : Ok w S (Pt b cs e :: Γ)) (size n : Nat) (hn : cs.size = n * size) (hm : n ≤ maxLen) : Ok w S (Row (.slice (some ⟨b, 0, none⟩) n n) e size n cs.toList :: Γ) := by
  obtain ⟨ho, F, hF, ⟨h1, h2⟩, hr⟩ := h
  refine ⟨ho, F, hF, ⟨fun x => ?_, by simpa using hn, .inr ⟨b, n, cs, rfl, Nat.zero_le _, h2, Nat.le_refl _, hm, hn, ?_⟩⟩, hr⟩
  · rw [h1 x]
    simp [Value.ownBlock, eq_comm]
  · rw [← hn, ← Array.length_toList, List.take_length]
/-! ### One element of a row -/
theorem add0 (g i : Nat) : (⟨g, 0, none⟩ : Addr).add i = ⟨g, i, none⟩ := by unfold Addr.add; split <;> simp_all
theorem Ok.rowAt {w : World} {S : Blk} {Γ : List Asn} {A : Option Addr} {n n' c : Nat} {e : TypeId} {size : Nat} {xs : List Value} (h : Ok w S (Row (.slice A n c) e size n' xs :: Γ)) (i : Nat) (x : Value) (hx : xs[i]? = some x) :
    ∃ ad, A = some ad ∧ w.cell? (ad.add i) = some x ∧ w.frozen? (ad.add i) = false ∧ ∀ v, To w S (w.setCell (ad.add i) v) S (Row (.slice A n c) e size n' (xs.set i v) :: Γ) := by
  have ho := h.rowOwns
  rcases ho.2 with ⟨e1, hn⟩ | ⟨g, cap, cur, e1, h1, h2, h3⟩
  · subst hn
    have := ho.1
    have := (List.getElem?_eq_some_iff.1 hx).1
    omega
  · cases e1
    refine ⟨_, rfl, ho.cells (g := g) rfl i _ hx, by rw [add0]; simp [World.frozen?, h2], fun v => ?_⟩
    rw [add0]
    exact h.rowGrown ⟨rfl, rfl, rfl, by simp [World.setCell], fun k _ hk => Below.heap_setCell _ _ _ _ (fun e => hk (by simp [Value.ownBlock, e]))⟩ (ho.stored i v).1 (.inl rfl)

/-- The end of what a chain of references comes to. -/
def deref (l : List Nat) : Nat → Nat → Nat
  | 0, c => c
  | k + 1, c => if tg c = 0 then match l[vl c]? with | some d => if d = c then c else deref l k d | none => c else c
end Go.Proofs.Ytceahdlcbiialaa
