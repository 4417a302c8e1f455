/- What a list of words, of names that came in reads as lies in memory. No condition. What laying keeps: bounds, lengths. No condition. A cell read as a term. No condition. -/
import Derived.Test.YtceahdlcbiialaaF5M17
import Derived.Test.YtceahdlcbiialaaF5M16
import Derived.Test.YtceahdlcbiialaaF5M12
import Derived.Test.YtceahdlcbiialaaF5M9
set_option linter.unusedVariables false
set_option linter.unusedSimpArgs false
namespace Go.Proofs.Ytceahdlcbiialaa
open Go.RowKit Go.WideShapes Go.ChangeShapes Go.ChangeAt

theorem cells34 : Try.prog.cellsOf 34 = 1 := by kernel_rfl
theorem bytes34 : Try.prog.bytesOf 34 = 8 := by kernel_rfl
theorem bytes9 : Try.prog.bytesOf 9 = 16 := by kernel_rfl
set_option maxRecDepth 100000 in
set_option maxHeartbeats 1000000 in
theorem open_wordsY {H : Type} {enc : TypeId × Value → H} {W : World} {sp : Nat → Bool} {hd : Bool} {base : Nat} {v : Value} {d : DataW H} {p : List MemPlace} (hval : Value.okWide Try.prog W .any base 62 v) (h : DataW.Trod enc Try.prog W 0 sp hd 62 v d p)
    (hw : ∀ n ∈ d.weights Try.prog 62, n ≤ reachBytes) (hlt : ∀ q ∈ p, q.block < W.heap.size) :
    ∃ (A : Option Addr) (cap : Nat) (l : List Nat), v = .slice A l.length cap ∧ (WordsIn W (fun b => b < W.heap.size) A l ∧ l.length ≤ 140737488351232) := by
  obtain ⟨A, len, cap, rfl⟩ := okWide_slice Try.underlying62 hval
  obtain ⟨fuel, hf⟩ := h
  have hf' : DataW.trod enc Try.prog W 0 sp hd fuel 62 [.slice A len cap] = some (d, p) := hf
  rcases DataW.trod_slice Try.underlying62 hf' with ⟨e5, r5⟩ | ⟨a, len', cap', elems, rest, n', hn', e5, r5, hb, hlc, hcm, hel, hget, -, -⟩
  · simp only [List.cons.injEq, and_true, Value.slice.injEq] at e5
    obtain ⟨rfl, rfl, rfl⟩ := e5
    exact ⟨none, 0, [], rfl, fun i x hx => by simp at hx, by simp⟩
  · simp only [List.cons.injEq, and_true, Value.slice.injEq] at e5
    obtain ⟨rfl, rfl, rfl⟩ := e5
    rw [cells34] at hget
    simp only [Prod.mk.injEq] at r5
    obtain ⟨rd, rp⟩ := r5
    have hlenb : len ≤ 140737488351232 := by
      have := hw ((elems.length + rest.length) * 8) (by rw [rd]; simp [DataW.weights, Try.underlying62, bytes34])
      have h2 : (elems.length + rest.length) * 8 ≤ 140737488351232 := this
      omega
    have hkid : ∀ i, ∃ t : Nat, i < len → t < 18446744073709551616 ∧ W.cell? (a.add i) = some (.int .u64 (t : Int)) := by
      intro i
      by_cases hi : i < len
      · have hg := hget i hi
        rw [List.getElem?_eq_getElem (by omega)] at hg
        obtain ⟨cs', hc, ht⟩ := Option.bind_eq_some_iff.1 hg
        obtain ⟨m, rfl, em, wm⟩ := DataW.trod_int Try.underlying34 ht
        have hb := bu64 wm
        refine ⟨m.toNat, fun _ => ⟨by omega, ?_⟩⟩
        have hcell := (cells_get hc).2 0 _ rfl
        rw [show ((m.toNat : Nat) : Int) = m from Int.toNat_of_nonneg hb.1]
        simpa [Addr.add] using hcell
      · exact ⟨0, fun h => absurd h hi⟩
    obtain ⟨F, hF⟩ := Classical.axiomOfChoice hkid
    have hlen2 : ((List.range len).map F).length = len := by simp
    refine ⟨some a, cap, (List.range len).map F, by rw [hlen2], ?_, by omega⟩
    intro i t ht
    have hi : i < len := by have := (List.getElem?_eq_some_iff.1 ht).1; omega
    have e : F i = t := by
      rw [List.getElem?_map, List.getElem?_range hi] at ht
      simpa using ht
    obtain ⟨hb1, hcell⟩ := hF i hi
    rw [e] at hb1 hcell
    have hspot : a.spot = none := by
      have := World.cell?_spot (hF 0 (by omega)).2
      simpa [Addr.add] using this
    obtain ⟨g, o, spt⟩ := a
    simp only at hspot
    subst hspot
    rw [addn] at hcell
    exact ⟨hb1, g, o, rfl, World.block_lt_of_cell? W _ hcell, hcell⟩
set_option maxRecDepth 100000 in
set_option maxHeartbeats 1000000 in
theorem open_strsY {H : Type} {enc : TypeId × Value → H} {W : World} {sp : Nat → Bool} {hd : Bool} {base : Nat} {v : Value} {d : DataW H} {p : List MemPlace} (hval : Value.okWide Try.prog W .any base 55 v) (h : DataW.Trod enc Try.prog W 0 sp hd 55 v d p)
    (hw : ∀ n ∈ d.weights Try.prog 55, n ≤ reachBytes) (hlt : ∀ q ∈ p, q.block < W.heap.size) :
    ∃ (A : Option Addr) (cap : Nat) (l : List ByteArray), v = .slice A l.length cap ∧ (StrsIn W (fun b => b < W.heap.size) A l ∧ l.length ≤ 140737488351232) := by
  obtain ⟨A, len, cap, rfl⟩ := okWide_slice Try.underlying55 hval
  obtain ⟨fuel, hf⟩ := h
  have hf' : DataW.trod enc Try.prog W 0 sp hd fuel 55 [.slice A len cap] = some (d, p) := hf
  rcases DataW.trod_slice Try.underlying55 hf' with ⟨e5, r5⟩ | ⟨a, len', cap', elems, rest, n', hn', e5, r5, hb, hlc, hcm, hel, hget, -, -⟩
  · simp only [List.cons.injEq, and_true, Value.slice.injEq] at e5
    obtain ⟨rfl, rfl, rfl⟩ := e5
    exact ⟨none, 0, [], rfl, fun i x hx => by simp at hx, by simp⟩
  · simp only [List.cons.injEq, and_true, Value.slice.injEq] at e5
    obtain ⟨rfl, rfl, rfl⟩ := e5
    rw [cells9] at hget
    simp only [Prod.mk.injEq] at r5
    obtain ⟨rd, rp⟩ := r5
    have hlenb : len ≤ 140737488351232 := by
      have := hw ((elems.length + rest.length) * 16) (by rw [rd]; simp [DataW.weights, Try.underlying55, bytes9])
      have h2 : (elems.length + rest.length) * 16 ≤ 140737488351232 := this
      omega
    have hkid : ∀ i, ∃ t : ByteArray, i < len → t.size ≤ 140737488351232 ∧ W.cell? (a.add i) = some (.string t) := by
      intro i
      by_cases hi : i < len
      · have hg := hget i hi
        rw [List.getElem?_eq_getElem (by omega)] at hg
        have hmem : elems[i] ∈ elems := List.getElem_mem _
        obtain ⟨cs', hc, ht⟩ := Option.bind_eq_some_iff.1 hg
        obtain ⟨s, rfl, es, ws⟩ := DataW.trod_string Try.underlying9 ht
        have hs : s.size ≤ 140737488351232 := by
          have := hw s.size (by
            rw [rd]
            simp only [DataW.weights, Try.underlying55, List.mem_cons, List.mem_append]
            exact .inr (.inl (weightsAll_mem (List.mem_map_of_mem hmem) (by rw [es]; simp [DataW.weights]))))
          exact this
        refine ⟨s, fun _ => ⟨hs, ?_⟩⟩
        have hcell := (cells_get hc).2 0 _ rfl
        simpa [Addr.add] using hcell
      · exact ⟨⟨#[]⟩, fun h => absurd h hi⟩
    obtain ⟨F, hF⟩ := Classical.axiomOfChoice hkid
    have hlen2 : ((List.range len).map F).length = len := by simp
    refine ⟨some a, cap, (List.range len).map F, by rw [hlen2], ?_, by omega⟩
    intro i t ht
    have hi : i < len := by have := (List.getElem?_eq_some_iff.1 ht).1; omega
    have e : F i = t := by
      rw [List.getElem?_map, List.getElem?_range hi] at ht
      simpa using ht
    obtain ⟨hb1, hcell⟩ := hF i hi
    rw [e] at hb1 hcell
    have hspot : a.spot = none := by
      have := World.cell?_spot (hF 0 (by omega)).2
      simpa [Addr.add] using this
    obtain ⟨g, o, spt⟩ := a
    simp only at hspot
    subst hspot
    rw [addn] at hcell
    exact ⟨hb1, g, o, rfl, World.block_lt_of_cell? W _ hcell, hcell⟩
#print axioms open_strsY
end Go.Proofs.Ytceahdlcbiialaa
set_option linter.unusedVariables false
set_option linter.unusedSimpArgs false
namespace Go.Proofs.Ytceahdlcbiialaa

structure StOk (most : Nat) (st : St) : Prop where
  len : st.C.length ≤ most
  most : most ≤ 1048576
  names : Names st.L
  vars : VOk st.V
theorem number_names {l : List ByteArray} (h : Names l) (s : ByteArray) : Names (number l s).2 := by
  unfold number
  split
  · exact h
  · split
    · exact h
    · split
      · exact h
      · rename_i h1 _ _ h2
        exact h.snoc (by omega) (by have := h.1; omega)
theorem pushAll_le (most : Nat) : ∀ (l C : List Nat), C.length ≤ (pushAll most l C).2.length ∧ (C.length ≤ most → (pushAll most l C).2.length ≤ most)
  | [], C => by simp [pushAll]
  | x :: l, C => by
    unfold pushAll
    split
    · have h := pushAll_le most l (C ++ [x])
      simp at h
      exact ⟨by omega, fun _ => h.2 (by omega)⟩
    · simp
theorem varAll_most (most : Nat) : ∀ (n : Nat) (C : List Nat), C.length ≤ most → (varAll most n C).2.length ≤ most
  | 0, C, h => h
  | n + 1, C, h => by
    unfold varAll
    split
    · exact varAll_most most n _ (by simp; omega)
    · exact h
theorem leaf_len (most : Nat) (t : Tm) (own : Int) (st : St) : st.C.length ≤ (leaf most t own st).2.C.length ∧ (st.C.length ≤ most → (leaf most t own st).2.C.length ≤ most) := by
  have hw : ∀ tag l, st.C.length ≤ (wordsP most tag l st).2.C.length ∧ (st.C.length ≤ most → (wordsP most tag l st).2.C.length ≤ most) := by
    intro tag l
    have := pushAll_le most l st.C
    unfold wordsP
    split <;> exact this
  unfold leaf
  split
  · unfold varP
    split
    · exact ⟨Nat.le_refl _, id⟩
    · split
      · split
        · simp; omega
        · exact ⟨Nat.le_refl _, id⟩
      · exact ⟨Nat.le_refl _, id⟩
  · split
    · exact ⟨Nat.le_refl _, id⟩
    · split
      · split
        · exact ⟨Nat.le_refl _, id⟩
        · exact hw 4 _
      · exact hw 5 _
theorem leaf_names (most : Nat) (t : Tm) (own : Int) (st : St) (h : Names st.L) : Names (leaf most t own st).2.L := by
  have hw : ∀ tag l, Names (wordsP most tag l st).2.L := by
    intro tag l
    unfold wordsP
    split <;> exact h
  unfold leaf
  split
  · unfold varP
    split
    · exact h
    · split
      · split <;> exact h
      · exact h
  · split
    · exact number_names h _
    · split
      · split
        · exact h
        · exact hw 4 _
      · exact hw 5 _
theorem opn_ok {most : Nat} {st : St} (h : StOk most st) (s : ByteArray) (n : Nat) : StOk most (opn most s n st).2 ∧ st.C.length ≤ (opn most s n st).2.C.length ∧ ((opn most s n st).1.2 = 0 → (opn most s n st).1.1 = st.C.length ∧ (opn most s n st).2.C.length = st.C.length + 1 + n) := by
  have hn := number_names h.names s
  unfold opn
  split
  · rename_i h1
    exact ⟨⟨h.len, h.most, hn, h.vars⟩, Nat.le_refl _, fun h => absurd h h1⟩
  · split
    · rename_i h1 h2
      have h3 := varAll_le most n (st.C ++ [fun6 (number st.L s).1.1 n])
      have h4 := varAll_most most n (st.C ++ [fun6 (number st.L s).1.1 n]) (by simp; omega)
      simp only [List.length_append, List.length_singleton] at h3
      split
      · rename_i h5
        refine ⟨⟨h4, h.most, hn, h.vars⟩, by simp only; omega, fun _ => ⟨rfl, ?_⟩⟩
        have h6 := varAll_len most n (st.C ++ [fun6 (number st.L s).1.1 n]) _ (Prod.ext h5 rfl)
        simp at h6 ⊢
        omega
      · rename_i h5
        exact ⟨⟨h4, h.most, hn, h.vars⟩, by simp only; omega, fun h => absurd h h5⟩
    · exact ⟨⟨h.len, h.most, hn, h.vars⟩, Nat.le_refl _, fun h => by simp at h⟩
theorem StOk.at {most : Nat} {st : St} (h : StOk most st) (i c : Nat) : StOk most (st.at i c) := ⟨by simpa [St.at] using h.len, h.most, h.names, h.vars⟩
mutual
theorem lay_ok (most : Nat) : ∀ (t : Tm) (own : Int) (st : St), StOk most st → own ≤ 1048576 → (lay most t own st).1.1 < 18446744073709551616 ∧ StOk most (lay most t own st).2 ∧ st.C.length ≤ (lay most t own st).2.C.length
  | .mk k s n re im xs, own, st, h, ho => by
    unfold lay
    split
    · obtain ⟨h1, h2, h3⟩ := opn_ok h s xs.length
      simp only
      split
      · exact ⟨by simp, h1, h2⟩
      · rename_i h4
        simp only [ne_eq, Decidable.not_not] at h4
        obtain ⟨h5, h6⟩ := h3 h4
        have hb : (opn most s xs.length st).1.1 < 1048577 := by rw [h5]; have := h.len; have := h.most; omega
        have h7 := layL_ok most xs ((opn most s xs.length st).1.1 + 1) _ h1 (by have := h1.len; have := h1.most; omega)
        split
        · exact ⟨by simp, h7.1, by have := h7.2; simp only; omega⟩
        · exact ⟨by simp only [mkc]; omega, h7.1, by have := h7.2; simp only; omega⟩
    · have h1 := leaf_len most (.mk k s n re im []) own st
      have h2 := leaf_ok (most := most) (t := .mk k s n re im []) (own := own) (st := st) (by have := h.len; have := h.most; omega) h.names ho h.vars
      exact ⟨h2.1, ⟨h1.2 h.len, h.most, leaf_names most _ own st h.names, h2.2⟩, h1.1⟩
theorem layL_ok (most : Nat) : ∀ (l : List Tm) (i : Nat) (st : St), StOk most st → i + l.length ≤ 1048577 → StOk most (layL most l i st).2 ∧ st.C.length ≤ (layL most l i st).2.C.length
  | [], i, st, h, _ => ⟨h, Nat.le_refl _⟩
  | t :: r, i, st, h, hi => by
    simp only [List.length_cons] at hi
    obtain ⟨h1, h2, h3⟩ := lay_ok most t i st h (by omega)
    unfold layL
    simp only
    split
    · exact ⟨h2, h3⟩
    · have h4 := layL_ok most r (i + 1) _ (h2.at i (lay most t i st).1.1) (by omega)
      have h5 : ((lay most t i st).2.at i (lay most t i st).1.1).C.length = (lay most t i st).2.C.length := by simp [St.at]
      exact ⟨h4.1, by have := h4.2; omega⟩
end
theorem layL_drop (most : Nat) (l : List Tm) (j i : Nat) (st : St) (x : Tm) (hx : l[j]? = some x) : layL most (l.drop j) i st = if (lay most x i st).1.2 ≠ 0 then ((lay most x i st).1.2, (lay most x i st).2) else layL most (l.drop (j + 1)) (i + 1) ((lay most x i st).2.at i (lay most x i st).1.1) := by
  have hlt := (List.getElem?_eq_some_iff.1 hx).1
  have e : l[j] = x := (List.getElem?_eq_some_iff.1 hx).2
  rw [List.drop_eq_getElem_cons hlt, e, layL]
end Go.Proofs.Ytceahdlcbiialaa
set_option linter.unusedVariables false
set_option linter.unusedSimpArgs false
namespace Go.Proofs.Ytceahdlcbiialaa
open Go.RowKit

/-- What there is while a term is read: the variables' numbers by their places; how many nodes. -/
structure RS where
  V : List (Nat × Nat)
  n : Nat
/-- Several, one behind the other. -/
def rdAll (f : Nat → RS → (Tm × Nat) × RS) : List Nat → RS → (List Tm × Nat) × RS
  | [], s => (([], 0), s)
  | c :: r, s =>
    let o := f c s
    if o.1.2 ≠ 0 then (([], o.1.2), o.2) else
    let q := rdAll f r o.2
    if q.1.2 ≠ 0 then (([], q.1.2), q.2) else ((o.1.1 :: q.1.1, 0), q.2)
def rdVar (C : List Nat) (d : Nat) (s : RS) : (Tm × Nat) × RS :=
  if C[vl d]? = some d then
    match lk s.V (vl d) with
    | some k => ((tVar k, 0), s)
    | none => ((tVar s.V.length, 0), { s with V := up s.V (vl d) s.V.length })
  else ((tNone, 2), s)
/-- A structure's functor and where its arguments lie: the name, how many. -/
def funAt (C : List Nat) (L : List ByteArray) (d : Nat) : Option (ByteArray × Nat) :=
  match C[vl d]? with
  | none => none
  | some f => if tg f ≠ 6 then none else
    match L[fAtom f]? with
    | none => none
    | some s => if 1 ≤ fArity f ∧ fArity f ≤ 20 ∧ vl d + fArity f < C.length then some (s, fArity f) else none
def rdComp (C : List Nat) (L : List ByteArray) (f : Nat → RS → (Tm × Nat) × RS) (d : Nat) (s : RS) : (Tm × Nat) × RS :=
  match funAt C L d with
  | none => ((tNone, 2), s)
  | some (nm, n) =>
    let q := rdAll f ((C.drop (vl d + 1)).take n) s
    if q.1.2 ≠ 0 then ((tNone, q.1.2), q.2) else ((tComp nm q.1.1, 0), q.2)
def rdOne (C : List Nat) (L : List ByteArray) (f : Nat → RS → (Tm × Nat) × RS) (d : Nat) (s : RS) : (Tm × Nat) × RS :=
  if tg d = 0 then rdVar C d s
  else if tg d = 1 then rdComp C L f d s
  else if tg d = 2 then (match L[vl d]? with | some x => ((tAtom x, 0), s) | none => ((tNone, 2), s))
  else if tg d = 3 then ((tInt (sint d), 0), s)
  else if tg d = 4 then (match C[vl d]? with | some x => ((tInt (wrap64 x), 0), s) | none => ((tNone, 2), s))
  else if tg d = 5 then (match C[vl d]?, C[vl d + 1]? with | some x, some y => ((tCpx x y, 0), s) | _, _ => ((tNone, 2), s))
  else ((tNone, 2), s)
def rd (C : List Nat) (L : List ByteArray) : Nat → Nat → RS → (Tm × Nat) × RS
  | 0, _, s => ((tNone, 3), s)
  | f + 1, c, s => if s.n = 2000 then ((tNone, 3), s) else rdOne C L (rd C L f) (deref C C.length c) { s with n := s.n + 1 }
/-- The numbers stay small. -/
structure RSok (s : RS) : Prop where
  vals : ∀ x ∈ s.V, x.2 ≤ 1000000
  len : s.V.length + 2000 ≤ 1000000 + s.n
  n : s.n ≤ 2000
theorem up_len {α β : Type} [DecidableEq α] (a : α) (b : β) : ∀ V : List (α × β), (up V a b).length ≤ V.length + 1
  | [] => by simp [up]
  | (k, y) :: V => by
    unfold up
    split
    · simp
    · have := up_len a b V; simp; omega
theorem up_mem {α β : Type} [DecidableEq α] (a : α) (b : β) : ∀ (V : List (α × β)) (x : α × β), x ∈ up V a b → x.2 = b ∨ x ∈ V
  | [], x, h => by simp [up] at h; subst h; exact .inl rfl
  | (k, y) :: V, x, h => by
    unfold up at h
    split at h
    · rcases List.mem_cons.1 h with e | h
      · subst e; exact .inl rfl
      · exact .inr (List.mem_cons_of_mem _ h)
    · rcases List.mem_cons.1 h with e | h
      · subst e; exact .inr (List.mem_cons_self ..)
      · rcases up_mem a b V x h with h | h
        · exact .inl h
        · exact .inr (List.mem_cons_of_mem _ h)
theorem rdVar_ok {C : List Nat} {d : Nat} {s : RS} (h : RSok s) (h1 : s.V.length + 1 + 2000 ≤ 1000000 + s.n) : RSok (rdVar C d s).2 := by
  unfold rdVar
  split
  · split
    · exact h
    · have := up_len (vl d) s.V.length s.V
      refine ⟨fun x hx => ?_, by simp only; omega, h.n⟩
      rcases up_mem _ _ _ x hx with e | hx
      · have := h.n; omega
      · exact h.vals x hx
  · exact h
theorem rdAll_ok {f : Nat → RS → (Tm × Nat) × RS} (hf : ∀ c s, RSok s → RSok (f c s).2) : ∀ (l : List Nat) (s : RS), RSok s → RSok (rdAll f l s).2
  | [], s, h => h
  | c :: r, s, h => by
    have h1 := hf c s h
    unfold rdAll
    simp only
    split
    · exact h1
    · have h2 := rdAll_ok hf r _ h1
      split <;> exact h2
theorem rdComp_ok {C : List Nat} {L : List ByteArray} {f : Nat → RS → (Tm × Nat) × RS} (hf : ∀ c s, RSok s → RSok (f c s).2) {d : Nat} {s : RS} (h : RSok s) : RSok (rdComp C L f d s).2 := by
  unfold rdComp
  split
  · exact h
  · simp only
    split <;> exact rdAll_ok hf _ s h
theorem rd_ok (C : List Nat) (L : List ByteArray) : ∀ (f c : Nat) (s : RS), RSok s → RSok (rd C L f c s).2
  | 0, _, s, h => h
  | f + 1, c, s, h => by
    unfold rd
    split
    · exact h
    · rename_i hn
      have hn' := h.n
      have h' : RSok { s with n := s.n + 1 } := ⟨h.vals, by have := h.len; simp only; omega, by simp only; omega⟩
      unfold rdOne
      split
      · exact rdVar_ok h' (by have := h.len; simp only; omega)
      · split
        · exact rdComp_ok (rd_ok C L f) h'
        · repeat' split
          all_goals exact h'
theorem rdAll_drop (f : Nat → RS → (Tm × Nat) × RS) (l : List Nat) (j c : Nat) (s : RS) (hx : l[j]? = some c) : rdAll f (l.drop j) s =
    if (f c s).1.2 ≠ 0 then (([], (f c s).1.2), (f c s).2) else if (rdAll f (l.drop (j + 1)) (f c s).2).1.2 ≠ 0 then (([], (rdAll f (l.drop (j + 1)) (f c s).2).1.2), (rdAll f (l.drop (j + 1)) (f c s).2).2) else (((f c s).1.1 :: (rdAll f (l.drop (j + 1)) (f c s).2).1.1, 0), (rdAll f (l.drop (j + 1)) (f c s).2).2) := by
  have hlt := (List.getElem?_eq_some_iff.1 hx).1
  have e : l[j] = c := (List.getElem?_eq_some_iff.1 hx).2
  rw [List.drop_eq_getElem_cons hlt, e, rdAll]
end Go.Proofs.Ytceahdlcbiialaa
