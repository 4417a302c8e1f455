/- What a term that came in reads as lies in memory as a term. What the rows share: the start, the wrapper's word. What a list of terms that came in reads as lies in memory as terms. Rows of terms; terms without what their kinds give no meaning. Words, names that came in; a keeping made smaller. No condition. -/
import Derived.ProofKit
import Derived.SizedLaws
import Derived.Test.YtceahdlcbiialaaF5M16
import Derived.Test.YtceahdlcbiialaaF5M5
set_option linter.unusedVariables false
set_option linter.unusedSimpArgs false
namespace Go.Proofs.Ytceahdlcbiialaa
open Go.RowKit Go.WideShapes Go.ChangeShapes Go.ChangeAt
theorem addn (g o i : Nat) : (⟨g, o, none⟩ : Addr).add i = ⟨g, o + i, none⟩ := by unfold Addr.add; split <;> simp_all

theorem b64 {n : Int} (h : (Lit.int .i64 n).wf = true) : -9223372036854775808 ≤ n ∧ n ≤ 9223372036854775807 := by
  simp [Lit.wf, IntKind.min, IntKind.max, IntKind.signed, IntKind.bits] at h
  omega
theorem bu64 {n : Int} (h : (Lit.int .u64 n).wf = true) : 0 ≤ n ∧ n ≤ 18446744073709551615 := by
  simp [Lit.wf, IntKind.min, IntKind.max, IntKind.signed, IntKind.bits] at h
  omega
theorem cells25 : Try.prog.cellsOf 25 = 6 := by kernel_rfl
theorem cells3 : Try.prog.cellsOf 3 = 1 := by kernel_rfl
theorem cells9 : Try.prog.cellsOf 9 = 1 := by kernel_rfl
theorem cells2 : Try.prog.cellsOf 2 = 1 := by kernel_rfl
theorem cells22 : Try.prog.cellsOf 22 = 1 := by kernel_rfl
theorem cells23 : Try.prog.cellsOf 23 = 1 := by kernel_rfl
theorem bytes25 : Try.prog.bytesOf 25 = 72 := by kernel_rfl
theorem cells_get {W : World} {a : Addr} {n : Nat} {cs : List Value} (h : W.cells? 0 a n = some cs) : cs.length = n ∧ ∀ (j : Nat) (u : Value), cs[j]? = some u → W.cell? (a.add j) = some u := by
  unfold World.cells? at h
  rw [if_pos (Nat.zero_le _)] at h
  have hl := mapM_some_length h
  simp at hl
  refine ⟨hl, fun j u hu => ?_⟩
  have hj : j < n := by have := (List.getElem?_eq_some_iff.1 hu).1; omega
  have := mapM_some_get h j j (by simp [hj])
  rw [this]
  exact hu
theorem weightsAll_mem {H : Type} {P : Program} {e : TypeId} : ∀ {l : List (DataW H)} {d : DataW H} {n : Nat}, d ∈ l → n ∈ d.weights P e → n ∈ DataW.weightsAll P e l
  | x :: l, d, n, hd, hn => by
    simp only [DataW.weightsAll, List.mem_append]
    rcases List.mem_cons.1 hd with rfl | hd
    · exact .inl hn
    · exact .inr (weightsAll_mem hd hn)

set_option maxRecDepth 100000 in
set_option maxHeartbeats 1000000 in
theorem open_term {H : Type} {enc : TypeId × Value → H} {W : World} {sp : Nat → Bool} {hd : Bool} : ∀ (fuel : Nat) (cs : List Value) (x : DataW H × List MemPlace), DataW.trod enc Try.prog W 0 sp hd fuel 25 cs = some x →
    (∀ n ∈ x.1.weights Try.prog 25, n ≤ reachBytes) → (∀ p ∈ x.2, p.block < W.heap.size) → ∃ t : Tm, TmC W (fun b => b < W.heap.size) cs t := by
  intro fuel
  induction fuel using Nat.strongRecOn with
  | ind fuel ih =>
    intro cs x h hw hlt
    obtain ⟨xs, n, rfl, rfl, hlen, hxl, hf⟩ := DataW.trod_struct Try.underlying25 h
    rw [cells25] at hlen
    match cs, hlen with
    | [c0, c1, c2, c3, c4, c5], _ =>
      have f0 := hf 0 _ rfl
      have f1 := hf 1 _ rfl
      have f2 := hf 2 _ rfl
      have f3 := hf 3 _ rfl
      have f4 := hf 4 _ rfl
      have f5 := hf 5 _ rfl
      match xs, hxl with
      | [x0, x1, x2, x3, x4, x5], _ =>
        replace f0 : DataW.trod enc Try.prog W 0 sp hd n 3 (([c0, c1, c2, c3, c4, c5].drop 0).take (Try.prog.cellsOf 3)) = some x0 := f0
        replace f1 : DataW.trod enc Try.prog W 0 sp hd n 9 (([c0, c1, c2, c3, c4, c5].drop 1).take (Try.prog.cellsOf 9)) = some x1 := f1
        replace f2 : DataW.trod enc Try.prog W 0 sp hd n 2 (([c0, c1, c2, c3, c4, c5].drop 2).take (Try.prog.cellsOf 2)) = some x2 := f2
        replace f3 : DataW.trod enc Try.prog W 0 sp hd n 22 (([c0, c1, c2, c3, c4, c5].drop 3).take (Try.prog.cellsOf 22)) = some x3 := f3
        replace f4 : DataW.trod enc Try.prog W 0 sp hd n 22 (([c0, c1, c2, c3, c4, c5].drop 4).take (Try.prog.cellsOf 22)) = some x4 := f4
        replace f5 : DataW.trod enc Try.prog W 0 sp hd n 23 (([c0, c1, c2, c3, c4, c5].drop 5).take (Try.prog.cellsOf 23)) = some x5 := f5
        rw [cells3] at f0
        rw [cells9] at f1
        rw [cells2] at f2
        rw [cells22] at f3 f4
        rw [cells23] at f5
        simp only [List.drop_zero, List.drop_succ_cons, List.take_succ_cons, List.take_zero] at f0 f1 f2 f3 f4 f5
        obtain ⟨k, e0, r0, w0⟩ := DataW.trod_int Try.underlying3 f0
        obtain ⟨s, e1, r1, w1⟩ := DataW.trod_string Try.underlying9 f1
        obtain ⟨m, e2, r2, w2⟩ := DataW.trod_int Try.underlying2 f2
        obtain ⟨re, e3, r3, w3⟩ := DataW.trod_int Try.underlying22 f3
        obtain ⟨im, e4, r4, w4⟩ := DataW.trod_int Try.underlying22 f4
        simp only [List.cons.injEq, and_true] at e0 e1 e2 e3 e4
        subst e0 e1 e2 e3 e4
        have hws : ∀ q, q ∈ (x1.1.weights Try.prog 9) ∨ q ∈ x5.1.weights Try.prog 23 → q ≤ reachBytes := by
          intro q hq
          refine hw q ?_
          simp only [DataW.weights, Try.underlying25, List.map_cons, List.map_nil, DataW.weightsEach, List.mem_append]
          rcases hq with hq | hq
          · exact .inr (.inl hq)
          · exact .inr (.inr (.inr (.inr (.inr (.inl hq)))))
        have hs : s.size ≤ 140737488351232 := by
          have := hws s.size (.inl (by rw [r1]; simp [DataW.weights]))
          exact this
        rcases DataW.trod_slice Try.underlying23 f5 with ⟨e5, r5⟩ | ⟨a, len, cap, elems, rest, n', hn', e5, r5, hb, hlc, hcm, hel, hget, -, -⟩
        · simp only [List.cons.injEq, and_true] at e5
          subst e5
          exact ⟨_, TmC.of (t := .mk k s m re im []) (A := none) (cap := 0) ⟨b64 w0, hs, b64 w2, bu64 w3, bu64 w4, by simp [Tm.xs]⟩ (fun i x hx => by simp [Tm.xs] at hx)⟩
        · simp only [List.cons.injEq, and_true] at e5
          subst e5
          rw [cells25] at hget
          have hlenb : len ≤ 140737488351232 := by
            have := hws ((elems.length + rest.length) * 72) (.inr (by rw [r5]; simp [DataW.weights, Try.underlying23, bytes25]))
            have h2 : (elems.length + rest.length) * 72 ≤ 140737488351232 := this
            omega
          have hkid : ∀ i, ∃ t : Tm, i < len → ∃ cs', W.cells? 0 (a.add (i * 6)) 6 = some cs' ∧ TmC W (fun b => b < W.heap.size) cs' t := by
            intro i
            by_cases hi : i < len
            · have hg := hget i hi
              rw [List.getElem?_eq_getElem (by omega)] at hg
              obtain ⟨cs', hc, ht⟩ := Option.bind_eq_some_iff.1 hg
              have hmem : elems[i] ∈ elems := List.getElem_mem _
              obtain ⟨t, htm⟩ := ih n' (by omega) cs' _ ht (fun q hq => hws q (.inr (by
                rw [r5]
                simp only [DataW.weights, Try.underlying23, List.mem_cons, List.mem_append]
                exact .inr (.inl (weightsAll_mem (List.mem_map_of_mem hmem) hq))))) (fun q hq => hlt q (by
                simp only [List.flatMap_cons, List.mem_append]
                refine .inr (.inr (.inr (.inr (.inr (.inl ?_)))))
                rw [r5]
                exact List.mem_append_right _ (List.mem_flatMap.2 ⟨_, List.mem_append_left _ hmem, hq⟩)))
              exact ⟨t, fun _ => ⟨cs', hc, htm⟩⟩
            · exact ⟨.mk 0 ⟨#[]⟩ 0 0 0 [], fun h => absurd h hi⟩
          obtain ⟨F, hF⟩ := Classical.axiomOfChoice hkid
          have hlen2 : ((List.range len).map F).length = len := by simp
          refine ⟨.mk k s m re im ((List.range len).map F), ?_⟩
          have key := TmC.of (w := W) (S := fun b => b < W.heap.size) (t := .mk k s m re im ((List.range len).map F)) (A := some a) (cap := cap) ⟨b64 w0, hs, b64 w2, bu64 w3, bu64 w4, by simp only [Tm.xs]; omega⟩ ?_
          · simp only [Tm.k, Tm.s, Tm.n, Tm.re, Tm.im, Tm.xs, hlen2] at key
            exact key
          · intro i t ht
            simp only [Tm.xs] at ht
            have hi : i < len := by have := (List.getElem?_eq_some_iff.1 ht).1; omega
            have e : F i = t := by
              rw [List.getElem?_map, List.getElem?_range hi] at ht
              simpa using ht
            obtain ⟨cs', hc, htm⟩ := hF i hi
            rw [e] at htm
            obtain ⟨A', cap', rfl⟩ := htm.form0
            obtain ⟨-, hcell⟩ := cells_get hc
            have c0 := hcell 0 _ rfl
            have hb0 := World.block_lt_of_cell? W _ c0
            have hspot : a.spot = none := by
              obtain ⟨cs2, hc2, -⟩ := hF 0 (by omega)
              obtain ⟨hl2, hcell2⟩ := cells_get hc2
              obtain ⟨v, hv⟩ : ∃ v, cs2[0]? = some v := ⟨cs2[0], List.getElem?_eq_getElem (by omega)⟩
              have := World.cell?_spot (hcell2 0 v hv)
              simpa [Addr.add] using this
            obtain ⟨g, o, spt⟩ := a
            simp only at hspot
            subst hspot
            simp only [addn] at hcell hb0
            exact ⟨g, o, A', cap', rfl, hb0, hcell 0 _ rfl, hcell 1 _ rfl, hcell 2 _ rfl, hcell 3 _ rfl, hcell 4 _ rfl, hcell 5 _ rfl, htm⟩
end Go.Proofs.Ytceahdlcbiialaa
set_option linter.unusedVariables false
set_option linter.unusedSimpArgs false
namespace Go.Proofs.Ytceahdlcbiialaa
open Go.ChangeShapes Go.WideShapes Go.ChangeAt Go.RowKit

theorem Try.own : ownKnob Try.prog.godebug = none := by kernel_rfl
theorem Try.laidOut : laidOutB Try.prog = true := by kernel_rfl
theorem To.kept0 {W W' : World} {S' : Blk} {Γ : List Asn} (h : To W (fun b => b < W.heap.size) W' S' Γ) : Below W.heap.size W W' := ⟨h.os, h.tape, h.output, h.size, fun b hb => h.kept b hb⟩
theorem ok0 (W : World) : Ok W (fun b => b < W.heap.size) [] := ⟨fun b hb => hb, trivial⟩
theorem not_main {P : Program} {fn : Func} {c : OpenClaim} (h : (Check.packageOf fn.name == "main") = false) (h1 : c.wrapper = false) (h2 : c.mainSum = "") : fn.isWrapper P c.wrapper c.mainSum := by
  unfold Func.isWrapper
  rw [if_neg (by simpa using h)]
  exact ⟨h1, h2⟩
end Go.Proofs.Ytceahdlcbiialaa
set_option linter.unusedVariables false
set_option linter.unusedSimpArgs false
namespace Go.Proofs.Ytceahdlcbiialaa
open Go.RowKit Go.WideShapes Go.ChangeShapes Go.ChangeAt

set_option maxRecDepth 100000 in
set_option maxHeartbeats 1000000 in
theorem open_terms {H : Type} {enc : TypeId × Value → H} {W : World} {sp : Nat → Bool} {hd : Bool} {base : Nat} {v : Value} {d : DataW H} {p : List MemPlace} (hval : Value.okWide Try.prog W .any base 23 v) (h : DataW.Trod enc Try.prog W 0 sp hd 23 v d p)
    (hw : ∀ n ∈ d.weights Try.prog 23, n ≤ reachBytes) (hlt : ∀ q ∈ p, q.block < W.heap.size) :
    ∃ (A : Option Addr) (cap : Nat) (l : List Tm), v = .slice A l.length cap ∧ (Kids W (fun b => b < W.heap.size) A l ∧ l.length ≤ 140737488351232) := by
  obtain ⟨A, len, cap, rfl⟩ := okWide_slice Try.underlying23 hval
  obtain ⟨fuel, hf⟩ := h
  have hf' : DataW.trod enc Try.prog W 0 sp hd fuel 23 [.slice A len cap] = some (d, p) := hf
  rcases DataW.trod_slice Try.underlying23 hf' with ⟨e5, r5⟩ | ⟨a, len', cap', elems, rest, n', hn', e5, r5, hb, hlc, hcm, hel, hget, -, -⟩
  · simp only [List.cons.injEq, and_true, Value.slice.injEq] at e5
    obtain ⟨rfl, rfl, rfl⟩ := e5
    exact ⟨none, 0, [], rfl, fun i x hx => by simp at hx, by simp⟩
  · simp only [List.cons.injEq, and_true, Value.slice.injEq] at e5
    obtain ⟨rfl, rfl, rfl⟩ := e5
    rw [cells25] at hget
    simp only [Prod.mk.injEq] at r5
    obtain ⟨rd, rp⟩ := r5
    have hlenb : len ≤ 140737488351232 := by
      have := hw ((elems.length + rest.length) * 72) (by rw [rd]; simp [DataW.weights, Try.underlying23, bytes25])
      have h2 : (elems.length + rest.length) * 72 ≤ 140737488351232 := this
      omega
    have hkid : ∀ i, ∃ t : Tm, i < len → ∃ cs', W.cells? 0 (a.add (i * 6)) 6 = some cs' ∧ TmC W (fun b => b < W.heap.size) cs' t := by
      intro i
      by_cases hi : i < len
      · have hg := hget i hi
        rw [List.getElem?_eq_getElem (by omega)] at hg
        obtain ⟨cs', hc, ht⟩ := Option.bind_eq_some_iff.1 hg
        have hmem : elems[i] ∈ elems := List.getElem_mem _
        obtain ⟨t, htm⟩ := open_term n' cs' _ ht (fun q hq => hw q (by
          rw [rd]
          simp only [DataW.weights, Try.underlying23, List.mem_cons, List.mem_append]
          exact .inr (.inl (weightsAll_mem (List.mem_map_of_mem hmem) hq)))) (fun q hq => hlt q (by
          rw [rp]
          exact List.mem_append_right _ (List.mem_flatMap.2 ⟨_, List.mem_append_left _ hmem, hq⟩)))
        exact ⟨t, fun _ => ⟨cs', hc, htm⟩⟩
      · exact ⟨.mk 0 ⟨#[]⟩ 0 0 0 [], fun h => absurd h hi⟩
    obtain ⟨F, hF⟩ := Classical.axiomOfChoice hkid
    have hlen2 : ((List.range len).map F).length = len := by simp
    refine ⟨some a, cap, (List.range len).map F, by rw [hlen2], ?_, by omega⟩
    intro i t ht
    have hi : i < len := by have := (List.getElem?_eq_some_iff.1 ht).1; omega
    have e : F i = t := by
      rw [List.getElem?_map, List.getElem?_range hi] at ht
      simpa using ht
    obtain ⟨cs', hc, htm⟩ := hF i hi
    rw [e] at htm
    obtain ⟨A', cap', rfl⟩ := htm.form0
    obtain ⟨-, hcell⟩ := cells_get hc
    have c0 := hcell 0 _ rfl
    have hb0 := World.block_lt_of_cell? W _ c0
    have hspot : a.spot = none := by
      obtain ⟨cs2, hc2, -⟩ := hF 0 (by omega)
      obtain ⟨hl2, hcell2⟩ := cells_get hc2
      obtain ⟨v, hv⟩ : ∃ v, cs2[0]? = some v := ⟨cs2[0], List.getElem?_eq_getElem (by omega)⟩
      have := World.cell?_spot (hcell2 0 v hv)
      simpa [Addr.add] using this
    obtain ⟨g, o, spt⟩ := a
    simp only at hspot
    subst hspot
    simp only [addn] at hcell hb0
    exact ⟨g, o, A', cap', rfl, hb0, hcell 0 _ rfl, hcell 1 _ rfl, hcell 2 _ rfl, hcell 3 _ rfl, hcell 4 _ rfl, hcell 5 _ rfl, htm⟩
end Go.Proofs.Ytceahdlcbiialaa
set_option linter.unusedVariables false
set_option linter.unusedSimpArgs false
namespace Go.Proofs.Ytceahdlcbiialaa
open Go.RowKit

/-- A term and where its arguments lie. -/
structure Tc where
  t : Tm
  A : Option Addr
  c : Nat
abbrev Tc.six (i : Tc) : List Value := [.int .i64 i.t.k, .string i.t.s, .int .i64 i.t.n, .int .u64 i.t.re, .int .u64 i.t.im, .slice i.A i.t.xs.length i.c]
def tcV : List Tc → List Value
  | [] => []
  | i :: l => i.six ++ tcV l
theorem tcV_length : ∀ l : List Tc, (tcV l).length = l.length * 6
  | [] => rfl
  | i :: l => by simp [tcV, tcV_length l]; omega
theorem tcV_append : ∀ (l r : List Tc), tcV (l ++ r) = tcV l ++ tcV r
  | [], _ => rfl
  | i :: l, r => by simp [tcV, tcV_append l r]
theorem tcV_get : ∀ (l : List Tc) (i : Nat) (x : Tc) (j : Nat) (u : Value), l[i]? = some x → x.six[j]? = some u → (tcV l)[i * 6 + j]? = some u
  | [], i, x, j, u, h, _ => by simp at h
  | y :: l, 0, x, j, u, h, hu => by
    simp at h
    subst h
    have hj := (List.getElem?_eq_some_iff.1 hu).1
    rw [tcV, List.getElem?_append_left (by simpa using hj)]
    simpa using hu
  | y :: l, i + 1, x, j, u, h, hu => by
    have := tcV_get l i x j u (by simpa using h) hu
    rw [tcV, List.getElem?_append_right (by simp; omega)]
    simp only [List.length_cons, List.length_nil]
    rw [← this]
    congr 1
    omega
/-- A row of terms is turned no more: its terms are the arguments of one. -/
theorem Ok.rowKids {w : World} {S : Blk} {Γ : List Asn} {A : Option Addr} {c : Nat} {l : List Tc} (h : Ok w S (Row (.slice A l.length c) 25 6 l.length (tcV l) :: Γ)) (hT : ∀ x ∈ l, TmC w S x.six x.t) :
    ∃ S' : Blk, To w S w S' Γ ∧ Kids w S' A (l.map (·.t)) := by
  have hown := h.rowOwns
  obtain ⟨ho, F, hF, ⟨h1, _⟩, hr⟩ := h
  refine ⟨fun b => S b ∨ F b, ⟨rfl, rfl, rfl, Nat.le_refl _, fun _ _ => rfl, fun _ h => .inl h, fun x hx => hx.elim (ho x) (fun hf => (hF x hf).2), hr⟩, ?_⟩
  intro i x hx
  simp only [List.getElem?_map] at hx
  obtain ⟨y, hy, rfl⟩ := Option.map_eq_some_iff.1 hx
  rcases hown.2 with ⟨e1, hn⟩ | ⟨g, cap, cur, e1, h3, h2, h4⟩
  · have := (List.getElem?_eq_some_iff.1 hy).1
    omega
  · cases e1
    have hc : ∀ (j : Nat) (u : Value), y.six[j]? = some u → w.cell? ⟨g, i * 6 + j, none⟩ = some u := by
      intro j u hu
      rw [← add0]
      exact hown.cells (g := g) rfl _ _ (tcV_get l i y j u hy hu)
    have hS : F g := (h1 g).2 rfl
    refine ⟨g, 0, y.A, y.c, rfl, .inr hS, ?_, ?_, ?_, ?_, ?_, ?_, (hT y (List.mem_of_getElem? hy)).mono (fun _ _ _ h => h) (fun _ h => .inl h)⟩
    · simpa using hc 0 _ rfl
    · simpa using hc 1 _ rfl
    · simpa using hc 2 _ rfl
    · simpa using hc 3 _ rfl
    · simpa using hc 4 _ rfl
    · simpa using hc 5 _ rfl
theorem info25 : (Try.prog.info? 25).map (fun i => (i.zero, i.size, i.bytes)) = some (some (.agg #[.int .i64 0, .string ⟨#[]⟩, .int .i64 0, .int .u64 0, .int .u64 0, .slice none 0 0]), 6, 72) := by kernel_rfl

/-- .. it is a term's arguments. -/
theorem Ok.rowTerm {w : World} {S : Blk} {Γ : List Asn} {A : Option Addr} {n0 c : Nat} {l : List Tc} (h : Ok w S (Row (.slice A n0 c) 25 6 n0 (tcV l) :: Γ)) (hn : l.length = n0) (hT : ∀ x ∈ l, TmC w S x.six x.t) {k n re im : Int} {s : ByteArray}
    (hr : Ranged (.mk k s n re im (l.map (·.t)))) : ∃ S' : Blk, To w S w S' Γ ∧ TmC w S' [.int .i64 k, .string s, .int .i64 n, .int .u64 re, .int .u64 im, .slice A n0 c] (.mk k s n re im (l.map (·.t))) := by
  subst hn
  obtain ⟨S', h1, h2⟩ := h.rowKids hT
  have h3 := TmC.of (cap := c) hr h2
  simp only [Tm.k, Tm.s, Tm.n, Tm.re, Tm.im, Tm.xs, List.length_map] at h3
  exact ⟨S', h1, h3⟩
/-- What a term takes when it is laid out anew. -/
theorem To.ptSet6 {w0 w : World} {S0 S : Blk} {Γ : List Asn} {b : Nat} {t : TypeId} {a0 a1 a2 a3 a4 a5 : Value} (h : To w0 S0 w S (Pt b #[a0, a1, a2, a3, a4, a5] t :: Γ)) (v0 v1 v2 v3 v4 v5 : Value) :
    To w0 S0 ((((((w.setCell ⟨b, 0, none⟩ v0).setCell ⟨b, 1, none⟩ v1).setCell ⟨b, 2, none⟩ v2).setCell ⟨b, 3, none⟩ v3).setCell ⟨b, 4, none⟩ v4).setCell ⟨b, 5, none⟩ v5) S (Pt b #[v0, v1, v2, v3, v4, v5] t :: Γ) :=
  (((((h.ptSet 0 v0).ptSet 1 v1).ptSet 2 v2).ptSet 3 v3).ptSet 4 v4).ptSet 5 v5
/-- Six cells of a block, and that they may be written. -/
theorem Ok.pt6 {w : World} {S : Blk} {Γ : List Asn} {b : Nat} {t : TypeId} {a0 a1 a2 a3 a4 a5 : Value} (h : Ok w S (Pt b #[a0, a1, a2, a3, a4, a5] t :: Γ)) :
    (w.cell? ⟨b, 0, none⟩ = some a0 ∧ w.cell? ⟨b, 1, none⟩ = some a1 ∧ w.cell? ⟨b, 2, none⟩ = some a2 ∧ w.cell? ⟨b, 3, none⟩ = some a3 ∧ w.cell? ⟨b, 4, none⟩ = some a4 ∧ w.cell? ⟨b, 5, none⟩ = some a5) ∧
    (w.frozen? ⟨b, 0, none⟩ = false ∧ w.frozen? ⟨b, 1, none⟩ = false ∧ w.frozen? ⟨b, 2, none⟩ = false ∧ w.frozen? ⟨b, 3, none⟩ = false ∧ w.frozen? ⟨b, 4, none⟩ = false ∧ w.frozen? ⟨b, 5, none⟩ = false) ∧ b < w.heap.size :=
  ⟨⟨h.ptCell 0 _ rfl, h.ptCell 1 _ rfl, h.ptCell 2 _ rfl, h.ptCell 3 _ rfl, h.ptCell 4 _ rfl, h.ptCell 5 _ rfl⟩, ⟨h.ptFree 0, h.ptFree 1, h.ptFree 2, h.ptFree 3, h.ptFree 4, h.ptFree 5⟩, h.ptLt⟩

mutual
/-- No compound has too many arguments. -/
def slim : Tm → Prop
  | .mk k _ _ _ _ xs => k = 5 → xs.length ≤ 100 ∧ slimL xs
def slimL : List Tm → Prop
  | [] => True
  | t :: r => slim t ∧ slimL r
end
theorem slimL_get : ∀ {l : List Tm} {i : Nat} {x : Tm}, slimL l → l[i]? = some x → slim x
  | t :: r, 0, x, ⟨h, _⟩, hx => by simp at hx; exact hx ▸ h
  | t :: r, i + 1, x, ⟨_, h⟩, hx => slimL_get h (by simpa using hx)
mutual
/-- A term without what its kind gives no meaning. -/
def plainT : Tm → Tm
  | .mk k s n re im xs => .mk k (if k = 2 ∨ k = 5 then s else ⟨#[]⟩) (if k = 1 ∨ k = 3 then n else 0) (if k = 4 then re else 0) (if k = 4 then im else 0) (if k = 5 then plainL xs else [])
def plainL : List Tm → List Tm
  | [] => []
  | t :: r => plainT t :: plainL r
end
theorem plainL_map : ∀ l : List Tm, plainL l = l.map plainT
  | [] => rfl
  | t :: r => by simp [plainL, plainL_map r]
end Go.Proofs.Ytceahdlcbiialaa
set_option linter.unusedVariables false
set_option linter.unusedSimpArgs false
namespace Go.Proofs.Ytceahdlcbiialaa
open Go.RowKit

def WordsIn (W : World) (S : Blk) (A : Option Addr) (l : List Nat) : Prop := ∀ (i : Nat) (x : Nat), l[i]? = some x → x < 18446744073709551616 ∧ ∃ g o, A = some ⟨g, o, none⟩ ∧ S g ∧ W.cell? ⟨g, o + i, none⟩ = some (.int .u64 (x : Int))
def StrsIn (W : World) (S : Blk) (A : Option Addr) (l : List ByteArray) : Prop := ∀ (i : Nat) (x : ByteArray), l[i]? = some x → x.size ≤ 140737488351232 ∧ ∃ g o, A = some ⟨g, o, none⟩ ∧ S g ∧ W.cell? ⟨g, o + i, none⟩ = some (.string x)
theorem To.small {w w' : World} {S S' : Blk} {Γ : List Asn} (h : To w S w' S' Γ) : To w S w' S Γ :=
  ⟨h.os, h.tape, h.output, h.size, h.kept, fun _ h => h, ⟨fun b hb => h.ok.old b (h.sub b hb), h.ok.sat.anti h.sub⟩⟩
end Go.Proofs.Ytceahdlcbiialaa
