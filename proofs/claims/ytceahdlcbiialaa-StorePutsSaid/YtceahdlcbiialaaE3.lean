/- What a list of terms that came in reads as lies in memory as terms. -/
import Derived.Test.YtceahdlcbiialaaE2
set_option linter.unusedVariables false
set_option linter.unusedSimpArgs false
namespace Go.Proofs.Ytceahdlcbiialaa
open Go.RowKit Go.WideShapes Go.ChangeShapes Go.ChangeAt

set_option maxRecDepth 100000 in
set_option maxHeartbeats 1000000 in
theorem open_terms {H : Type} {enc : TypeId × Value → H} {W : World} {sp : Nat → Bool} {hd : Bool} {base : Nat} {v : Value} {d : DataW H} {p : List MemPlace} (hval : Value.okWide Try.prog W .any base 23 v) (h : DataW.Trod enc Try.prog W 0 sp hd 23 v d p)
    (hw : ∀ n ∈ d.weights Try.prog 23, n ≤ reachBytes) (hlt : ∀ q ∈ p, q.block < W.heap.size) :
    ∃ (A : Option Addr) (cap : Nat) (l : List Tm), v = .slice A l.length cap ∧ (Kids W (fun b => b < W.heap.size) A l ∧ l.length ≤ 140737488351232) := by
  obtain ⟨A, len, cap, rfl⟩ := okWide_slice Try.underlying23 hval
  obtain ⟨fuel, hf⟩ := h
  have hf' : DataW.trod enc Try.prog W 0 sp hd fuel 23 [.slice A len cap] = some (d, p) := hf
  rcases DataW.trod_slice Try.underlying23 hf' with ⟨e5, r5⟩ | ⟨a, len', cap', elems, rest, n', hn', e5, r5, hb, hlc, hcm, hel, hget, -, -⟩
  · simp only [List.cons.injEq, and_true, Value.slice.injEq] at e5
    obtain ⟨rfl, rfl, rfl⟩ := e5
    exact ⟨none, 0, [], rfl, fun i x hx => by simp at hx, by simp⟩
  · simp only [List.cons.injEq, and_true, Value.slice.injEq] at e5
    obtain ⟨rfl, rfl, rfl⟩ := e5
    rw [cells25] at hget
    simp only [Prod.mk.injEq] at r5
    obtain ⟨rd, rp⟩ := r5
    have hlenb : len ≤ 140737488351232 := by
      have := hw ((elems.length + rest.length) * 72) (by rw [rd]; simp [DataW.weights, Try.underlying23, bytes25])
      have h2 : (elems.length + rest.length) * 72 ≤ 140737488351232 := this
      omega
    have hkid : ∀ i, ∃ t : Tm, i < len → ∃ cs', W.cells? 0 (a.add (i * 6)) 6 = some cs' ∧ TmC W (fun b => b < W.heap.size) cs' t := by
      intro i
      by_cases hi : i < len
      · have hg := hget i hi
        rw [List.getElem?_eq_getElem (by omega)] at hg
        obtain ⟨cs', hc, ht⟩ := Option.bind_eq_some_iff.1 hg
        have hmem : elems[i] ∈ elems := List.getElem_mem _
        obtain ⟨t, htm⟩ := open_term n' cs' _ ht (fun q hq => hw q (by
          rw [rd]
          simp only [DataW.weights, Try.underlying23, List.mem_cons, List.mem_append]
          exact .inr (.inl (weightsAll_mem (List.mem_map_of_mem hmem) hq)))) (fun q hq => hlt q (by
          rw [rp]
          exact List.mem_append_right _ (List.mem_flatMap.2 ⟨_, List.mem_append_left _ hmem, hq⟩)))
        exact ⟨t, fun _ => ⟨cs', hc, htm⟩⟩
      · exact ⟨.mk 0 ⟨#[]⟩ 0 0 0 [], fun h => absurd h hi⟩
    obtain ⟨F, hF⟩ := Classical.axiomOfChoice hkid
    have hlen2 : ((List.range len).map F).length = len := by simp
    refine ⟨some a, cap, (List.range len).map F, by rw [hlen2], ?_, by omega⟩
    intro i t ht
    have hi : i < len := by have := (List.getElem?_eq_some_iff.1 ht).1; omega
    have e : F i = t := by
      rw [List.getElem?_map, List.getElem?_range hi] at ht
      simpa using ht
    obtain ⟨cs', hc, htm⟩ := hF i hi
    rw [e] at htm
    obtain ⟨A', cap', rfl⟩ := htm.form0
    obtain ⟨-, hcell⟩ := cells_get hc
    have c0 := hcell 0 _ rfl
    have hb0 := World.block_lt_of_cell? W _ c0
    have hspot : a.spot = none := by
      obtain ⟨cs2, hc2, -⟩ := hF 0 (by omega)
      obtain ⟨hl2, hcell2⟩ := cells_get hc2
      obtain ⟨v, hv⟩ : ∃ v, cs2[0]? = some v := ⟨cs2[0], List.getElem?_eq_getElem (by omega)⟩
      have := World.cell?_spot (hcell2 0 v hv)
      simpa [Addr.add] using this
    obtain ⟨g, o, spt⟩ := a
    simp only at hspot
    subst hspot
    simp only [addn] at hcell hb0
    exact ⟨g, o, A', cap', rfl, hb0, hcell 0 _ rfl, hcell 1 _ rfl, hcell 2 _ rfl, hcell 3 _ rfl, hcell 4 _ rfl, hcell 5 _ rfl, htm⟩
end Go.Proofs.Ytceahdlcbiialaa
