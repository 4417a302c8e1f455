/- What a term that came in reads as lies in memory as a term. -/
import Derived.ProofKit
import Derived.Test.YtceahdlcbiialaaD4
set_option linter.unusedVariables false
set_option linter.unusedSimpArgs false
namespace Go.Proofs.Ytceahdlcbiialaa
open Go.RowKit Go.WideShapes Go.ChangeShapes Go.ChangeAt
theorem addn (g o i : Nat) : (⟨g, o, none⟩ : Addr).add i = ⟨g, o + i, none⟩ := by unfold Addr.add; split <;> simp_all

theorem b64 {n : Int} (h : (Lit.int .i64 n).wf = true) : -9223372036854775808 ≤ n ∧ n ≤ 9223372036854775807 := by
  simp [Lit.wf, IntKind.min, IntKind.max, IntKind.signed, IntKind.bits] at h
  omega
theorem bu64 {n : Int} (h : (Lit.int .u64 n).wf = true) : 0 ≤ n ∧ n ≤ 18446744073709551615 := by
  simp [Lit.wf, IntKind.min, IntKind.max, IntKind.signed, IntKind.bits] at h
  omega
theorem cells25 : Try.prog.cellsOf 25 = 6 := by kernel_rfl
theorem cells3 : Try.prog.cellsOf 3 = 1 := by kernel_rfl
theorem cells9 : Try.prog.cellsOf 9 = 1 := by kernel_rfl
theorem cells2 : Try.prog.cellsOf 2 = 1 := by kernel_rfl
theorem cells22 : Try.prog.cellsOf 22 = 1 := by kernel_rfl
theorem cells23 : Try.prog.cellsOf 23 = 1 := by kernel_rfl
theorem bytes25 : Try.prog.bytesOf 25 = 72 := by kernel_rfl
theorem cells_get {W : World} {a : Addr} {n : Nat} {cs : List Value} (h : W.cells? 0 a n = some cs) : cs.length = n ∧ ∀ (j : Nat) (u : Value), cs[j]? = some u → W.cell? (a.add j) = some u := by
  unfold World.cells? at h
  rw [if_pos (Nat.zero_le _)] at h
  have hl := mapM_some_length h
  simp at hl
  refine ⟨hl, fun j u hu => ?_⟩
  have hj : j < n := by have := (List.getElem?_eq_some_iff.1 hu).1; omega
  have := mapM_some_get h j j (by simp [hj])
  rw [this]
  exact hu
theorem weightsAll_mem {H : Type} {P : Program} {e : TypeId} : ∀ {l : List (DataW H)} {d : DataW H} {n : Nat}, d ∈ l → n ∈ d.weights P e → n ∈ DataW.weightsAll P e l
  | x :: l, d, n, hd, hn => by
    simp only [DataW.weightsAll, List.mem_append]
    rcases List.mem_cons.1 hd with rfl | hd
    · exact .inl hn
    · exact .inr (weightsAll_mem hd hn)

set_option maxRecDepth 100000 in
set_option maxHeartbeats 1000000 in
theorem open_term {H : Type} {enc : TypeId × Value → H} {W : World} {sp : Nat → Bool} {hd : Bool} : ∀ (fuel : Nat) (cs : List Value) (x : DataW H × List MemPlace), DataW.trod enc Try.prog W 0 sp hd fuel 25 cs = some x →
    (∀ n ∈ x.1.weights Try.prog 25, n ≤ reachBytes) → (∀ p ∈ x.2, p.block < W.heap.size) → ∃ t : Tm, TmC W (fun b => b < W.heap.size) cs t := by
  intro fuel
  induction fuel using Nat.strongRecOn with
  | ind fuel ih =>
    intro cs x h hw hlt
    obtain ⟨xs, n, rfl, rfl, hlen, hxl, hf⟩ := DataW.trod_struct Try.underlying25 h
    rw [cells25] at hlen
    match cs, hlen with
    | [c0, c1, c2, c3, c4, c5], _ =>
      have f0 := hf 0 _ rfl
      have f1 := hf 1 _ rfl
      have f2 := hf 2 _ rfl
      have f3 := hf 3 _ rfl
      have f4 := hf 4 _ rfl
      have f5 := hf 5 _ rfl
      match xs, hxl with
      | [x0, x1, x2, x3, x4, x5], _ =>
        replace f0 : DataW.trod enc Try.prog W 0 sp hd n 3 (([c0, c1, c2, c3, c4, c5].drop 0).take (Try.prog.cellsOf 3)) = some x0 := f0
        replace f1 : DataW.trod enc Try.prog W 0 sp hd n 9 (([c0, c1, c2, c3, c4, c5].drop 1).take (Try.prog.cellsOf 9)) = some x1 := f1
        replace f2 : DataW.trod enc Try.prog W 0 sp hd n 2 (([c0, c1, c2, c3, c4, c5].drop 2).take (Try.prog.cellsOf 2)) = some x2 := f2
        replace f3 : DataW.trod enc Try.prog W 0 sp hd n 22 (([c0, c1, c2, c3, c4, c5].drop 3).take (Try.prog.cellsOf 22)) = some x3 := f3
        replace f4 : DataW.trod enc Try.prog W 0 sp hd n 22 (([c0, c1, c2, c3, c4, c5].drop 4).take (Try.prog.cellsOf 22)) = some x4 := f4
        replace f5 : DataW.trod enc Try.prog W 0 sp hd n 23 (([c0, c1, c2, c3, c4, c5].drop 5).take (Try.prog.cellsOf 23)) = some x5 := f5
        rw [cells3] at f0
        rw [cells9] at f1
        rw [cells2] at f2
        rw [cells22] at f3 f4
        rw [cells23] at f5
        simp only [List.drop_zero, List.drop_succ_cons, List.take_succ_cons, List.take_zero] at f0 f1 f2 f3 f4 f5
        obtain ⟨k, e0, r0, w0⟩ := DataW.trod_int Try.underlying3 f0
        obtain ⟨s, e1, r1, w1⟩ := DataW.trod_string Try.underlying9 f1
        obtain ⟨m, e2, r2, w2⟩ := DataW.trod_int Try.underlying2 f2
        obtain ⟨re, e3, r3, w3⟩ := DataW.trod_int Try.underlying22 f3
        obtain ⟨im, e4, r4, w4⟩ := DataW.trod_int Try.underlying22 f4
        simp only [List.cons.injEq, and_true] at e0 e1 e2 e3 e4
        subst e0 e1 e2 e3 e4
        have hws : ∀ q, q ∈ (x1.1.weights Try.prog 9) ∨ q ∈ x5.1.weights Try.prog 23 → q ≤ reachBytes := by
          intro q hq
          refine hw q ?_
          simp only [DataW.weights, Try.underlying25, List.map_cons, List.map_nil, DataW.weightsEach, List.mem_append]
          rcases hq with hq | hq
          · exact .inr (.inl hq)
          · exact .inr (.inr (.inr (.inr (.inr (.inl hq)))))
        have hs : s.size ≤ 140737488351232 := by
          have := hws s.size (.inl (by rw [r1]; simp [DataW.weights]))
          exact this
        rcases DataW.trod_slice Try.underlying23 f5 with ⟨e5, r5⟩ | ⟨a, len, cap, elems, rest, n', hn', e5, r5, hb, hlc, hcm, hel, hget, -, -⟩
        · simp only [List.cons.injEq, and_true] at e5
          subst e5
          exact ⟨_, TmC.of (t := .mk k s m re im []) (A := none) (cap := 0) ⟨b64 w0, hs, b64 w2, bu64 w3, bu64 w4, by simp [Tm.xs]⟩ (fun i x hx => by simp [Tm.xs] at hx)⟩
        · simp only [List.cons.injEq, and_true] at e5
          subst e5
          rw [cells25] at hget
          have hlenb : len ≤ 140737488351232 := by
            have := hws ((elems.length + rest.length) * 72) (.inr (by rw [r5]; simp [DataW.weights, Try.underlying23, bytes25]))
            have h2 : (elems.length + rest.length) * 72 ≤ 140737488351232 := this
            omega
          have hkid : ∀ i, ∃ t : Tm, i < len → ∃ cs', W.cells? 0 (a.add (i * 6)) 6 = some cs' ∧ TmC W (fun b => b < W.heap.size) cs' t := by
            intro i
            by_cases hi : i < len
            · have hg := hget i hi
              rw [List.getElem?_eq_getElem (by omega)] at hg
              obtain ⟨cs', hc, ht⟩ := Option.bind_eq_some_iff.1 hg
              have hmem : elems[i] ∈ elems := List.getElem_mem _
              obtain ⟨t, htm⟩ := ih n' (by omega) cs' _ ht (fun q hq => hws q (.inr (by
                rw [r5]
                simp only [DataW.weights, Try.underlying23, List.mem_cons, List.mem_append]
                exact .inr (.inl (weightsAll_mem (List.mem_map_of_mem hmem) hq))))) (fun q hq => hlt q (by
                simp only [List.flatMap_cons, List.mem_append]
                refine .inr (.inr (.inr (.inr (.inr (.inl ?_)))))
                rw [r5]
                exact List.mem_append_right _ (List.mem_flatMap.2 ⟨_, List.mem_append_left _ hmem, hq⟩)))
              exact ⟨t, fun _ => ⟨cs', hc, htm⟩⟩
            · exact ⟨.mk 0 ⟨#[]⟩ 0 0 0 [], fun h => absurd h hi⟩
          obtain ⟨F, hF⟩ := Classical.axiomOfChoice hkid
          have hlen2 : ((List.range len).map F).length = len := by simp
          refine ⟨.mk k s m re im ((List.range len).map F), ?_⟩
          have key := TmC.of (w := W) (S := fun b => b < W.heap.size) (t := .mk k s m re im ((List.range len).map F)) (A := some a) (cap := cap) ⟨b64 w0, hs, b64 w2, bu64 w3, bu64 w4, by simp only [Tm.xs]; omega⟩ ?_
          · simp only [Tm.k, Tm.s, Tm.n, Tm.re, Tm.im, Tm.xs, hlen2] at key
            exact key
          · intro i t ht
            simp only [Tm.xs] at ht
            have hi : i < len := by have := (List.getElem?_eq_some_iff.1 ht).1; omega
            have e : F i = t := by
              rw [List.getElem?_map, List.getElem?_range hi] at ht
              simpa using ht
            obtain ⟨cs', hc, htm⟩ := hF i hi
            rw [e] at htm
            obtain ⟨A', cap', rfl⟩ := htm.form0
            obtain ⟨-, hcell⟩ := cells_get hc
            have c0 := hcell 0 _ rfl
            have hb0 := World.block_lt_of_cell? W _ c0
            have hspot : a.spot = none := by
              obtain ⟨cs2, hc2, -⟩ := hF 0 (by omega)
              obtain ⟨hl2, hcell2⟩ := cells_get hc2
              obtain ⟨v, hv⟩ : ∃ v, cs2[0]? = some v := ⟨cs2[0], List.getElem?_eq_getElem (by omega)⟩
              have := World.cell?_spot (hcell2 0 v hv)
              simpa [Addr.add] using this
            obtain ⟨g, o, spt⟩ := a
            simp only at hspot
            subst hspot
            simp only [addn] at hcell hb0
            exact ⟨g, o, A', cap', rfl, hb0, hcell 0 _ rfl, hcell 1 _ rfl, hcell 2 _ rfl, hcell 3 _ rfl, hcell 4 _ rfl, hcell 5 _ rfl, htm⟩
end Go.Proofs.Ytceahdlcbiialaa
