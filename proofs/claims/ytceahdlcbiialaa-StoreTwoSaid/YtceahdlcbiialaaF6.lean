/- StoreTwo: any two terms, laid one behind the other on one heap, are each read back as a variant of what was laid, and what was laid first stays: proved of the given program, for every two terms; no condition. -/
import Derived.Test.YtceahdlcbiialaaF5M1
import Derived.Test.YtceahdlcbiialaaF5M17
import Derived.Test.YtceahdlcbiialaaF6M4
set_option linter.unusedVariables false
set_option linter.unusedSimpArgs false
namespace Go.Proofs.Ytceahdlcbiialaa
open Go.ChangeShapes Go.WideShapes Go.ChangeAt Go.RowKit

set_option maxRecDepth 100000 in
theorem storeTwo_lifted (os : Os) (started : os.Started) (H : Type) (enc : TypeId × Value → H) :
    ReturnsInHanded {} Try.checked os 6 .any (Rows.storeTwoSpec.pre6 enc Try.prog Try.f6 Rows.storeTwoRow.domain false) (Rows.storeTwoSpec.post enc Try.prog Try.f6 false true false false) := by
  refine returnsInHanded_of_change_sized (C := Try.checked) Try.own started (by kernel_rfl) Try.func6
    (ChangeSpec.witness6 (enc := enc) (C := Try.checked) false ⟨#[], #[.agg #[.int .i64 0, .string ⟨#[]⟩, .int .i64 0, .int .u64 0, .int .u64 0, .slice none 0 0], .agg #[.int .i64 0, .string ⟨#[]⟩, .int .i64 0, .int .u64 0, .int .u64 0, .slice none 0 0]], []⟩ 8 (by kernel_rfl) (by kernel_rfl) (by kernel_rfl) (by kernel_rfl)) ?_
  intro W base args ds gs before hval0 hW hcnd hsz0 _
  have hsz : (DataW.weightsEach Try.prog (Try.f6.params.toList ++ Rows.storeTwoSpec.plain.varTypes Try.prog) (ds ++ gs)).all (· ≤ reachBytes) = true := hsz0
  clear hsz0
  have hval : ∀ (j : Nat) t v, Try.f6.params[j]? = some t → args[j]? = some v → Value.okWide Try.prog W .any base t v := hval0
  have hW' := hW
  obtain ⟨p, q, hA0, hV, rfl, hfz, hnd⟩ := hW
  have hA : DataW.TrodAll enc Try.prog W 0 (fun _ => true) true Try.f6.params.toList args.toList ds p := hA0
  rw [Try.params6] at hA hval hsz
  obtain ⟨v0, v1, d0, d1, p0, p1, rfl, rfl, rfl, h0, h1⟩ := trodAll_two hA
  obtain ⟨rfl, rfl⟩ := trodVars_none hV
  clear hA0 hval0
  simp only [List.append_nil] at hW'
  have hlt : ∀ x ∈ p0 ++ p1, x.block < W.heap.size := fun x hx => by have h := hW'.lt x (by simpa only [List.append_assoc] using hx); simpa using h
  have hlt0 : ∀ x ∈ p0, x.block < W.heap.size := fun x hx => hlt x (by simp [hx])
  have hwt0 : ∀ n ∈ d0.weights Try.prog 25, n ≤ reachBytes := by
    intro n hn
    have := List.all_eq_true.1 hsz n (DataW.weights_mem_each (ts := [25, 25] ++ []) (j := 0) (t := 25) rfl rfl n hn)
    simpa using this
  have hv0 := hval 0 25 v0 rfl rfl
  unfold Value.okWide at hv0
  rw [Try.underlying25] at hv0
  obtain ⟨cs0, rfl, hcs0, -⟩ := hv0
  have hk0 := h0
  obtain ⟨fuel0, hf0⟩ := h0
  obtain ⟨t0, ht0⟩ := open_term fuel0 cs0.toList (d0, p0) hf0 hwt0 hlt0
  have hlt1 : ∀ x ∈ p1, x.block < W.heap.size := fun x hx => hlt x (by simp [hx])
  have hwt1 : ∀ n ∈ d1.weights Try.prog 25, n ≤ reachBytes := by
    intro n hn
    have := List.all_eq_true.1 hsz n (DataW.weights_mem_each (ts := [25, 25] ++ []) (j := 1) (t := 25) rfl rfl n hn)
    simpa using this
  have hv1 := hval 1 25 v1 rfl rfl
  unfold Value.okWide at hv1
  rw [Try.underlying25] at hv1
  obtain ⟨cs1, rfl, hcs1, -⟩ := hv1
  have hk1 := h1
  obtain ⟨fuel1, hf1⟩ := h1
  obtain ⟨t1, ht1⟩ := open_term fuel1 cs1.toList (d1, p1) hf1 hwt1 hlt1
  refine (two_spec (ok0 W) ht0 ht1).mono ?_
  rintro e W' ⟨rfl, hTo⟩
  have hB := hTo.kept0
  refine ⟨_, rfl, _, _, _, [], _, [], hW', ?_, trodAll_mk2 (Below.trod Try.laidOut (by kernel_rfl) (of_decide_eq_true (by kernel_rfl)) hk0 hB hlt0) (Below.trod Try.laidOut (by kernel_rfl) (of_decide_eq_true (by kernel_rfl)) hk1 hB hlt1), rfl, hB.frame _, fun h => by cases h⟩
  have hu : Try.checked.prog.underlying 4 = some .bool := Try.underlying4
  exact trodAll_mk1 ⟨1, by simp [DataW.trod, hu, Value.cells]⟩

theorem storeTwo_a1 : Rows.storeTwoRow.wf (OpenSpec.ofChange Rows.storeTwoSpec) = true := by kernel_rfl
theorem storeTwo_a2 : (Try.f6.params.all (Try.prog.readableRec ·) && namedTie Try.prog Rows.storeTwoRow.named Rows.storeTwoSpec.vars) = true := by kernel_rfl
theorem storeTwo_a3 : ((Rows.storeTwoRow.inPlace == Try.prog.inPlace 6) && (Rows.storeTwoRow.unfollowed == Try.prog.unfollowed 6) && (Rows.storeTwoRow.recurses == Try.prog.recurses 6) && (Rows.storeTwoRow.named == Try.prog.varsNamed 6)) = true := by kernel_rfl
theorem storeTwo_a4 : ((Rows.storeTwoRow.maps == (Try.f6.params.toList ++ Rows.storeTwoSpec.plain.varTypes Try.prog).any (Try.prog.mapsRec ·)) && (Rows.storeTwoRow.ifaces == (Try.f6.params.toList ++ Rows.storeTwoSpec.plain.varTypes Try.prog).any (Try.prog.ifacesRec ·)) && (Rows.storeTwoRow.mapsOut == Try.prog.mapsAmong Try.f6.resultTypes.toList) &&
      (Rows.storeTwoRow.loops == (Try.f6.params.toList ++ Rows.storeTwoSpec.plain.varTypes Try.prog).any (Try.prog.loopsFrom ·)) && (Rows.storeTwoRow.wideKeys == (Try.f6.params.toList ++ Rows.storeTwoSpec.plain.varTypes Try.prog ++ Try.f6.resultTypes.toList).any (Try.prog.wideKeysFrom ·))) = true := by kernel_rfl
theorem storeTwo_a5 : (Rows.storeTwoSpec.vars.all (Try.prog.varReadable ·) && Try.f6.resultTypes.all (fun t => Try.prog.readableRec t && decide (t < Try.prog.types.size)) && (Rows.storeTwoRow.ifacesOut == Try.f6.resultTypes.toList.any (Try.prog.ifacesRec ·)) && (Rows.storeTwoRow.loopsOut == Try.f6.resultTypes.toList.any (Try.prog.loopsFrom ·)) && (Rows.storeTwoRow.plainKeys == Try.prog.plainKeys)) = true := by kernel_rfl
theorem storeTwo_a6 : ((Rows.storeTwoRow.kinds == (if Rows.storeTwoRow.domain.isEmpty then [] else Try.f6.params.toList.map fun t => match Try.prog.underlying t with | some (.int k) => some k | _ => none)) && (Rows.storeTwoRow.pinned == Rows.storeTwoRow.pinnedBy) &&
      (Rows.storeTwoRow.veiled == (Try.f6.params.toList ++ Rows.storeTwoSpec.plain.varTypes Try.prog ++ Try.f6.resultTypes.toList).any (Try.prog.veiledRec ·)) && Rows.storeTwoRow.veiledFits Try.prog Try.f6.params.toList (Try.f6.params.toList ++ Rows.storeTwoSpec.plain.varTypes Try.prog ++ Try.f6.resultTypes.toList)) = true := by kernel_rfl
set_option maxRecDepth 100000 in
theorem storeTwo_closed : joinedFacts Try.prog 6 Try.f6 Rows.storeTwoSpec Rows.storeTwoRow = true :=
  joined_of (P := Try.prog) (f := 6) (fn := Try.f6) (s := Rows.storeTwoSpec) (c := Rows.storeTwoRow) rfl rfl rfl rfl rfl laid_eq rowed_eq stops_eq knobs_eq heard_eq enter_eq final_eq make_eq storeTwo_a1 storeTwo_a2 storeTwo_a3 storeTwo_a4 storeTwo_a5 storeTwo_a6
theorem storeTwo_inst : Try.f6.isInstance Try.prog Rows.storeTwoRow.origin Rows.storeTwoRow.targs := of_decide_eq_true (by kernel_rfl)
theorem storeTwo_named : Try.prog.funcNamed Rows.storeTwoRow.func = some 6 := by kernel_rfl
theorem storeTwo_wrap : Try.f6.isWrapper Try.prog Rows.storeTwoRow.wrapper Rows.storeTwoRow.mainSum := not_main (P := Try.prog) (fn := Try.f6) (c := Rows.storeTwoRow) (by kernel_rfl) rfl rfl
theorem storeTwo_holds : Rows.StoreTwoSaid :=
  OpenClaim.holds_of_wide 6 Try.f6 rfl rfl rfl rfl rfl rfl rfl ⟨rfl, rfl, rfl, rfl, rfl⟩ rfl rfl rfl rfl rfl storeTwo_named Try.func6 storeTwo_closed storeTwo_inst storeTwo_wrap
    (fun os started H enc _ => storeTwo_lifted os started H enc)
#print axioms storeTwo_holds
end Go.Proofs.Ytceahdlcbiialaa
