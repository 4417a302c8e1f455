/- StoreAlike: the same term, laid on two heaps with other numbers of variables, makes the same cells: proved of the given program, for every term and number that can be read. Conditions: none beyond the statement of the row itself. -/
import Derived.Test.YtceahdlcbiialaaE1
import Derived.Test.YtceahdlcbiialaaE2
import Derived.Test.YtceahdlcbiialaaD8
set_option linter.unusedVariables false
set_option linter.unusedSimpArgs false
namespace Go.Proofs.Ytceahdlcbiialaa
open Go.ChangeShapes Go.WideShapes Go.ChangeAt Go.RowKit

set_option maxRecDepth 100000 in
theorem storeAlike_lifted (os : Os) (started : os.Started) (H : Type) (enc : TypeId × Value → H) :
    ReturnsInHanded {} Try.checked os 4 .any (Rows.storeAlikeSpec.pre6 enc Try.prog Try.f4 Rows.storeAlikeRow.domain false) (Rows.storeAlikeSpec.post enc Try.prog Try.f4 false true false false) := by
  refine returnsInHanded_of_change_sized (C := Try.checked) Try.own started (by kernel_rfl) Try.func4
    (ChangeSpec.witness6 (enc := enc) (C := Try.checked) false ⟨#[], #[.agg #[.int .i64 0, .string ⟨#[]⟩, .int .i64 0, .int .u64 0, .int .u64 0, .slice none 0 0], .int .i64 0], []⟩ 8 (by kernel_rfl) (by kernel_rfl) (by kernel_rfl) (by kernel_rfl)) ?_
  intro W base args ds gs before hval0 hW hcnd hsz0 _
  have hsz : (DataW.weightsEach Try.prog (Try.f4.params.toList ++ Rows.storeAlikeSpec.plain.varTypes Try.prog) (ds ++ gs)).all (· ≤ reachBytes) = true := hsz0
  clear hsz0
  have hval : ∀ (j : Nat) t v, Try.f4.params[j]? = some t → args[j]? = some v → Value.okWide Try.prog W .any base t v := hval0
  have hW' := hW
  obtain ⟨p, q, hA0, hV, rfl, hfz, hnd⟩ := hW
  have hA : DataW.TrodAll enc Try.prog W 0 (fun _ => true) true Try.f4.params.toList args.toList ds p := hA0
  rw [Try.params4] at hA hval hsz
  obtain ⟨v0, v1, d0, d1, p0, p1, rfl, rfl, rfl, h0, h1⟩ := trodAll_two hA
  obtain ⟨rfl, rfl⟩ := trodVars_none hV
  clear hA0 hval0
  simp only [List.append_nil] at hW'
  have hlt : ∀ x ∈ p0 ++ p1, x.block < W.heap.size := fun x hx => by have h := hW'.lt x (by simpa only [List.append_assoc] using hx); simpa using h
  have hlt0 : ∀ x ∈ p0, x.block < W.heap.size := fun x hx => hlt x (by simp [hx])
  have hwt0 : ∀ n ∈ d0.weights Try.prog 25, n ≤ reachBytes := by
    intro n hn
    have := List.all_eq_true.1 hsz n (DataW.weights_mem_each (ts := [25, 2] ++ []) (j := 0) (t := 25) rfl rfl n hn)
    simpa using this
  have hv0 := hval 0 25 v0 rfl rfl
  unfold Value.okWide at hv0
  rw [Try.underlying25] at hv0
  obtain ⟨cs0, rfl, hcs0, -⟩ := hv0
  have hk0 := h0
  obtain ⟨fuel0, hf0⟩ := h0
  obtain ⟨t0, ht0⟩ := open_term fuel0 cs0.toList (d0, p0) hf0 hwt0 hlt0
  have hlt1 : ∀ x ∈ p1, x.block < W.heap.size := fun x hx => hlt x (by simp [hx])
  have hk1 := h1
  obtain ⟨c1, ec1, -, -, wc1⟩ := open_int Try.underlying2 (hval 1 2 v1 rfl rfl) h1
  subst ec1
  refine (alike_spec (ok0 W) ht0 wc1).mono ?_
  rintro e W' ⟨rfl, hTo⟩
  have hB := hTo.kept0
  refine ⟨_, rfl, _, _, _, [], _, [], hW', ?_, trodAll_mk2 (Below.trod Try.laidOut (by kernel_rfl) (of_decide_eq_true (by kernel_rfl)) hk0 hB hlt0) (Below.trod Try.laidOut (by kernel_rfl) (of_decide_eq_true (by kernel_rfl)) hk1 hB hlt1), rfl, hB.frame _, fun h => by cases h⟩
  have hu : Try.checked.prog.underlying 4 = some .bool := Try.underlying4
  exact trodAll_mk1 ⟨1, by simp [DataW.trod, hu, Value.cells]⟩

theorem storeAlike_a1 : Rows.storeAlikeRow.wf (OpenSpec.ofChange Rows.storeAlikeSpec) = true := by kernel_rfl
theorem storeAlike_a2 : (Try.f4.params.all (Try.prog.readableRec ·) && namedTie Try.prog Rows.storeAlikeRow.named Rows.storeAlikeSpec.vars) = true := by kernel_rfl
theorem storeAlike_a3 : ((Rows.storeAlikeRow.inPlace == Try.prog.inPlace 4) && (Rows.storeAlikeRow.unfollowed == Try.prog.unfollowed 4) && (Rows.storeAlikeRow.recurses == Try.prog.recurses 4) && (Rows.storeAlikeRow.named == Try.prog.varsNamed 4)) = true := by kernel_rfl
theorem storeAlike_a4 : ((Rows.storeAlikeRow.maps == (Try.f4.params.toList ++ Rows.storeAlikeSpec.plain.varTypes Try.prog).any (Try.prog.mapsRec ·)) && (Rows.storeAlikeRow.ifaces == (Try.f4.params.toList ++ Rows.storeAlikeSpec.plain.varTypes Try.prog).any (Try.prog.ifacesRec ·)) && (Rows.storeAlikeRow.mapsOut == Try.prog.mapsAmong Try.f4.resultTypes.toList) &&
      (Rows.storeAlikeRow.loops == (Try.f4.params.toList ++ Rows.storeAlikeSpec.plain.varTypes Try.prog).any (Try.prog.loopsFrom ·)) && (Rows.storeAlikeRow.wideKeys == (Try.f4.params.toList ++ Rows.storeAlikeSpec.plain.varTypes Try.prog ++ Try.f4.resultTypes.toList).any (Try.prog.wideKeysFrom ·))) = true := by kernel_rfl
theorem storeAlike_a5 : (Rows.storeAlikeSpec.vars.all (Try.prog.varReadable ·) && Try.f4.resultTypes.all (fun t => Try.prog.readableRec t && decide (t < Try.prog.types.size)) && (Rows.storeAlikeRow.ifacesOut == Try.f4.resultTypes.toList.any (Try.prog.ifacesRec ·)) && (Rows.storeAlikeRow.loopsOut == Try.f4.resultTypes.toList.any (Try.prog.loopsFrom ·)) && (Rows.storeAlikeRow.plainKeys == Try.prog.plainKeys)) = true := by kernel_rfl
theorem storeAlike_a6 : ((Rows.storeAlikeRow.kinds == (if Rows.storeAlikeRow.domain.isEmpty then [] else Try.f4.params.toList.map fun t => match Try.prog.underlying t with | some (.int k) => some k | _ => none)) && (Rows.storeAlikeRow.pinned == Rows.storeAlikeRow.pinnedBy) &&
      (Rows.storeAlikeRow.veiled == (Try.f4.params.toList ++ Rows.storeAlikeSpec.plain.varTypes Try.prog ++ Try.f4.resultTypes.toList).any (Try.prog.veiledRec ·)) && Rows.storeAlikeRow.veiledFits Try.prog Try.f4.params.toList (Try.f4.params.toList ++ Rows.storeAlikeSpec.plain.varTypes Try.prog ++ Try.f4.resultTypes.toList)) = true := by kernel_rfl
set_option maxRecDepth 100000 in
theorem storeAlike_closed : joinedFacts Try.prog 4 Try.f4 Rows.storeAlikeSpec Rows.storeAlikeRow = true :=
  joined_of (P := Try.prog) (f := 4) (fn := Try.f4) (s := Rows.storeAlikeSpec) (c := Rows.storeAlikeRow) rfl rfl rfl rfl rfl laid_eq rowed_eq stops_eq knobs_eq heard_eq enter_eq final_eq make_eq storeAlike_a1 storeAlike_a2 storeAlike_a3 storeAlike_a4 storeAlike_a5 storeAlike_a6
theorem storeAlike_inst : Try.f4.isInstance Try.prog Rows.storeAlikeRow.origin Rows.storeAlikeRow.targs := of_decide_eq_true (by kernel_rfl)
theorem storeAlike_named : Try.prog.funcNamed Rows.storeAlikeRow.func = some 4 := by kernel_rfl
theorem storeAlike_wrap : Try.f4.isWrapper Try.prog Rows.storeAlikeRow.wrapper Rows.storeAlikeRow.mainSum := not_main (P := Try.prog) (fn := Try.f4) (c := Rows.storeAlikeRow) (by kernel_rfl) rfl rfl
theorem storeAlike_holds : Rows.StoreAlikeSaid :=
  OpenClaim.holds_of_wide 4 Try.f4 rfl rfl rfl rfl rfl rfl rfl ⟨rfl, rfl, rfl, rfl, rfl⟩ rfl rfl rfl rfl rfl storeAlike_named Try.func4 storeAlike_closed storeAlike_inst storeAlike_wrap
    (fun os started H enc _ => storeAlike_lifted os started H enc)
#print axioms storeAlike_holds
end Go.Proofs.Ytceahdlcbiialaa
