/- StoreNil: of no heap or no names Put, Get and Sound answer ErrArg: proved of the given program, for every term and word that can be read. Conditions: none beyond the statement of the row itself. -/
import Derived.Test.YtceahdlcbiialaaE1
import Derived.Test.YtceahdlcbiialaaE2
import Derived.Test.YtceahdlcbiialaaD7
set_option linter.unusedVariables false
set_option linter.unusedSimpArgs false
namespace Go.Proofs.Ytceahdlcbiialaa
open Go.ChangeShapes Go.WideShapes Go.ChangeAt Go.RowKit

set_option maxRecDepth 100000 in
theorem storeNil_lifted (os : Os) (started : os.Started) (H : Type) (enc : TypeId × Value → H) :
    ReturnsInHanded {} Try.checked os 8 .any (Rows.storeNilSpec.pre6 enc Try.prog Try.f8 Rows.storeNilRow.domain false) (Rows.storeNilSpec.post enc Try.prog Try.f8 false true false false) := by
  refine returnsInHanded_of_change_sized (C := Try.checked) Try.own started (by kernel_rfl) Try.func8
    (ChangeSpec.witness6 (enc := enc) (C := Try.checked) false ⟨#[], #[.agg #[.int .i64 0, .string ⟨#[]⟩, .int .i64 0, .int .u64 0, .int .u64 0, .slice none 0 0], .int .u64 0], []⟩ 8 (by kernel_rfl) (by kernel_rfl) (by kernel_rfl) (by kernel_rfl)) ?_
  intro W base args ds gs before hval0 hW hcnd hsz0 _
  have hsz : (DataW.weightsEach Try.prog (Try.f8.params.toList ++ Rows.storeNilSpec.plain.varTypes Try.prog) (ds ++ gs)).all (· ≤ reachBytes) = true := hsz0
  clear hsz0
  have hval : ∀ (j : Nat) t v, Try.f8.params[j]? = some t → args[j]? = some v → Value.okWide Try.prog W .any base t v := hval0
  have hW' := hW
  obtain ⟨p, q, hA0, hV, rfl, hfz, hnd⟩ := hW
  have hA : DataW.TrodAll enc Try.prog W 0 (fun _ => true) true Try.f8.params.toList args.toList ds p := hA0
  rw [Try.params8] at hA hval hsz
  obtain ⟨v0, v1, d0, d1, p0, p1, rfl, rfl, rfl, h0, h1⟩ := trodAll_two hA
  obtain ⟨rfl, rfl⟩ := trodVars_none hV
  clear hA0 hval0
  simp only [List.append_nil] at hW'
  have hlt : ∀ x ∈ p0 ++ p1, x.block < W.heap.size := fun x hx => by have h := hW'.lt x (by simpa only [List.append_assoc] using hx); simpa using h
  have hlt0 : ∀ x ∈ p0, x.block < W.heap.size := fun x hx => hlt x (by simp [hx])
  have hwt0 : ∀ n ∈ d0.weights Try.prog 25, n ≤ reachBytes := by
    intro n hn
    have := List.all_eq_true.1 hsz n (DataW.weights_mem_each (ts := [25, 34] ++ []) (j := 0) (t := 25) rfl rfl n hn)
    simpa using this
  have hv0 := hval 0 25 v0 rfl rfl
  unfold Value.okWide at hv0
  rw [Try.underlying25] at hv0
  obtain ⟨cs0, rfl, hcs0, -⟩ := hv0
  have hk0 := h0
  obtain ⟨fuel0, hf0⟩ := h0
  obtain ⟨t0, ht0⟩ := open_term fuel0 cs0.toList (d0, p0) hf0 hwt0 hlt0
  have hlt1 : ∀ x ∈ p1, x.block < W.heap.size := fun x hx => hlt x (by simp [hx])
  have hk1 := h1
  obtain ⟨c1, ec1, -, -, wc1⟩ := open_int Try.underlying34 (hval 1 34 v1 rfl rfl) h1
  subst ec1
  refine (nil_spec (ok0 W) ht0 wc1).mono ?_
  rintro e W' ⟨rfl, hTo⟩
  have hB := hTo.kept0
  refine ⟨_, rfl, _, _, _, [], _, [], hW', ?_, trodAll_mk2 (Below.trod Try.laidOut (by kernel_rfl) (of_decide_eq_true (by kernel_rfl)) hk0 hB hlt0) (Below.trod Try.laidOut (by kernel_rfl) (of_decide_eq_true (by kernel_rfl)) hk1 hB hlt1), rfl, hB.frame _, fun h => by cases h⟩
  have hu : Try.checked.prog.underlying 4 = some .bool := Try.underlying4
  exact trodAll_mk1 ⟨1, by simp [DataW.trod, hu, Value.cells]⟩

theorem storeNil_a1 : Rows.storeNilRow.wf (OpenSpec.ofChange Rows.storeNilSpec) = true := by kernel_rfl
theorem storeNil_a2 : (Try.f8.params.all (Try.prog.readableRec ·) && namedTie Try.prog Rows.storeNilRow.named Rows.storeNilSpec.vars) = true := by kernel_rfl
theorem storeNil_a3 : ((Rows.storeNilRow.inPlace == Try.prog.inPlace 8) && (Rows.storeNilRow.unfollowed == Try.prog.unfollowed 8) && (Rows.storeNilRow.recurses == Try.prog.recurses 8) && (Rows.storeNilRow.named == Try.prog.varsNamed 8)) = true := by kernel_rfl
theorem storeNil_a4 : ((Rows.storeNilRow.maps == (Try.f8.params.toList ++ Rows.storeNilSpec.plain.varTypes Try.prog).any (Try.prog.mapsRec ·)) && (Rows.storeNilRow.ifaces == (Try.f8.params.toList ++ Rows.storeNilSpec.plain.varTypes Try.prog).any (Try.prog.ifacesRec ·)) && (Rows.storeNilRow.mapsOut == Try.prog.mapsAmong Try.f8.resultTypes.toList) &&
      (Rows.storeNilRow.loops == (Try.f8.params.toList ++ Rows.storeNilSpec.plain.varTypes Try.prog).any (Try.prog.loopsFrom ·)) && (Rows.storeNilRow.wideKeys == (Try.f8.params.toList ++ Rows.storeNilSpec.plain.varTypes Try.prog ++ Try.f8.resultTypes.toList).any (Try.prog.wideKeysFrom ·))) = true := by kernel_rfl
theorem storeNil_a5 : (Rows.storeNilSpec.vars.all (Try.prog.varReadable ·) && Try.f8.resultTypes.all (fun t => Try.prog.readableRec t && decide (t < Try.prog.types.size)) && (Rows.storeNilRow.ifacesOut == Try.f8.resultTypes.toList.any (Try.prog.ifacesRec ·)) && (Rows.storeNilRow.loopsOut == Try.f8.resultTypes.toList.any (Try.prog.loopsFrom ·)) && (Rows.storeNilRow.plainKeys == Try.prog.plainKeys)) = true := by kernel_rfl
theorem storeNil_a6 : ((Rows.storeNilRow.kinds == (if Rows.storeNilRow.domain.isEmpty then [] else Try.f8.params.toList.map fun t => match Try.prog.underlying t with | some (.int k) => some k | _ => none)) && (Rows.storeNilRow.pinned == Rows.storeNilRow.pinnedBy) &&
      (Rows.storeNilRow.veiled == (Try.f8.params.toList ++ Rows.storeNilSpec.plain.varTypes Try.prog ++ Try.f8.resultTypes.toList).any (Try.prog.veiledRec ·)) && Rows.storeNilRow.veiledFits Try.prog Try.f8.params.toList (Try.f8.params.toList ++ Rows.storeNilSpec.plain.varTypes Try.prog ++ Try.f8.resultTypes.toList)) = true := by kernel_rfl
set_option maxRecDepth 100000 in
theorem storeNil_closed : joinedFacts Try.prog 8 Try.f8 Rows.storeNilSpec Rows.storeNilRow = true :=
  joined_of (P := Try.prog) (f := 8) (fn := Try.f8) (s := Rows.storeNilSpec) (c := Rows.storeNilRow) rfl rfl rfl rfl rfl laid_eq rowed_eq stops_eq knobs_eq heard_eq enter_eq final_eq make_eq storeNil_a1 storeNil_a2 storeNil_a3 storeNil_a4 storeNil_a5 storeNil_a6
theorem storeNil_inst : Try.f8.isInstance Try.prog Rows.storeNilRow.origin Rows.storeNilRow.targs := of_decide_eq_true (by kernel_rfl)
theorem storeNil_named : Try.prog.funcNamed Rows.storeNilRow.func = some 8 := by kernel_rfl
theorem storeNil_wrap : Try.f8.isWrapper Try.prog Rows.storeNilRow.wrapper Rows.storeNilRow.mainSum := not_main (P := Try.prog) (fn := Try.f8) (c := Rows.storeNilRow) (by kernel_rfl) rfl rfl
theorem storeNil_holds : Rows.StoreNilSaid :=
  OpenClaim.holds_of_wide 8 Try.f8 rfl rfl rfl rfl rfl rfl rfl ⟨rfl, rfl, rfl, rfl, rfl⟩ rfl rfl rfl rfl rfl storeNil_named Try.func8 storeNil_closed storeNil_inst storeNil_wrap
    (fun os started H enc _ => storeNil_lifted os started H enc)
#print axioms storeNil_holds
end Go.Proofs.Ytceahdlcbiialaa
