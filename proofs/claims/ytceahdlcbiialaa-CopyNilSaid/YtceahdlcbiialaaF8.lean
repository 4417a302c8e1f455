/- CopyNil: the function of no heap answers true for every cell; no condition. -/
import Derived.Test.YtceahdlcbiialaaF5M1
import Derived.Test.YtceahdlcbiialaaF5M18
import Derived.Test.YtceahdlcbiialaaF8M5
set_option linter.unusedVariables false
set_option linter.unusedSimpArgs false
namespace Go.Proofs.Ytceahdlcbiialaa
open Go.ChangeShapes Go.WideShapes Go.ChangeAt Go.RowKit

set_option maxRecDepth 100000 in
theorem copyNil_lifted (os : Os) (started : os.Started) (H : Type) (enc : TypeId × Value → H) :
    ReturnsInHanded {} Try.checked os 13 .any (Rows.copyNilSpec.pre6 enc Try.prog Try.f13 Rows.copyNilRow.domain false) (Rows.copyNilSpec.post enc Try.prog Try.f13 false true false false) := by
  refine returnsInHanded_of_change_sized (C := Try.checked) Try.own started (by kernel_rfl) Try.func13
    (ChangeSpec.witness6 (enc := enc) (C := Try.checked) false ⟨#[], #[.int .u64 0], []⟩ 8 (by kernel_rfl) (by kernel_rfl) (by kernel_rfl) (by kernel_rfl)) ?_
  intro W base args ds gs before hval0 hW hcnd hsz0 _
  have hsz : (DataW.weightsEach Try.prog (Try.f13.params.toList ++ Rows.copyNilSpec.plain.varTypes Try.prog) (ds ++ gs)).all (· ≤ reachBytes) = true := hsz0
  clear hsz0
  have hval : ∀ (j : Nat) t v, Try.f13.params[j]? = some t → args[j]? = some v → Value.okWide Try.prog W .any base t v := hval0
  have hW' := hW
  obtain ⟨p, q, hA0, hV, rfl, hfz, hnd⟩ := hW
  have hA : DataW.TrodAll enc Try.prog W 0 (fun _ => true) true Try.f13.params.toList args.toList ds p := hA0
  rw [Try.params13] at hA hval hsz
  obtain ⟨v0, d0, rfl, rfl, h0⟩ := trodAll_one hA
  obtain ⟨rfl, rfl⟩ := trodVars_none hV
  clear hA0 hval0
  simp only [List.append_nil] at hW'
  have hlt : ∀ x ∈ p, x.block < W.heap.size := fun x hx => by have h := hW'.lt x (by simpa only [List.append_assoc] using hx); simpa using h
  have hlt0 := hlt
  have hk0 := h0
  obtain ⟨c0, ec0, -, -, wc0⟩ := open_int Try.underlying34 (hval 0 34 v0 rfl rfl) h0
  subst ec0
  refine (copyNil_spec (ok0 W) wc0).mono ?_
  rintro e W' ⟨rfl, hTo⟩
  have hB := hTo.kept0
  refine ⟨_, rfl, _, _, _, [], _, [], hW', ?_, trodAll_mk1 (Below.trod Try.laidOut (by kernel_rfl) (of_decide_eq_true (by kernel_rfl)) hk0 hB hlt0), rfl, hB.frame _, fun h => by cases h⟩
  have hu : Try.checked.prog.underlying 4 = some .bool := Try.underlying4
  exact trodAll_mk1 ⟨1, by simp [DataW.trod, hu, Value.cells]⟩

theorem copyNil_a1 : Rows.copyNilRow.wf (OpenSpec.ofChange Rows.copyNilSpec) = true := by kernel_rfl
theorem copyNil_a2 : (Try.f13.params.all (Try.prog.readableRec ·) && namedTie Try.prog Rows.copyNilRow.named Rows.copyNilSpec.vars) = true := by kernel_rfl
theorem copyNil_a3 : ((Rows.copyNilRow.inPlace == Try.prog.inPlace 13) && (Rows.copyNilRow.unfollowed == Try.prog.unfollowed 13) && (Rows.copyNilRow.recurses == Try.prog.recurses 13) && (Rows.copyNilRow.named == Try.prog.varsNamed 13)) = true := by kernel_rfl
theorem copyNil_a4 : ((Rows.copyNilRow.maps == (Try.f13.params.toList ++ Rows.copyNilSpec.plain.varTypes Try.prog).any (Try.prog.mapsRec ·)) && (Rows.copyNilRow.ifaces == (Try.f13.params.toList ++ Rows.copyNilSpec.plain.varTypes Try.prog).any (Try.prog.ifacesRec ·)) && (Rows.copyNilRow.mapsOut == Try.prog.mapsAmong Try.f13.resultTypes.toList) &&
      (Rows.copyNilRow.loops == (Try.f13.params.toList ++ Rows.copyNilSpec.plain.varTypes Try.prog).any (Try.prog.loopsFrom ·)) && (Rows.copyNilRow.wideKeys == (Try.f13.params.toList ++ Rows.copyNilSpec.plain.varTypes Try.prog ++ Try.f13.resultTypes.toList).any (Try.prog.wideKeysFrom ·))) = true := by kernel_rfl
theorem copyNil_a5 : (Rows.copyNilSpec.vars.all (Try.prog.varReadable ·) && Try.f13.resultTypes.all (fun t => Try.prog.readableRec t && decide (t < Try.prog.types.size)) && (Rows.copyNilRow.ifacesOut == Try.f13.resultTypes.toList.any (Try.prog.ifacesRec ·)) && (Rows.copyNilRow.loopsOut == Try.f13.resultTypes.toList.any (Try.prog.loopsFrom ·)) && (Rows.copyNilRow.plainKeys == Try.prog.plainKeys)) = true := by kernel_rfl
theorem copyNil_a6 : ((Rows.copyNilRow.kinds == (if Rows.copyNilRow.domain.isEmpty then [] else Try.f13.params.toList.map fun t => match Try.prog.underlying t with | some (.int k) => some k | _ => none)) && (Rows.copyNilRow.pinned == Rows.copyNilRow.pinnedBy) &&
      (Rows.copyNilRow.veiled == (Try.f13.params.toList ++ Rows.copyNilSpec.plain.varTypes Try.prog ++ Try.f13.resultTypes.toList).any (Try.prog.veiledRec ·)) && Rows.copyNilRow.veiledFits Try.prog Try.f13.params.toList (Try.f13.params.toList ++ Rows.copyNilSpec.plain.varTypes Try.prog ++ Try.f13.resultTypes.toList)) = true := by kernel_rfl
set_option maxRecDepth 100000 in
theorem copyNil_closed : joinedFacts Try.prog 13 Try.f13 Rows.copyNilSpec Rows.copyNilRow = true :=
  joined_of (P := Try.prog) (f := 13) (fn := Try.f13) (s := Rows.copyNilSpec) (c := Rows.copyNilRow) rfl rfl rfl rfl rfl laid_eq rowed_eq stops_eq knobs_eq heard_eq enter_eq final_eq make_eq copyNil_a1 copyNil_a2 copyNil_a3 copyNil_a4 copyNil_a5 copyNil_a6
theorem copyNil_inst : Try.f13.isInstance Try.prog Rows.copyNilRow.origin Rows.copyNilRow.targs := of_decide_eq_true (by kernel_rfl)
theorem copyNil_named : Try.prog.funcNamed Rows.copyNilRow.func = some 13 := by kernel_rfl
theorem copyNil_wrap : Try.f13.isWrapper Try.prog Rows.copyNilRow.wrapper Rows.copyNilRow.mainSum := not_main (P := Try.prog) (fn := Try.f13) (c := Rows.copyNilRow) (by kernel_rfl) rfl rfl
theorem copyNil_holds : Rows.CopyNilSaid :=
  OpenClaim.holds_of_wide 13 Try.f13 rfl rfl rfl rfl rfl rfl rfl ⟨rfl, rfl, rfl, rfl, rfl⟩ rfl rfl rfl rfl rfl copyNil_named Try.func13 copyNil_closed copyNil_inst copyNil_wrap
    (fun os started H enc _ => copyNil_lifted os started H enc)
#print axioms copyNil_holds
end Go.Proofs.Ytceahdlcbiialaa
