/- CopyTwice: the function answers true for every term that can be read: a copy's copy stands for a variant, takes no more cells, and a copy to its own heap leaves the term; no condition. -/
import Derived.Test.YtceahdlcbiialaaF5M1
import Derived.Test.YtceahdlcbiialaaF5M17
import Derived.Test.YtceahdlcbiialaaF9M3
set_option linter.unusedVariables false
set_option linter.unusedSimpArgs false
namespace Go.Proofs.Ytceahdlcbiialaa
open Go.ChangeShapes Go.WideShapes Go.ChangeAt Go.RowKit

set_option maxRecDepth 100000 in
theorem copyTwice_lifted (os : Os) (started : os.Started) (H : Type) (enc : TypeId × Value → H) :
    ReturnsInHanded {} Try.checked os 10 .any (Rows.copyTwiceSpec.pre6 enc Try.prog Try.f10 Rows.copyTwiceRow.domain false) (Rows.copyTwiceSpec.post enc Try.prog Try.f10 false true false false) := by
  refine returnsInHanded_of_change_sized (C := Try.checked) Try.own started (by kernel_rfl) Try.func10
    (ChangeSpec.witness6 (enc := enc) (C := Try.checked) false ⟨#[], #[.agg #[.int .i64 0, .string ⟨#[]⟩, .int .i64 0, .int .u64 0, .int .u64 0, .slice none 0 0]], []⟩ 8 (by kernel_rfl) (by kernel_rfl) (by kernel_rfl) (by kernel_rfl)) ?_
  intro W base args ds gs before hval0 hW hcnd hsz0 _
  have hsz : (DataW.weightsEach Try.prog (Try.f10.params.toList ++ Rows.copyTwiceSpec.plain.varTypes Try.prog) (ds ++ gs)).all (· ≤ reachBytes) = true := hsz0
  clear hsz0
  have hval : ∀ (j : Nat) t v, Try.f10.params[j]? = some t → args[j]? = some v → Value.okWide Try.prog W .any base t v := hval0
  have hW' := hW
  obtain ⟨p, q, hA0, hV, rfl, hfz, hnd⟩ := hW
  have hA : DataW.TrodAll enc Try.prog W 0 (fun _ => true) true Try.f10.params.toList args.toList ds p := hA0
  rw [Try.params10] at hA hval hsz
  obtain ⟨v0, d0, rfl, rfl, h0⟩ := trodAll_one hA
  obtain ⟨rfl, rfl⟩ := trodVars_none hV
  clear hA0 hval0
  simp only [List.append_nil] at hW'
  have hlt : ∀ x ∈ p, x.block < W.heap.size := fun x hx => by have h := hW'.lt x (by simpa only [List.append_assoc] using hx); simpa using h
  have hlt0 := hlt
  have hwt0 : ∀ n ∈ d0.weights Try.prog 25, n ≤ reachBytes := by
    intro n hn
    have := List.all_eq_true.1 hsz n (DataW.weights_mem_each (ts := [25] ++ []) (j := 0) (t := 25) rfl rfl n hn)
    simpa using this
  have hv0 := hval 0 25 v0 rfl rfl
  unfold Value.okWide at hv0
  rw [Try.underlying25] at hv0
  obtain ⟨cs0, rfl, hcs0, -⟩ := hv0
  have hk0 := h0
  obtain ⟨fuel0, hf0⟩ := h0
  obtain ⟨t0, ht0⟩ := open_term fuel0 cs0.toList (d0, p) hf0 hwt0 hlt0
  refine (copyTwice_spec (ok0 W) ht0).mono ?_
  rintro e W' ⟨rfl, hTo⟩
  have hB := hTo.kept0
  refine ⟨_, rfl, _, _, _, [], _, [], hW', ?_, trodAll_mk1 (Below.trod Try.laidOut (by kernel_rfl) (of_decide_eq_true (by kernel_rfl)) hk0 hB hlt0), rfl, hB.frame _, fun h => by cases h⟩
  have hu : Try.checked.prog.underlying 4 = some .bool := Try.underlying4
  exact trodAll_mk1 ⟨1, by simp [DataW.trod, hu, Value.cells]⟩

theorem copyTwice_a1 : Rows.copyTwiceRow.wf (OpenSpec.ofChange Rows.copyTwiceSpec) = true := by kernel_rfl
theorem copyTwice_a2 : (Try.f10.params.all (Try.prog.readableRec ·) && namedTie Try.prog Rows.copyTwiceRow.named Rows.copyTwiceSpec.vars) = true := by kernel_rfl
theorem copyTwice_a3 : ((Rows.copyTwiceRow.inPlace == Try.prog.inPlace 10) && (Rows.copyTwiceRow.unfollowed == Try.prog.unfollowed 10) && (Rows.copyTwiceRow.recurses == Try.prog.recurses 10) && (Rows.copyTwiceRow.named == Try.prog.varsNamed 10)) = true := by kernel_rfl
theorem copyTwice_a4 : ((Rows.copyTwiceRow.maps == (Try.f10.params.toList ++ Rows.copyTwiceSpec.plain.varTypes Try.prog).any (Try.prog.mapsRec ·)) && (Rows.copyTwiceRow.ifaces == (Try.f10.params.toList ++ Rows.copyTwiceSpec.plain.varTypes Try.prog).any (Try.prog.ifacesRec ·)) && (Rows.copyTwiceRow.mapsOut == Try.prog.mapsAmong Try.f10.resultTypes.toList) &&
      (Rows.copyTwiceRow.loops == (Try.f10.params.toList ++ Rows.copyTwiceSpec.plain.varTypes Try.prog).any (Try.prog.loopsFrom ·)) && (Rows.copyTwiceRow.wideKeys == (Try.f10.params.toList ++ Rows.copyTwiceSpec.plain.varTypes Try.prog ++ Try.f10.resultTypes.toList).any (Try.prog.wideKeysFrom ·))) = true := by kernel_rfl
theorem copyTwice_a5 : (Rows.copyTwiceSpec.vars.all (Try.prog.varReadable ·) && Try.f10.resultTypes.all (fun t => Try.prog.readableRec t && decide (t < Try.prog.types.size)) && (Rows.copyTwiceRow.ifacesOut == Try.f10.resultTypes.toList.any (Try.prog.ifacesRec ·)) && (Rows.copyTwiceRow.loopsOut == Try.f10.resultTypes.toList.any (Try.prog.loopsFrom ·)) && (Rows.copyTwiceRow.plainKeys == Try.prog.plainKeys)) = true := by kernel_rfl
theorem copyTwice_a6 : ((Rows.copyTwiceRow.kinds == (if Rows.copyTwiceRow.domain.isEmpty then [] else Try.f10.params.toList.map fun t => match Try.prog.underlying t with | some (.int k) => some k | _ => none)) && (Rows.copyTwiceRow.pinned == Rows.copyTwiceRow.pinnedBy) &&
      (Rows.copyTwiceRow.veiled == (Try.f10.params.toList ++ Rows.copyTwiceSpec.plain.varTypes Try.prog ++ Try.f10.resultTypes.toList).any (Try.prog.veiledRec ·)) && Rows.copyTwiceRow.veiledFits Try.prog Try.f10.params.toList (Try.f10.params.toList ++ Rows.copyTwiceSpec.plain.varTypes Try.prog ++ Try.f10.resultTypes.toList)) = true := by kernel_rfl
set_option maxRecDepth 100000 in
theorem copyTwice_closed : joinedFacts Try.prog 10 Try.f10 Rows.copyTwiceSpec Rows.copyTwiceRow = true :=
  joined_of (P := Try.prog) (f := 10) (fn := Try.f10) (s := Rows.copyTwiceSpec) (c := Rows.copyTwiceRow) rfl rfl rfl rfl rfl laid_eq rowed_eq stops_eq knobs_eq heard_eq enter_eq final_eq make_eq copyTwice_a1 copyTwice_a2 copyTwice_a3 copyTwice_a4 copyTwice_a5 copyTwice_a6
theorem copyTwice_inst : Try.f10.isInstance Try.prog Rows.copyTwiceRow.origin Rows.copyTwiceRow.targs := of_decide_eq_true (by kernel_rfl)
theorem copyTwice_named : Try.prog.funcNamed Rows.copyTwiceRow.func = some 10 := by kernel_rfl
theorem copyTwice_wrap : Try.f10.isWrapper Try.prog Rows.copyTwiceRow.wrapper Rows.copyTwiceRow.mainSum := not_main (P := Try.prog) (fn := Try.f10) (c := Rows.copyTwiceRow) (by kernel_rfl) rfl rfl
theorem copyTwice_holds : Rows.CopyTwiceSaid :=
  OpenClaim.holds_of_wide 10 Try.f10 rfl rfl rfl rfl rfl rfl rfl ⟨rfl, rfl, rfl, rfl, rfl⟩ rfl rfl rfl rfl rfl copyTwice_named Try.func10 copyTwice_closed copyTwice_inst copyTwice_wrap
    (fun os started H enc _ => copyTwice_lifted os started H enc)
#print axioms copyTwice_holds
end Go.Proofs.Ytceahdlcbiialaa
