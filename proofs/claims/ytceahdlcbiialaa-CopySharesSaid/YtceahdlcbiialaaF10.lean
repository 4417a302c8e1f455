/- CopyShares: the function answers true for every term that can be read: a compound that stands several times in a term by one cell is copied once; no condition. -/
import Derived.Test.YtceahdlcbiialaaF5M1
import Derived.Test.YtceahdlcbiialaaF5M17
import Derived.Test.YtceahdlcbiialaaF10M3
set_option linter.unusedVariables false
set_option linter.unusedSimpArgs false
namespace Go.Proofs.Ytceahdlcbiialaa
open Go.ChangeShapes Go.WideShapes Go.ChangeAt Go.RowKit

set_option maxRecDepth 100000 in
theorem copyShares_lifted (os : Os) (started : os.Started) (H : Type) (enc : TypeId × Value → H) :
    ReturnsInHanded {} Try.checked os 11 .any (Rows.copySharesSpec.pre6 enc Try.prog Try.f11 Rows.copySharesRow.domain false) (Rows.copySharesSpec.post enc Try.prog Try.f11 false true false false) := by
  refine returnsInHanded_of_change_sized (C := Try.checked) Try.own started (by kernel_rfl) Try.func11
    (ChangeSpec.witness6 (enc := enc) (C := Try.checked) false ⟨#[], #[.agg #[.int .i64 0, .string ⟨#[]⟩, .int .i64 0, .int .u64 0, .int .u64 0, .slice none 0 0]], []⟩ 8 (by kernel_rfl) (by kernel_rfl) (by kernel_rfl) (by kernel_rfl)) ?_
  intro W base args ds gs before hval0 hW hcnd hsz0 _
  have hsz : (DataW.weightsEach Try.prog (Try.f11.params.toList ++ Rows.copySharesSpec.plain.varTypes Try.prog) (ds ++ gs)).all (· ≤ reachBytes) = true := hsz0
  clear hsz0
  have hval : ∀ (j : Nat) t v, Try.f11.params[j]? = some t → args[j]? = some v → Value.okWide Try.prog W .any base t v := hval0
  have hW' := hW
  obtain ⟨p, q, hA0, hV, rfl, hfz, hnd⟩ := hW
  have hA : DataW.TrodAll enc Try.prog W 0 (fun _ => true) true Try.f11.params.toList args.toList ds p := hA0
  rw [Try.params11] at hA hval hsz
  obtain ⟨v0, d0, rfl, rfl, h0⟩ := trodAll_one hA
  obtain ⟨rfl, rfl⟩ := trodVars_none hV
  clear hA0 hval0
  simp only [List.append_nil] at hW'
  have hlt : ∀ x ∈ p, x.block < W.heap.size := fun x hx => by have h := hW'.lt x (by simpa only [List.append_assoc] using hx); simpa using h
  have hlt0 := hlt
  have hwt0 : ∀ n ∈ d0.weights Try.prog 25, n ≤ reachBytes := by
    intro n hn
    have := List.all_eq_true.1 hsz n (DataW.weights_mem_each (ts := [25] ++ []) (j := 0) (t := 25) rfl rfl n hn)
    simpa using this
  have hv0 := hval 0 25 v0 rfl rfl
  unfold Value.okWide at hv0
  rw [Try.underlying25] at hv0
  obtain ⟨cs0, rfl, hcs0, -⟩ := hv0
  have hk0 := h0
  obtain ⟨fuel0, hf0⟩ := h0
  obtain ⟨t0, ht0⟩ := open_term fuel0 cs0.toList (d0, p) hf0 hwt0 hlt0
  refine (copyShares_spec (ok0 W) ht0).mono ?_
  rintro e W' ⟨rfl, hTo⟩
  have hB := hTo.kept0
  refine ⟨_, rfl, _, _, _, [], _, [], hW', ?_, trodAll_mk1 (Below.trod Try.laidOut (by kernel_rfl) (of_decide_eq_true (by kernel_rfl)) hk0 hB hlt0), rfl, hB.frame _, fun h => by cases h⟩
  have hu : Try.checked.prog.underlying 4 = some .bool := Try.underlying4
  exact trodAll_mk1 ⟨1, by simp [DataW.trod, hu, Value.cells]⟩

theorem copyShares_a1 : Rows.copySharesRow.wf (OpenSpec.ofChange Rows.copySharesSpec) = true := by kernel_rfl
theorem copyShares_a2 : (Try.f11.params.all (Try.prog.readableRec ·) && namedTie Try.prog Rows.copySharesRow.named Rows.copySharesSpec.vars) = true := by kernel_rfl
theorem copyShares_a3 : ((Rows.copySharesRow.inPlace == Try.prog.inPlace 11) && (Rows.copySharesRow.unfollowed == Try.prog.unfollowed 11) && (Rows.copySharesRow.recurses == Try.prog.recurses 11) && (Rows.copySharesRow.named == Try.prog.varsNamed 11)) = true := by kernel_rfl
theorem copyShares_a4 : ((Rows.copySharesRow.maps == (Try.f11.params.toList ++ Rows.copySharesSpec.plain.varTypes Try.prog).any (Try.prog.mapsRec ·)) && (Rows.copySharesRow.ifaces == (Try.f11.params.toList ++ Rows.copySharesSpec.plain.varTypes Try.prog).any (Try.prog.ifacesRec ·)) && (Rows.copySharesRow.mapsOut == Try.prog.mapsAmong Try.f11.resultTypes.toList) &&
      (Rows.copySharesRow.loops == (Try.f11.params.toList ++ Rows.copySharesSpec.plain.varTypes Try.prog).any (Try.prog.loopsFrom ·)) && (Rows.copySharesRow.wideKeys == (Try.f11.params.toList ++ Rows.copySharesSpec.plain.varTypes Try.prog ++ Try.f11.resultTypes.toList).any (Try.prog.wideKeysFrom ·))) = true := by kernel_rfl
theorem copyShares_a5 : (Rows.copySharesSpec.vars.all (Try.prog.varReadable ·) && Try.f11.resultTypes.all (fun t => Try.prog.readableRec t && decide (t < Try.prog.types.size)) && (Rows.copySharesRow.ifacesOut == Try.f11.resultTypes.toList.any (Try.prog.ifacesRec ·)) && (Rows.copySharesRow.loopsOut == Try.f11.resultTypes.toList.any (Try.prog.loopsFrom ·)) && (Rows.copySharesRow.plainKeys == Try.prog.plainKeys)) = true := by kernel_rfl
theorem copyShares_a6 : ((Rows.copySharesRow.kinds == (if Rows.copySharesRow.domain.isEmpty then [] else Try.f11.params.toList.map fun t => match Try.prog.underlying t with | some (.int k) => some k | _ => none)) && (Rows.copySharesRow.pinned == Rows.copySharesRow.pinnedBy) &&
      (Rows.copySharesRow.veiled == (Try.f11.params.toList ++ Rows.copySharesSpec.plain.varTypes Try.prog ++ Try.f11.resultTypes.toList).any (Try.prog.veiledRec ·)) && Rows.copySharesRow.veiledFits Try.prog Try.f11.params.toList (Try.f11.params.toList ++ Rows.copySharesSpec.plain.varTypes Try.prog ++ Try.f11.resultTypes.toList)) = true := by kernel_rfl
set_option maxRecDepth 100000 in
theorem copyShares_closed : joinedFacts Try.prog 11 Try.f11 Rows.copySharesSpec Rows.copySharesRow = true :=
  joined_of (P := Try.prog) (f := 11) (fn := Try.f11) (s := Rows.copySharesSpec) (c := Rows.copySharesRow) rfl rfl rfl rfl rfl laid_eq rowed_eq stops_eq knobs_eq heard_eq enter_eq final_eq make_eq copyShares_a1 copyShares_a2 copyShares_a3 copyShares_a4 copyShares_a5 copyShares_a6
theorem copyShares_inst : Try.f11.isInstance Try.prog Rows.copySharesRow.origin Rows.copySharesRow.targs := of_decide_eq_true (by kernel_rfl)
theorem copyShares_named : Try.prog.funcNamed Rows.copySharesRow.func = some 11 := by kernel_rfl
theorem copyShares_wrap : Try.f11.isWrapper Try.prog Rows.copySharesRow.wrapper Rows.copySharesRow.mainSum := not_main (P := Try.prog) (fn := Try.f11) (c := Rows.copySharesRow) (by kernel_rfl) rfl rfl
theorem copyShares_holds : Rows.CopySharesSaid :=
  OpenClaim.holds_of_wide 11 Try.f11 rfl rfl rfl rfl rfl rfl rfl ⟨rfl, rfl, rfl, rfl, rfl⟩ rfl rfl rfl rfl rfl copyShares_named Try.func11 copyShares_closed copyShares_inst copyShares_wrap
    (fun os started H enc _ => copyShares_lifted os started H enc)
#print axioms copyShares_holds
end Go.Proofs.Ytceahdlcbiialaa
