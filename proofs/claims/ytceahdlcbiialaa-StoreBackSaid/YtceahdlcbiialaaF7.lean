/- StoreBack: what is laid is told: the term renamed; laid twice with the same variables both are told as one term with shared ones: proved of the given program, for every term; no condition. -/
import Derived.Test.YtceahdlcbiialaaF5M1
import Derived.Test.YtceahdlcbiialaaF5M17
import Derived.Test.YtceahdlcbiialaaF7M3
set_option linter.unusedVariables false
set_option linter.unusedSimpArgs false
namespace Go.Proofs.Ytceahdlcbiialaa
open Go.ChangeShapes Go.WideShapes Go.ChangeAt Go.RowKit

set_option maxRecDepth 100000 in
theorem storeBack_lifted (os : Os) (started : os.Started) (H : Type) (enc : TypeId × Value → H) :
    ReturnsInHanded {} Try.checked os 9 .any (Rows.storeBackSpec.pre6 enc Try.prog Try.f9 Rows.storeBackRow.domain false) (Rows.storeBackSpec.post enc Try.prog Try.f9 false true false false) := by
  refine returnsInHanded_of_change_sized (C := Try.checked) Try.own started (by kernel_rfl) Try.func9
    (ChangeSpec.witness6 (enc := enc) (C := Try.checked) false ⟨#[], #[.agg #[.int .i64 0, .string ⟨#[]⟩, .int .i64 0, .int .u64 0, .int .u64 0, .slice none 0 0]], []⟩ 8 (by kernel_rfl) (by kernel_rfl) (by kernel_rfl) (by kernel_rfl)) ?_
  intro W base args ds gs before hval0 hW hcnd hsz0 _
  have hsz : (DataW.weightsEach Try.prog (Try.f9.params.toList ++ Rows.storeBackSpec.plain.varTypes Try.prog) (ds ++ gs)).all (· ≤ reachBytes) = true := hsz0
  clear hsz0
  have hval : ∀ (j : Nat) t v, Try.f9.params[j]? = some t → args[j]? = some v → Value.okWide Try.prog W .any base t v := hval0
  have hW' := hW
  obtain ⟨p, q, hA0, hV, rfl, hfz, hnd⟩ := hW
  have hA : DataW.TrodAll enc Try.prog W 0 (fun _ => true) true Try.f9.params.toList args.toList ds p := hA0
  rw [Try.params9] at hA hval hsz
  obtain ⟨v0, d0, rfl, rfl, h0⟩ := trodAll_one hA
  obtain ⟨rfl, rfl⟩ := trodVars_none hV
  clear hA0 hval0
  simp only [List.append_nil] at hW'
  have hlt : ∀ x ∈ p, x.block < W.heap.size := fun x hx => by have h := hW'.lt x (by simpa only [List.append_assoc] using hx); simpa using h
  have hlt0 := hlt
  have hwt0 : ∀ n ∈ d0.weights Try.prog 25, n ≤ reachBytes := by
    intro n hn
    have := List.all_eq_true.1 hsz n (DataW.weights_mem_each (ts := [25] ++ []) (j := 0) (t := 25) rfl rfl n hn)
    simpa using this
  have hv0 := hval 0 25 v0 rfl rfl
  unfold Value.okWide at hv0
  rw [Try.underlying25] at hv0
  obtain ⟨cs0, rfl, hcs0, -⟩ := hv0
  have hk0 := h0
  obtain ⟨fuel0, hf0⟩ := h0
  obtain ⟨t0, ht0⟩ := open_term fuel0 cs0.toList (d0, p) hf0 hwt0 hlt0
  refine (back_spec (ok0 W) ht0).mono ?_
  rintro e W' ⟨rfl, hTo⟩
  have hB := hTo.kept0
  refine ⟨_, rfl, _, _, _, [], _, [], hW', ?_, trodAll_mk1 (Below.trod Try.laidOut (by kernel_rfl) (of_decide_eq_true (by kernel_rfl)) hk0 hB hlt0), rfl, hB.frame _, fun h => by cases h⟩
  have hu : Try.checked.prog.underlying 4 = some .bool := Try.underlying4
  exact trodAll_mk1 ⟨1, by simp [DataW.trod, hu, Value.cells]⟩

theorem storeBack_a1 : Rows.storeBackRow.wf (OpenSpec.ofChange Rows.storeBackSpec) = true := by kernel_rfl
theorem storeBack_a2 : (Try.f9.params.all (Try.prog.readableRec ·) && namedTie Try.prog Rows.storeBackRow.named Rows.storeBackSpec.vars) = true := by kernel_rfl
theorem storeBack_a3 : ((Rows.storeBackRow.inPlace == Try.prog.inPlace 9) && (Rows.storeBackRow.unfollowed == Try.prog.unfollowed 9) && (Rows.storeBackRow.recurses == Try.prog.recurses 9) && (Rows.storeBackRow.named == Try.prog.varsNamed 9)) = true := by kernel_rfl
theorem storeBack_a4 : ((Rows.storeBackRow.maps == (Try.f9.params.toList ++ Rows.storeBackSpec.plain.varTypes Try.prog).any (Try.prog.mapsRec ·)) && (Rows.storeBackRow.ifaces == (Try.f9.params.toList ++ Rows.storeBackSpec.plain.varTypes Try.prog).any (Try.prog.ifacesRec ·)) && (Rows.storeBackRow.mapsOut == Try.prog.mapsAmong Try.f9.resultTypes.toList) &&
      (Rows.storeBackRow.loops == (Try.f9.params.toList ++ Rows.storeBackSpec.plain.varTypes Try.prog).any (Try.prog.loopsFrom ·)) && (Rows.storeBackRow.wideKeys == (Try.f9.params.toList ++ Rows.storeBackSpec.plain.varTypes Try.prog ++ Try.f9.resultTypes.toList).any (Try.prog.wideKeysFrom ·))) = true := by kernel_rfl
theorem storeBack_a5 : (Rows.storeBackSpec.vars.all (Try.prog.varReadable ·) && Try.f9.resultTypes.all (fun t => Try.prog.readableRec t && decide (t < Try.prog.types.size)) && (Rows.storeBackRow.ifacesOut == Try.f9.resultTypes.toList.any (Try.prog.ifacesRec ·)) && (Rows.storeBackRow.loopsOut == Try.f9.resultTypes.toList.any (Try.prog.loopsFrom ·)) && (Rows.storeBackRow.plainKeys == Try.prog.plainKeys)) = true := by kernel_rfl
theorem storeBack_a6 : ((Rows.storeBackRow.kinds == (if Rows.storeBackRow.domain.isEmpty then [] else Try.f9.params.toList.map fun t => match Try.prog.underlying t with | some (.int k) => some k | _ => none)) && (Rows.storeBackRow.pinned == Rows.storeBackRow.pinnedBy) &&
      (Rows.storeBackRow.veiled == (Try.f9.params.toList ++ Rows.storeBackSpec.plain.varTypes Try.prog ++ Try.f9.resultTypes.toList).any (Try.prog.veiledRec ·)) && Rows.storeBackRow.veiledFits Try.prog Try.f9.params.toList (Try.f9.params.toList ++ Rows.storeBackSpec.plain.varTypes Try.prog ++ Try.f9.resultTypes.toList)) = true := by kernel_rfl
set_option maxRecDepth 100000 in
theorem storeBack_closed : joinedFacts Try.prog 9 Try.f9 Rows.storeBackSpec Rows.storeBackRow = true :=
  joined_of (P := Try.prog) (f := 9) (fn := Try.f9) (s := Rows.storeBackSpec) (c := Rows.storeBackRow) rfl rfl rfl rfl rfl laid_eq rowed_eq stops_eq knobs_eq heard_eq enter_eq final_eq make_eq storeBack_a1 storeBack_a2 storeBack_a3 storeBack_a4 storeBack_a5 storeBack_a6
theorem storeBack_inst : Try.f9.isInstance Try.prog Rows.storeBackRow.origin Rows.storeBackRow.targs := of_decide_eq_true (by kernel_rfl)
theorem storeBack_named : Try.prog.funcNamed Rows.storeBackRow.func = some 9 := by kernel_rfl
theorem storeBack_wrap : Try.f9.isWrapper Try.prog Rows.storeBackRow.wrapper Rows.storeBackRow.mainSum := not_main (P := Try.prog) (fn := Try.f9) (c := Rows.storeBackRow) (by kernel_rfl) rfl rfl
theorem storeBack_holds : Rows.StoreBackSaid :=
  OpenClaim.holds_of_wide 9 Try.f9 rfl rfl rfl rfl rfl rfl rfl ⟨rfl, rfl, rfl, rfl, rfl⟩ rfl rfl rfl rfl rfl storeBack_named Try.func9 storeBack_closed storeBack_inst storeBack_wrap
    (fun os started H enc _ => storeBack_lifted os started H enc)
#print axioms storeBack_holds
end Go.Proofs.Ytceahdlcbiialaa
