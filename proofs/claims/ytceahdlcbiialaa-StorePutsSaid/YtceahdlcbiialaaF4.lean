/- StorePuts: any terms, laid one behind the other with their variables, make the cells, the answers and the names that the reference makes: proved of the given program, for every list of terms and every bound that can be read. Conditions: none beyond the statement of the row itself. -/
import Derived.Test.YtceahdlcbiialaaE1
import Derived.Test.YtceahdlcbiialaaE3
import Derived.Test.YtceahdlcbiialaaD9
set_option linter.unusedVariables false
set_option linter.unusedSimpArgs false
namespace Go.Proofs.Ytceahdlcbiialaa
open Go.ChangeShapes Go.WideShapes Go.ChangeAt Go.RowKit

set_option maxRecDepth 100000 in
theorem storePuts_lifted (os : Os) (started : os.Started) (H : Type) (enc : TypeId × Value → H) :
    ReturnsInHanded {} Try.checked os 5 .any (Rows.storePutsSpec.pre6 enc Try.prog Try.f5 Rows.storePutsRow.domain false) (Rows.storePutsSpec.post enc Try.prog Try.f5 false true false false) := by
  refine returnsInHanded_of_change_sized (C := Try.checked) Try.own started (by kernel_rfl) Try.func5
    (ChangeSpec.witness6 (enc := enc) (C := Try.checked) false ⟨#[], #[.slice none 0 0, .int .i64 0], []⟩ 8 (by kernel_rfl) (by kernel_rfl) (by kernel_rfl) (by kernel_rfl)) ?_
  intro W base args ds gs before hval0 hW hcnd hsz0 _
  have hsz : (DataW.weightsEach Try.prog (Try.f5.params.toList ++ Rows.storePutsSpec.plain.varTypes Try.prog) (ds ++ gs)).all (· ≤ reachBytes) = true := hsz0
  clear hsz0
  have hval : ∀ (j : Nat) t v, Try.f5.params[j]? = some t → args[j]? = some v → Value.okWide Try.prog W .any base t v := hval0
  have hW' := hW
  obtain ⟨p, q, hA0, hV, rfl, hfz, hnd⟩ := hW
  have hA : DataW.TrodAll enc Try.prog W 0 (fun _ => true) true Try.f5.params.toList args.toList ds p := hA0
  rw [Try.params5] at hA hval hsz
  obtain ⟨v0, v1, d0, d1, p0, p1, rfl, rfl, rfl, h0, h1⟩ := trodAll_two hA
  obtain ⟨rfl, rfl⟩ := trodVars_none hV
  clear hA0 hval0
  simp only [List.append_nil] at hW'
  have hlt : ∀ x ∈ p0 ++ p1, x.block < W.heap.size := fun x hx => by have h := hW'.lt x (by simpa only [List.append_assoc] using hx); simpa using h
  have hlt0 : ∀ x ∈ p0, x.block < W.heap.size := fun x hx => hlt x (by simp [hx])
  have hwt0 : ∀ n ∈ d0.weights Try.prog 23, n ≤ reachBytes := by
    intro n hn
    have := List.all_eq_true.1 hsz n (DataW.weights_mem_each (ts := [23, 3] ++ []) (j := 0) (t := 23) rfl rfl n hn)
    simpa using this
  have hk0 := h0
  obtain ⟨A0, cap0, l0, ev0, hl0⟩ := open_terms (hval 0 23 v0 rfl rfl) h0 hwt0 hlt0
  subst ev0
  have hlt1 : ∀ x ∈ p1, x.block < W.heap.size := fun x hx => hlt x (by simp [hx])
  have hk1 := h1
  obtain ⟨c1, ec1, -, -, wc1⟩ := open_int Try.underlying3 (hval 1 3 v1 rfl rfl) h1
  subst ec1
  refine (puts_spec (ok0 W) hl0 wc1).mono ?_
  rintro e W' ⟨rfl, hTo⟩
  have hB := hTo.kept0
  refine ⟨_, rfl, _, _, _, [], _, [], hW', ?_, trodAll_mk2 (Below.trod Try.laidOut (by kernel_rfl) (of_decide_eq_true (by kernel_rfl)) hk0 hB hlt0) (Below.trod Try.laidOut (by kernel_rfl) (of_decide_eq_true (by kernel_rfl)) hk1 hB hlt1), rfl, hB.frame _, fun h => by cases h⟩
  have hu : Try.checked.prog.underlying 4 = some .bool := Try.underlying4
  exact trodAll_mk1 ⟨1, by simp [DataW.trod, hu, Value.cells]⟩

theorem storePuts_a1 : Rows.storePutsRow.wf (OpenSpec.ofChange Rows.storePutsSpec) = true := by kernel_rfl
theorem storePuts_a2 : (Try.f5.params.all (Try.prog.readableRec ·) && namedTie Try.prog Rows.storePutsRow.named Rows.storePutsSpec.vars) = true := by kernel_rfl
theorem storePuts_a3 : ((Rows.storePutsRow.inPlace == Try.prog.inPlace 5) && (Rows.storePutsRow.unfollowed == Try.prog.unfollowed 5) && (Rows.storePutsRow.recurses == Try.prog.recurses 5) && (Rows.storePutsRow.named == Try.prog.varsNamed 5)) = true := by kernel_rfl
theorem storePuts_a4 : ((Rows.storePutsRow.maps == (Try.f5.params.toList ++ Rows.storePutsSpec.plain.varTypes Try.prog).any (Try.prog.mapsRec ·)) && (Rows.storePutsRow.ifaces == (Try.f5.params.toList ++ Rows.storePutsSpec.plain.varTypes Try.prog).any (Try.prog.ifacesRec ·)) && (Rows.storePutsRow.mapsOut == Try.prog.mapsAmong Try.f5.resultTypes.toList) &&
      (Rows.storePutsRow.loops == (Try.f5.params.toList ++ Rows.storePutsSpec.plain.varTypes Try.prog).any (Try.prog.loopsFrom ·)) && (Rows.storePutsRow.wideKeys == (Try.f5.params.toList ++ Rows.storePutsSpec.plain.varTypes Try.prog ++ Try.f5.resultTypes.toList).any (Try.prog.wideKeysFrom ·))) = true := by kernel_rfl
theorem storePuts_a5 : (Rows.storePutsSpec.vars.all (Try.prog.varReadable ·) && Try.f5.resultTypes.all (fun t => Try.prog.readableRec t && decide (t < Try.prog.types.size)) && (Rows.storePutsRow.ifacesOut == Try.f5.resultTypes.toList.any (Try.prog.ifacesRec ·)) && (Rows.storePutsRow.loopsOut == Try.f5.resultTypes.toList.any (Try.prog.loopsFrom ·)) && (Rows.storePutsRow.plainKeys == Try.prog.plainKeys)) = true := by kernel_rfl
theorem storePuts_a6 : ((Rows.storePutsRow.kinds == (if Rows.storePutsRow.domain.isEmpty then [] else Try.f5.params.toList.map fun t => match Try.prog.underlying t with | some (.int k) => some k | _ => none)) && (Rows.storePutsRow.pinned == Rows.storePutsRow.pinnedBy) &&
      (Rows.storePutsRow.veiled == (Try.f5.params.toList ++ Rows.storePutsSpec.plain.varTypes Try.prog ++ Try.f5.resultTypes.toList).any (Try.prog.veiledRec ·)) && Rows.storePutsRow.veiledFits Try.prog Try.f5.params.toList (Try.f5.params.toList ++ Rows.storePutsSpec.plain.varTypes Try.prog ++ Try.f5.resultTypes.toList)) = true := by kernel_rfl
set_option maxRecDepth 100000 in
theorem storePuts_closed : joinedFacts Try.prog 5 Try.f5 Rows.storePutsSpec Rows.storePutsRow = true :=
  joined_of (P := Try.prog) (f := 5) (fn := Try.f5) (s := Rows.storePutsSpec) (c := Rows.storePutsRow) rfl rfl rfl rfl rfl laid_eq rowed_eq stops_eq knobs_eq heard_eq enter_eq final_eq make_eq storePuts_a1 storePuts_a2 storePuts_a3 storePuts_a4 storePuts_a5 storePuts_a6
theorem storePuts_inst : Try.f5.isInstance Try.prog Rows.storePutsRow.origin Rows.storePutsRow.targs := of_decide_eq_true (by kernel_rfl)
theorem storePuts_named : Try.prog.funcNamed Rows.storePutsRow.func = some 5 := by kernel_rfl
theorem storePuts_wrap : Try.f5.isWrapper Try.prog Rows.storePutsRow.wrapper Rows.storePutsRow.mainSum := not_main (P := Try.prog) (fn := Try.f5) (c := Rows.storePutsRow) (by kernel_rfl) rfl rfl
theorem storePuts_holds : Rows.StorePutsSaid :=
  OpenClaim.holds_of_wide 5 Try.f5 rfl rfl rfl rfl rfl rfl rfl ⟨rfl, rfl, rfl, rfl, rfl⟩ rfl rfl rfl rfl rfl storePuts_named Try.func5 storePuts_closed storePuts_inst storePuts_wrap
    (fun os started H enc _ => storePuts_lifted os started H enc)
#print axioms storePuts_holds
end Go.Proofs.Ytceahdlcbiialaa
