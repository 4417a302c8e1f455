/- StoreGets: any cells, any names and any word: the term that the program reads equals the one that the reference reads, with the same answer, and Sound answers alike: proved of the given program, for every row of words, every row of names and every word; no condition. -/
import Derived.Test.YtceahdlcbiialaaF5M1
import Derived.Test.YtceahdlcbiialaaF5M18
import Derived.Test.YtceahdlcbiialaaF5M32
set_option linter.unusedVariables false
set_option linter.unusedSimpArgs false
namespace Go.Proofs.Ytceahdlcbiialaa
open Go.ChangeShapes Go.WideShapes Go.ChangeAt Go.RowKit

set_option maxRecDepth 100000 in
theorem storeGets_lifted (os : Os) (started : os.Started) (H : Type) (enc : TypeId × Value → H) :
    ReturnsInHanded {} Try.checked os 7 .any (Rows.storeGetsSpec.pre6 enc Try.prog Try.f7 Rows.storeGetsRow.domain false) (Rows.storeGetsSpec.post enc Try.prog Try.f7 false true false false) := by
  refine returnsInHanded_of_change_sized (C := Try.checked) Try.own started (by kernel_rfl) Try.func7
    (ChangeSpec.witness6 (enc := enc) (C := Try.checked) false ⟨#[], #[.slice none 0 0, .slice none 0 0, .int .u64 0], []⟩ 8 (by kernel_rfl) (by kernel_rfl) (by kernel_rfl) (by kernel_rfl)) ?_
  intro W base args ds gs before hval0 hW hcnd hsz0 _
  have hsz : (DataW.weightsEach Try.prog (Try.f7.params.toList ++ Rows.storeGetsSpec.plain.varTypes Try.prog) (ds ++ gs)).all (· ≤ reachBytes) = true := hsz0
  clear hsz0
  have hval : ∀ (j : Nat) t v, Try.f7.params[j]? = some t → args[j]? = some v → Value.okWide Try.prog W .any base t v := hval0
  have hW' := hW
  obtain ⟨p, q, hA0, hV, rfl, hfz, hnd⟩ := hW
  have hA : DataW.TrodAll enc Try.prog W 0 (fun _ => true) true Try.f7.params.toList args.toList ds p := hA0
  rw [Try.params7] at hA hval hsz
  obtain ⟨v0, v1, v2, d0, d1, d2, p0, p1, p2, rfl, rfl, rfl, h0, h1, h2⟩ := trodAll_three hA
  obtain ⟨rfl, rfl⟩ := trodVars_none hV
  clear hA0 hval0
  simp only [List.append_nil] at hW'
  have hlt : ∀ x ∈ p0 ++ p1 ++ p2, x.block < W.heap.size := fun x hx => by have h := hW'.lt x (by simpa only [List.append_assoc] using hx); simpa using h
  have hlt0 : ∀ x ∈ p0, x.block < W.heap.size := fun x hx => hlt x (by simp [hx])
  have hwt0 : ∀ n ∈ d0.weights Try.prog 62, n ≤ reachBytes := by
    intro n hn
    have := List.all_eq_true.1 hsz n (DataW.weights_mem_each (ts := [62, 55, 34] ++ []) (j := 0) (t := 62) rfl rfl n hn)
    simpa using this
  have hk0 := h0
  obtain ⟨A0, cap0, l0, ev0, hl0⟩ := open_wordsY (hval 0 62 v0 rfl rfl) h0 hwt0 hlt0
  subst ev0
  have hlt1 : ∀ x ∈ p1, x.block < W.heap.size := fun x hx => hlt x (by simp [hx])
  have hwt1 : ∀ n ∈ d1.weights Try.prog 55, n ≤ reachBytes := by
    intro n hn
    have := List.all_eq_true.1 hsz n (DataW.weights_mem_each (ts := [62, 55, 34] ++ []) (j := 1) (t := 55) rfl rfl n hn)
    simpa using this
  have hk1 := h1
  obtain ⟨A1, cap1, l1, ev1, hl1⟩ := open_strsY (hval 1 55 v1 rfl rfl) h1 hwt1 hlt1
  subst ev1
  have hlt2 : ∀ x ∈ p2, x.block < W.heap.size := fun x hx => hlt x (by simp [hx])
  have hk2 := h2
  obtain ⟨c2, ec2, -, -, wc2⟩ := open_int Try.underlying34 (hval 2 34 v2 rfl rfl) h2
  subst ec2
  refine (gets_spec (ok0 W) hl0 hl1 wc2).mono ?_
  rintro e W' ⟨rfl, hTo⟩
  have hB := hTo.kept0
  refine ⟨_, rfl, _, _, _, [], _, [], hW', ?_, trodAll_mk3 (Below.trod Try.laidOut (by kernel_rfl) (of_decide_eq_true (by kernel_rfl)) hk0 hB hlt0) (Below.trod Try.laidOut (by kernel_rfl) (of_decide_eq_true (by kernel_rfl)) hk1 hB hlt1) (Below.trod Try.laidOut (by kernel_rfl) (of_decide_eq_true (by kernel_rfl)) hk2 hB hlt2), rfl, hB.frame _, fun h => by cases h⟩
  have hu : Try.checked.prog.underlying 4 = some .bool := Try.underlying4
  exact trodAll_mk1 ⟨1, by simp [DataW.trod, hu, Value.cells]⟩

theorem storeGets_a1 : Rows.storeGetsRow.wf (OpenSpec.ofChange Rows.storeGetsSpec) = true := by kernel_rfl
theorem storeGets_a2 : (Try.f7.params.all (Try.prog.readableRec ·) && namedTie Try.prog Rows.storeGetsRow.named Rows.storeGetsSpec.vars) = true := by kernel_rfl
theorem storeGets_a3 : ((Rows.storeGetsRow.inPlace == Try.prog.inPlace 7) && (Rows.storeGetsRow.unfollowed == Try.prog.unfollowed 7) && (Rows.storeGetsRow.recurses == Try.prog.recurses 7) && (Rows.storeGetsRow.named == Try.prog.varsNamed 7)) = true := by kernel_rfl
theorem storeGets_a4 : ((Rows.storeGetsRow.maps == (Try.f7.params.toList ++ Rows.storeGetsSpec.plain.varTypes Try.prog).any (Try.prog.mapsRec ·)) && (Rows.storeGetsRow.ifaces == (Try.f7.params.toList ++ Rows.storeGetsSpec.plain.varTypes Try.prog).any (Try.prog.ifacesRec ·)) && (Rows.storeGetsRow.mapsOut == Try.prog.mapsAmong Try.f7.resultTypes.toList) &&
      (Rows.storeGetsRow.loops == (Try.f7.params.toList ++ Rows.storeGetsSpec.plain.varTypes Try.prog).any (Try.prog.loopsFrom ·)) && (Rows.storeGetsRow.wideKeys == (Try.f7.params.toList ++ Rows.storeGetsSpec.plain.varTypes Try.prog ++ Try.f7.resultTypes.toList).any (Try.prog.wideKeysFrom ·))) = true := by kernel_rfl
theorem storeGets_a5 : (Rows.storeGetsSpec.vars.all (Try.prog.varReadable ·) && Try.f7.resultTypes.all (fun t => Try.prog.readableRec t && decide (t < Try.prog.types.size)) && (Rows.storeGetsRow.ifacesOut == Try.f7.resultTypes.toList.any (Try.prog.ifacesRec ·)) && (Rows.storeGetsRow.loopsOut == Try.f7.resultTypes.toList.any (Try.prog.loopsFrom ·)) && (Rows.storeGetsRow.plainKeys == Try.prog.plainKeys)) = true := by kernel_rfl
theorem storeGets_a6 : ((Rows.storeGetsRow.kinds == (if Rows.storeGetsRow.domain.isEmpty then [] else Try.f7.params.toList.map fun t => match Try.prog.underlying t with | some (.int k) => some k | _ => none)) && (Rows.storeGetsRow.pinned == Rows.storeGetsRow.pinnedBy) &&
      (Rows.storeGetsRow.veiled == (Try.f7.params.toList ++ Rows.storeGetsSpec.plain.varTypes Try.prog ++ Try.f7.resultTypes.toList).any (Try.prog.veiledRec ·)) && Rows.storeGetsRow.veiledFits Try.prog Try.f7.params.toList (Try.f7.params.toList ++ Rows.storeGetsSpec.plain.varTypes Try.prog ++ Try.f7.resultTypes.toList)) = true := by kernel_rfl
set_option maxRecDepth 100000 in
theorem storeGets_closed : joinedFacts Try.prog 7 Try.f7 Rows.storeGetsSpec Rows.storeGetsRow = true :=
  joined_of (P := Try.prog) (f := 7) (fn := Try.f7) (s := Rows.storeGetsSpec) (c := Rows.storeGetsRow) rfl rfl rfl rfl rfl laid_eq rowed_eq stops_eq knobs_eq heard_eq enter_eq final_eq make_eq storeGets_a1 storeGets_a2 storeGets_a3 storeGets_a4 storeGets_a5 storeGets_a6
theorem storeGets_inst : Try.f7.isInstance Try.prog Rows.storeGetsRow.origin Rows.storeGetsRow.targs := of_decide_eq_true (by kernel_rfl)
theorem storeGets_named : Try.prog.funcNamed Rows.storeGetsRow.func = some 7 := by kernel_rfl
theorem storeGets_wrap : Try.f7.isWrapper Try.prog Rows.storeGetsRow.wrapper Rows.storeGetsRow.mainSum := not_main (P := Try.prog) (fn := Try.f7) (c := Rows.storeGetsRow) (by kernel_rfl) rfl rfl
theorem storeGets_holds : Rows.StoreGetsSaid :=
  OpenClaim.holds_of_wide 7 Try.f7 rfl rfl rfl rfl rfl rfl rfl ⟨rfl, rfl, rfl, rfl, rfl⟩ rfl rfl rfl rfl rfl storeGets_named Try.func7 storeGets_closed storeGets_inst storeGets_wrap
    (fun os started H enc _ => storeGets_lifted os started H enc)
#print axioms storeGets_holds
end Go.Proofs.Ytceahdlcbiialaa
