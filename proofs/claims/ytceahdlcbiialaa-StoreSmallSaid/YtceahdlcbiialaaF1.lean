/- StoreSmall: a term that may be takes just the cells that the law counts: proved of the given program, for every term that can be read. Conditions: none beyond the statement's own. -/
import Derived.Test.YtceahdlcbiialaaE1
import Derived.Test.YtceahdlcbiialaaD6
set_option linter.unusedVariables false
set_option linter.unusedSimpArgs false
namespace Go.Proofs.Ytceahdlcbiialaa
open Go.RowKit

theorem small_a1 : Rows.storeSmallRow.wf (OpenSpec.ofChange Rows.storeSmallSpec) = true := by kernel_rfl
theorem small_a2 : (Try.f3.params.all (Try.prog.readableRec ·) && namedTie Try.prog Rows.storeSmallRow.named Rows.storeSmallSpec.vars) = true := by kernel_rfl
theorem small_a3 : ((Rows.storeSmallRow.inPlace == Try.prog.inPlace 3) && (Rows.storeSmallRow.unfollowed == Try.prog.unfollowed 3) && (Rows.storeSmallRow.recurses == Try.prog.recurses 3) && (Rows.storeSmallRow.named == Try.prog.varsNamed 3)) = true := by kernel_rfl
theorem small_a4 : ((Rows.storeSmallRow.maps == (Try.f3.params.toList ++ Rows.storeSmallSpec.plain.varTypes Try.prog).any (Try.prog.mapsRec ·)) && (Rows.storeSmallRow.ifaces == (Try.f3.params.toList ++ Rows.storeSmallSpec.plain.varTypes Try.prog).any (Try.prog.ifacesRec ·)) && (Rows.storeSmallRow.mapsOut == Try.prog.mapsAmong Try.f3.resultTypes.toList) &&
      (Rows.storeSmallRow.loops == (Try.f3.params.toList ++ Rows.storeSmallSpec.plain.varTypes Try.prog).any (Try.prog.loopsFrom ·)) && (Rows.storeSmallRow.wideKeys == (Try.f3.params.toList ++ Rows.storeSmallSpec.plain.varTypes Try.prog ++ Try.f3.resultTypes.toList).any (Try.prog.wideKeysFrom ·))) = true := by kernel_rfl
theorem small_a5 : (Rows.storeSmallSpec.vars.all (Try.prog.varReadable ·) && Try.f3.resultTypes.all (fun t => Try.prog.readableRec t && decide (t < Try.prog.types.size)) && (Rows.storeSmallRow.ifacesOut == Try.f3.resultTypes.toList.any (Try.prog.ifacesRec ·)) && (Rows.storeSmallRow.loopsOut == Try.f3.resultTypes.toList.any (Try.prog.loopsFrom ·)) && (Rows.storeSmallRow.plainKeys == Try.prog.plainKeys)) = true := by kernel_rfl
theorem small_a6 : ((Rows.storeSmallRow.kinds == (if Rows.storeSmallRow.domain.isEmpty then [] else Try.f3.params.toList.map fun t => match Try.prog.underlying t with | some (.int k) => some k | _ => none)) && (Rows.storeSmallRow.pinned == Rows.storeSmallRow.pinnedBy) &&
      (Rows.storeSmallRow.veiled == (Try.f3.params.toList ++ Rows.storeSmallSpec.plain.varTypes Try.prog ++ Try.f3.resultTypes.toList).any (Try.prog.veiledRec ·)) && Rows.storeSmallRow.veiledFits Try.prog Try.f3.params.toList (Try.f3.params.toList ++ Rows.storeSmallSpec.plain.varTypes Try.prog ++ Try.f3.resultTypes.toList)) = true := by kernel_rfl
set_option maxRecDepth 100000 in
theorem small_closed : joinedFacts Try.prog 3 Try.f3 Rows.storeSmallSpec Rows.storeSmallRow = true :=
  joined_of (P := Try.prog) (f := 3) (fn := Try.f3) (s := Rows.storeSmallSpec) (c := Rows.storeSmallRow) rfl rfl rfl rfl rfl laid_eq rowed_eq stops_eq knobs_eq heard_eq enter_eq final_eq make_eq small_a1 small_a2 small_a3 small_a4 small_a5 small_a6
theorem small_inst : Try.f3.isInstance Try.prog Rows.storeSmallRow.origin Rows.storeSmallRow.targs := of_decide_eq_true (by kernel_rfl)
theorem small_named : Try.prog.funcNamed Rows.storeSmallRow.func = some 3 := by kernel_rfl
theorem not_main {P : Program} {fn : Func} {c : OpenClaim} (h : (Check.packageOf fn.name == "main") = false) (h1 : c.wrapper = false) (h2 : c.mainSum = "") : fn.isWrapper P c.wrapper c.mainSum := by
  unfold Func.isWrapper
  rw [if_neg (by simpa using h)]
  exact ⟨h1, h2⟩
theorem small_wrap : Try.f3.isWrapper Try.prog Rows.storeSmallRow.wrapper Rows.storeSmallRow.mainSum := not_main (P := Try.prog) (fn := Try.f3) (c := Rows.storeSmallRow) (by kernel_rfl) rfl rfl
theorem storeSmall_holds : Rows.StoreSmallSaid :=
  OpenClaim.holds_of_wide 3 Try.f3 rfl rfl rfl rfl rfl rfl rfl ⟨rfl, rfl, rfl, rfl, rfl⟩ rfl rfl rfl rfl rfl small_named Try.func3 small_closed small_inst small_wrap
    (fun os started H enc _ => small_lifted os started H enc)
#print axioms storeSmall_holds
end Go.Proofs.Ytceahdlcbiialaa
