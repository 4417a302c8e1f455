/- What the rows share: the start, the wrapper's word. -/
import Derived.ProofKit
import Derived.SizedLaws
import Derived.Test.YtceahdlcbiialaaD5
set_option linter.unusedVariables false
set_option linter.unusedSimpArgs false
namespace Go.Proofs.Ytceahdlcbiialaa
open Go.ChangeShapes Go.WideShapes Go.ChangeAt Go.RowKit

theorem Try.own : ownKnob Try.prog.godebug = none := by kernel_rfl
theorem Try.laidOut : laidOutB Try.prog = true := by kernel_rfl
theorem To.kept0 {W W' : World} {S' : Blk} {Γ : List Asn} (h : To W (fun b => b < W.heap.size) W' S' Γ) : Below W.heap.size W W' := ⟨h.os, h.tape, h.output, h.size, fun b hb => h.kept b hb⟩
theorem ok0 (W : World) : Ok W (fun b => b < W.heap.size) [] := ⟨fun b hb => hb, trivial⟩
theorem not_main {P : Program} {fn : Func} {c : OpenClaim} (h : (Check.packageOf fn.name == "main") = false) (h1 : c.wrapper = false) (h2 : c.mainSum = "") : fn.isWrapper P c.wrapper c.mainSum := by
  unfold Func.isWrapper
  rw [if_neg (by simpa using h)]
  exact ⟨h1, h2⟩
end Go.Proofs.Ytceahdlcbiialaa
