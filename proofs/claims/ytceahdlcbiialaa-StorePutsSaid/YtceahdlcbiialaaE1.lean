/- What the rows ask of the program, taken apart: the facts that all of them share. -/
import Derived.Test.YtceahdlcbiialaaE0
set_option linter.unusedVariables false
set_option linter.unusedSimpArgs false
namespace Go.Proofs.Ytceahdlcbiialaa

theorem doors_eq : Try.prog.doorRows = [] := by kernel_rfl
theorem doorFits_of {P : Program} (h : P.doorRows = []) : P.doorFits [] = true := by
  unfold Program.doorFits
  rw [h]
  rfl
theorem enter_of {P : Program} {rest : List (List Char)} (h : behindMainWord (wordsSigns P.initOrder.toList) = wC :: rest) (h0 : (wC == "cut".toList) = true) (h1 : P.laysLater = false) (h2 : P.bearsReflect = false) (h3 : P.doorRows = []) : P.mayEnter = true := by
  have hd := doorFits_of h3
  have hc : (some wC == some "cut".toList) = true := by simpa using h0
  unfold Program.mayEnter
  rw [h]
  simp only [strip_cut, h1, h2, hd, List.head?_cons, hc]
  simp
theorem enter_eq : Try.prog.mayEnter = true := enter_of main_words wC_cut lays_eq bears_eq doors_eq
theorem wC_carried : (wC == "carried".toList) = false := by kernel_rfl
theorem final_eq : Try.prog.liftsFinal = false := final_of main_words wC_carried
theorem laid_eq : laidOutB Try.prog = true := by kernel_rfl
theorem rowed_eq : mapsRowed Try.prog = true := by kernel_rfl
theorem stops_eq : (Try.prog.stops == []) = true := by kernel_rfl
theorem knobs_eq : (Try.prog.stopKnobs == []) = true := by kernel_rfl
theorem heard_eq : Try.prog.stopsHeard = true := by kernel_rfl

/-- The facts of one row, put together. -/
theorem joined_of {P : Program} {f : FuncId} {fn : Func} {s : ChangeSpec} {c : OpenClaim}
    (hs : c.stops = []) (hk : c.knobs = []) (hm : c.make = .cut) (hl : c.lifted = false) (hst : c.shortTexts = none)
    (p1 : laidOutB P = true) (p2 : mapsRowed P = true) (p3 : (P.stops == []) = true) (p4 : (P.stopKnobs == []) = true) (p5 : P.stopsHeard = true) (p6 : P.mayEnter = true) (p7 : P.liftsFinal = false) (p8 : P.make = some .cut)
    (a1 : c.wf (OpenSpec.ofChange s) = true) (a2 : (fn.params.all (P.readableRec ·) && namedTie P c.named s.vars) = true)
    (a3 : ((c.inPlace == P.inPlace f) && (c.unfollowed == P.unfollowed f) && (c.recurses == P.recurses f) && (c.named == P.varsNamed f)) = true)
    (a4 : ((c.maps == (fn.params.toList ++ s.plain.varTypes P).any (P.mapsRec ·)) && (c.ifaces == (fn.params.toList ++ s.plain.varTypes P).any (P.ifacesRec ·)) && (c.mapsOut == P.mapsAmong fn.resultTypes.toList) &&
      (c.loops == (fn.params.toList ++ s.plain.varTypes P).any (P.loopsFrom ·)) && (c.wideKeys == (fn.params.toList ++ s.plain.varTypes P ++ fn.resultTypes.toList).any (P.wideKeysFrom ·))) = true)
    (a5 : (s.vars.all (P.varReadable ·) && fn.resultTypes.all (fun t => P.readableRec t && decide (t < P.types.size)) && (c.ifacesOut == fn.resultTypes.toList.any (P.ifacesRec ·)) && (c.loopsOut == fn.resultTypes.toList.any (P.loopsFrom ·)) && (c.plainKeys == P.plainKeys)) = true)
    (a6 : ((c.kinds == (if c.domain.isEmpty then [] else fn.params.toList.map fun t => match P.underlying t with | some (.int k) => some k | _ => none)) && (c.pinned == c.pinnedBy) &&
      (c.veiled == (fn.params.toList ++ s.plain.varTypes P ++ fn.resultTypes.toList).any (P.veiledRec ·)) && c.veiledFits P fn.params.toList (fn.params.toList ++ s.plain.varTypes P ++ fn.resultTypes.toList)) = true) : joinedFacts P f fn s c = true := by
  simp only [Bool.and_eq_true] at a2 a3 a4 a5 a6
  simp only [joinedFacts, Bool.and_eq_true]
  obtain ⟨b1, b2⟩ := a2
  obtain ⟨⟨⟨c1, c2⟩, c3⟩, c4⟩ := a3
  obtain ⟨⟨⟨⟨d1, d2⟩, d3⟩, d4⟩, d5⟩ := a4
  obtain ⟨⟨⟨⟨e1, e2⟩, e3⟩, e4⟩, e5⟩ := a5
  obtain ⟨⟨⟨f1, f2⟩, f3⟩, f4⟩ := a6
  refine ⟨⟨⟨⟨⟨⟨⟨⟨⟨⟨⟨⟨⟨⟨⟨⟨⟨⟨⟨⟨⟨⟨⟨⟨⟨⟨⟨⟨⟨⟨⟨a1, p1⟩, p2⟩, b1⟩, b2⟩, ?_⟩, p3⟩, ?_⟩, p4⟩, c1⟩, c2⟩, c3⟩, c4⟩, d1⟩, d2⟩, d3⟩, d4⟩, d5⟩, e1⟩, e2⟩, e3⟩, e4⟩, e5⟩, ?_⟩, p5⟩, p6⟩, ?_⟩, ?_⟩, f1⟩, f2⟩, f3⟩, f4⟩
  · rw [hs]; rfl
  · rw [hk]; rfl
  · rw [hst]; rfl
  · rw [hl, p7]; rfl
  · rw [p8, hm]; decide
end Go.Proofs.Ytceahdlcbiialaa
