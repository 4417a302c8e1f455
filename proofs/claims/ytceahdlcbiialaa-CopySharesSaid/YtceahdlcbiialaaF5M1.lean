/- What the rows ask of the program's head words. What the rows ask of the program, taken apart: the facts that all of them share. -/
import Derived.Test.YtceahdlcbiialaaRows
import Derived.ProofKit
set_option linter.unusedVariables false
set_option linter.unusedSimpArgs false
namespace Go.Proofs.Ytceahdlcbiialaa

theorem words_app (v : List Char) : ∀ u : List Char, u.all (· != Char.ofNat 32) = true → wordsSigns (u ++ Char.ofNat 32 :: v) = u :: wordsSigns v
  | [], _ => rfl
  | c :: u, h => by
    simp only [List.all_cons, Bool.and_eq_true, bne_iff_ne, ne_eq] at h
    have ih := words_app v u h.2
    rw [List.cons_append, wordsSigns, ih]
    exact h.1
def wA : List Char := [104, 97, 114, 110, 101, 115, 115].map Char.ofNat
def wB : List Char := [49, 55, 54, 99, 98, 56, 102, 53, 102, 50, 51, 57, 49, 53, 55, 57, 48, 48, 48, 102, 101, 56, 57, 51, 49, 56, 97, 57, 54, 100, 100, 50, 98, 102, 97, 54, 102, 48, 56, 54, 54, 49, 57, 51, 99, 101, 100, 55, 52, 52, 56, 48, 99, 51, 57, 99, 48, 49, 49, 99, 48, 97, 51, 98].map Char.ofNat
def wC : List Char := [99, 117, 116].map Char.ofNat
def wD : List Char := [97, 116, 32, 101, 108, 101, 110, 99, 104, 117, 115, 47, 101, 108, 101, 110, 99, 104, 117, 115, 108, 97, 119, 55, 46, 83, 116, 111, 114, 101, 83, 109, 97, 108, 108, 32, 101, 108, 101, 110, 99, 104, 117, 115, 47, 101, 108, 101, 110, 99, 104, 117, 115, 108, 97, 119, 55, 46, 83, 116, 111, 114, 101, 65, 108, 105, 107, 101, 32, 101, 108, 101, 110, 99, 104, 117, 115, 47, 101, 108, 101, 110, 99, 104, 117, 115, 108, 97, 119, 55, 46, 83, 116, 111, 114, 101, 80, 117, 116, 115, 32, 101, 108, 101, 110, 99, 104, 117, 115, 47, 101, 108, 101, 110, 99, 104, 117, 115, 108, 97, 119, 55, 46, 83, 116, 111, 114, 101, 84, 119, 111, 32, 101, 108, 101, 110, 99, 104, 117, 115, 47, 101, 108, 101, 110, 99, 104, 117, 115, 108, 97, 119, 55, 46, 83, 116, 111, 114, 101, 71, 101, 116, 115, 32, 101, 108, 101, 110, 99, 104, 117, 115, 47, 101, 108, 101, 110, 99, 104, 117, 115, 108, 97, 119, 55, 46, 83, 116, 111, 114, 101, 78, 105, 108, 32, 101, 108, 101, 110, 99, 104, 117, 115, 47, 101, 108, 101, 110, 99, 104, 117, 115, 108, 97, 119, 55, 46, 83, 116, 111, 114, 101, 66, 97, 99, 107, 32, 101, 108, 101, 110, 99, 104, 117, 115, 47, 101, 108, 101, 110, 99, 104, 117, 115, 108, 97, 119, 49, 48, 46, 67, 111, 112, 121, 84, 119, 105, 99, 101, 32, 101, 108, 101, 110, 99, 104, 117, 115, 47, 101, 108, 101, 110, 99, 104, 117, 115, 108, 97, 119, 49, 48, 46, 67, 111, 112, 121, 83, 104, 97, 114, 101, 115, 32, 101, 108, 101, 110, 99, 104, 117, 115, 47, 101, 108, 101, 110, 99, 104, 117, 115, 108, 97, 119, 49, 48, 46, 67, 111, 112, 121, 67, 111, 108, 108, 101, 99, 116, 115, 32, 101, 108, 101, 110, 99, 104, 117, 115, 47, 101, 108, 101, 110, 99, 104, 117, 115, 108, 97, 119, 49, 48, 46, 67, 111, 112, 121, 78, 105, 108, 32, 101, 108, 101, 110, 99, 104, 117, 115, 47, 101, 108, 101, 110, 99, 104, 117, 115, 108, 97, 119, 56, 46, 85, 110, 105, 102, 121, 84, 101, 114, 109, 115, 32, 101, 108, 101, 110, 99, 104, 117, 115, 47, 101, 108, 101, 110, 99, 104, 117, 115, 108, 97, 119, 56, 46, 85, 110, 105, 102, 121, 79, 110, 101, 32, 101, 108, 101, 110, 99, 104, 117, 115, 47, 101, 108, 101, 110, 99, 104, 117, 115, 108, 97, 119, 56, 46, 85, 110, 105, 102, 121, 71, 101, 110, 101, 114, 97, 108, 32, 101, 108, 101, 110, 99, 104, 117, 115, 47, 101, 108, 101, 110, 99, 104, 117, 115, 108, 97, 119, 56, 46, 85, 110, 105, 102, 121, 84, 119, 105, 99, 101, 32, 101, 108, 101, 110, 99, 104, 117, 115, 47, 101, 108, 101, 110, 99, 104, 117, 115, 108, 97, 119, 56, 46, 85, 110, 105, 102, 121, 75, 105, 110, 100, 115, 32, 101, 108, 101, 110, 99, 104, 117, 115, 47, 101, 108, 101, 110, 99, 104, 117, 115, 108, 97, 119, 56, 46, 85, 110, 105, 102, 121, 67, 101, 108, 108, 115, 32, 101, 108, 101, 110, 99, 104, 117, 115, 47, 101, 108, 101, 110, 99, 104, 117, 115, 108, 97, 119, 56, 46, 85, 110, 105, 102, 121, 78, 105, 108, 32, 101, 108, 101, 110, 99, 104, 117, 115, 47, 101, 108, 101, 110, 99, 104, 117, 115, 108, 97, 119, 56, 46, 85, 110, 105, 102, 121, 79, 99, 99, 117, 114, 115, 32, 101, 108, 101, 110, 99, 104, 117, 115, 47, 101, 108, 101, 110, 99, 104, 117, 115, 108, 97, 119, 49, 48, 46, 67, 111, 112, 121, 65, 112, 97, 114, 116].map Char.ofNat
set_option maxRecDepth 100000 in
theorem head_words : Try.prog.initOrder = String.ofList (wA ++ Char.ofNat 32 :: (wB ++ Char.ofNat 32 :: (wC ++ Char.ofNat 32 :: wD))) := by kernel_rfl
theorem main_words : behindMainWord (wordsSigns Try.prog.initOrder.toList) = wC :: wordsSigns wD := by
  rw [head_words, String.toList_ofList, words_app _ _ (by kernel_rfl), words_app _ _ (by kernel_rfl), words_app _ _ (by kernel_rfl)]
  generalize wordsSigns wD = ws
  show (if ((wA == "harness".toList || wA == "ownmain".toList) && isSumSigns wB) = true then wC :: ws else wA :: wB :: wC :: ws) = wC :: ws
  rw [if_pos (by kernel_rfl)]
theorem wC_cut : (wC == "cut".toList) = true := by kernel_rfl
theorem wC_gc : (wC == "gc".toList || wC == "spec".toList) = false := by kernel_rfl
theorem make_of {P : Program} {c : List Char} {rest : List (List Char)} (h : behindMainWord (wordsSigns P.initOrder.toList) = c :: rest) (h1 : (c == "gc".toList || c == "spec".toList) = false) (h2 : (c == "cut".toList) = true) : P.make = some .cut := by
  unfold Program.make
  rw [h]
  simp only [h1, h2, Bool.true_or, if_true, Bool.false_eq_true, if_false]
theorem make_eq : Try.prog.make = some .cut := make_of main_words wC_gc wC_cut
theorem strip_cut (ws : List (List Char)) : stripLifts liftWords (wC :: ws) = ([], wC :: ws) := by
  have h : ∀ os : List String, os.all (fun o => !(wC == o.toList)) = true → stripLifts os (wC :: ws) = ([], wC :: ws) := by
    intro os
    induction os with
    | nil => intro _; rfl
    | cons o os ih =>
      intro h
      simp only [List.all_cons, Bool.and_eq_true, Bool.not_eq_true'] at h
      rw [stripLifts, h.1]
      exact ih h.2
  exact h liftWords (by kernel_rfl)
theorem lifts_of {P : Program} {rest : List (List Char)} (h : behindMainWord (wordsSigns P.initOrder.toList) = wC :: rest) : P.headLifts = [] := by
  unfold Program.headLifts
  rw [h, strip_cut]
  simp
theorem final_of {P : Program} {rest : List (List Char)} (h : behindMainWord (wordsSigns P.initOrder.toList) = wC :: rest) (h1 : (wC == "carried".toList) = false) : P.liftsFinal = false := by
  unfold Program.liftsFinal
  rw [h, lifts_of h]
  have h2 : (some wC == some "carried".toList) = false := by simpa using h1
  simp only [List.head?_cons, h2, Bool.false_and, Bool.false_or]
  rfl
theorem lays_eq : Try.prog.laysLater = false := by kernel_rfl
theorem bears_eq : Try.prog.bearsReflect = false := by kernel_rfl
end Go.Proofs.Ytceahdlcbiialaa
set_option linter.unusedVariables false
set_option linter.unusedSimpArgs false
namespace Go.Proofs.Ytceahdlcbiialaa

theorem doors_eq : Try.prog.doorRows = [] := by kernel_rfl
theorem doorFits_of {P : Program} (h : P.doorRows = []) : P.doorFits [] = true := by
  unfold Program.doorFits
  rw [h]
  rfl
theorem enter_of {P : Program} {rest : List (List Char)} (h : behindMainWord (wordsSigns P.initOrder.toList) = wC :: rest) (h0 : (wC == "cut".toList) = true) (h1 : P.laysLater = false) (h2 : P.bearsReflect = false) (h3 : P.doorRows = []) : P.mayEnter = true := by
  have hd := doorFits_of h3
  have hc : (some wC == some "cut".toList) = true := by simpa using h0
  unfold Program.mayEnter
  rw [h]
  simp only [strip_cut, h1, h2, hd, List.head?_cons, hc]
  simp
theorem enter_eq : Try.prog.mayEnter = true := enter_of main_words wC_cut lays_eq bears_eq doors_eq
theorem wC_carried : (wC == "carried".toList) = false := by kernel_rfl
theorem final_eq : Try.prog.liftsFinal = false := final_of main_words wC_carried
theorem laid_eq : laidOutB Try.prog = true := by kernel_rfl
theorem rowed_eq : mapsRowed Try.prog = true := by kernel_rfl
theorem stops_eq : (Try.prog.stops == []) = true := by kernel_rfl
theorem knobs_eq : (Try.prog.stopKnobs == []) = true := by kernel_rfl
theorem heard_eq : Try.prog.stopsHeard = true := by kernel_rfl

/-- The facts of one row, put together. -/
theorem joined_of {P : Program} {f : FuncId} {fn : Func} {s : ChangeSpec} {c : OpenClaim}
    (hs : c.stops = []) (hk : c.knobs = []) (hm : c.make = .cut) (hl : c.lifted = false) (hst : c.shortTexts = none)
    (p1 : laidOutB P = true) (p2 : mapsRowed P = true) (p3 : (P.stops == []) = true) (p4 : (P.stopKnobs == []) = true) (p5 : P.stopsHeard = true) (p6 : P.mayEnter = true) (p7 : P.liftsFinal = false) (p8 : P.make = some .cut)
    (a1 : c.wf (OpenSpec.ofChange s) = true) (a2 : (fn.params.all (P.readableRec ·) && namedTie P c.named s.vars) = true)
    (a3 : ((c.inPlace == P.inPlace f) && (c.unfollowed == P.unfollowed f) && (c.recurses == P.recurses f) && (c.named == P.varsNamed f)) = true)
    (a4 : ((c.maps == (fn.params.toList ++ s.plain.varTypes P).any (P.mapsRec ·)) && (c.ifaces == (fn.params.toList ++ s.plain.varTypes P).any (P.ifacesRec ·)) && (c.mapsOut == P.mapsAmong fn.resultTypes.toList) &&
      (c.loops == (fn.params.toList ++ s.plain.varTypes P).any (P.loopsFrom ·)) && (c.wideKeys == (fn.params.toList ++ s.plain.varTypes P ++ fn.resultTypes.toList).any (P.wideKeysFrom ·))) = true)
    (a5 : (s.vars.all (P.varReadable ·) && fn.resultTypes.all (fun t => P.readableRec t && decide (t < P.types.size)) && (c.ifacesOut == fn.resultTypes.toList.any (P.ifacesRec ·)) && (c.loopsOut == fn.resultTypes.toList.any (P.loopsFrom ·)) && (c.plainKeys == P.plainKeys)) = true)
    (a6 : ((c.kinds == (if c.domain.isEmpty then [] else fn.params.toList.map fun t => match P.underlying t with | some (.int k) => some k | _ => none)) && (c.pinned == c.pinnedBy) &&
      (c.veiled == (fn.params.toList ++ s.plain.varTypes P ++ fn.resultTypes.toList).any (P.veiledRec ·)) && c.veiledFits P fn.params.toList (fn.params.toList ++ s.plain.varTypes P ++ fn.resultTypes.toList)) = true) : joinedFacts P f fn s c = true := by
  simp only [Bool.and_eq_true] at a2 a3 a4 a5 a6
  simp only [joinedFacts, Bool.and_eq_true]
  obtain ⟨b1, b2⟩ := a2
  obtain ⟨⟨⟨c1, c2⟩, c3⟩, c4⟩ := a3
  obtain ⟨⟨⟨⟨d1, d2⟩, d3⟩, d4⟩, d5⟩ := a4
  obtain ⟨⟨⟨⟨e1, e2⟩, e3⟩, e4⟩, e5⟩ := a5
  obtain ⟨⟨⟨f1, f2⟩, f3⟩, f4⟩ := a6
  refine ⟨⟨⟨⟨⟨⟨⟨⟨⟨⟨⟨⟨⟨⟨⟨⟨⟨⟨⟨⟨⟨⟨⟨⟨⟨⟨⟨⟨⟨⟨⟨a1, p1⟩, p2⟩, b1⟩, b2⟩, ?_⟩, p3⟩, ?_⟩, p4⟩, c1⟩, c2⟩, c3⟩, c4⟩, d1⟩, d2⟩, d3⟩, d4⟩, d5⟩, e1⟩, e2⟩, e3⟩, e4⟩, e5⟩, ?_⟩, p5⟩, p6⟩, ?_⟩, ?_⟩, f1⟩, f2⟩, f3⟩, f4⟩
  · rw [hs]; rfl
  · rw [hk]; rfl
  · rw [hst]; rfl
  · rw [hl, p7]; rfl
  · rw [p8, hm]; decide
end Go.Proofs.Ytceahdlcbiialaa
