/- The reader: compounds. -/
import Derived.Test.YtceahdlcbiialaaF5M22
set_option linter.unusedVariables false
set_option linter.unusedSimpArgs false
namespace Go.Proofs.Ytceahdlcbiialaa
open Go.RowKit

theorem Ok.rowCell {w : World} {S : Blk} {Γ : List Asn} {g N cap : Nat} {e : TypeId} {l : List Nat} (h : Ok w S (Row (.slice (some ⟨g, 0, none⟩) N cap) e 1 N (nums l) :: Γ)) (i x : Nat) (hx : l[i]? = some x) : w.cell? ⟨g, i, none⟩ = some (.int .u64 (x : Int)) := by
  rw [← add0]
  exact h.rowOwns.cells (g := g) rfl i _ (by rw [nums_get, hx]; rfl)
theorem Ok.rowBlock {w : World} {S : Blk} {Γ : List Asn} {v : Value} {N : Nat} {e : TypeId} {l : List Value} (h : Ok w S (Row v e 1 N l :: Γ)) (hN : 0 < N) : ∃ g cap, v = .slice (some ⟨g, 0, none⟩) N cap ∧ N ≤ cap := by
  rcases h.rowOwns.2 with ⟨_, h0⟩ | ⟨g, cap, cur, e1, h3, h2, h4⟩
  · omega
  · exact ⟨g, cap, e1, h4.1⟩
def RdS (C : List Nat) (L : List ByteArray) (f : Nat) : Prop := ∀ (w : World) (S : Blk) (Γ : List Asn) (r h a m most : Nat) (s : RS) (c : Nat) (dd : Int), Ok w S (ReadG r h a m most C L s Γ) → c < 18446744073709551616 → RSok s → dd = 501 - (f : Int) →
  Calls Try.prog 92 #[.pointer (some ⟨r, 0, none⟩), .int .u64 (c : Int), .int .i64 dd] w (TermQ w S r h a m most C L Γ (rd C L f c s))
section
variable {w : World} {S : Blk} {Γ : List Asn} {r h a m most : Nat} {C : List Nat} {L : List ByteArray} {s : RS}
set_option maxRecDepth 100000 in
set_option maxHeartbeats 2000000 in
theorem rcompound_spec (f : Nat) (hf : f ≤ 500) (IH : RdS C L f) (hO : Ok w S (ReadG r h a m most C L s Γ)) (d : Nat) (hd : d < 18446744073709551616) (hs : RSok s) {dd : Int} (hdd : dd = 500 - (f : Int)) :
    Calls Try.prog 128 #[.pointer (some ⟨r, 0, none⟩), .int .u64 (d : Int), .int .i64 dd] w (TermQ w S r h a m most C L Γ (rdComp C L (rd C L f) d s)) := by
  have hd1 : 0 ≤ dd ∧ dd ≤ 500 := by omega
  have HDD := Lib.hid hdd
  clear hdd
  have h1 := (hO.to.allocPt' zero6 25 w.heap.size rfl).p4.p4.p4.p4
  have hw1 := rwords_spec h1.ok d 1 hd (by omega) (by omega) rfl
  have hvl := vl_lt d hd
  have H1 := Lib.hid h1
  clear h1 hO
  unfold WordsQ at hw1
  by_cases hin : vl d + 1 ≤ C.length
  case neg =>
    have hres : rdComp C L (rd C L f) d s = ((tNone, 2), s) := by
      have hx : C[vl d]? = none := List.getElem?_eq_none (by omega)
      unfold rdComp funAt
      rw [hx]
    rw [hres]
    simp only [if_neg hin] at hw1
    have HW := Lib.hid hw1
    clear hw1 hres
    go_enter Try.func128, Try.ntmps128
    go_wp2_with fail
    refine HW.out.mono ?_
    rintro e w2 ⟨rfl, h2⟩
    have h4 := H1.out.trans h2
    clear h2
    obtain ⟨⟨z0, z1, z2, z3, z4, z5⟩, ⟨y0, y1, y2, y3, y4, y5⟩, y6⟩ := h4.p4.ok.pt6
    have H3 := Lib.hid (h4.p4.ptSet6 (.int .i64 0) (.string ⟨#[]⟩) (.int .i64 0) (.int .u64 0) (.int .u64 0) (.slice none 0 0)).drop
    clear h4
    go_wp2
    refine bodyPost_ret (v := .tuple #[.agg zero6, .int .i64 2]) (by simp [results, Try.results128, *, go_sem]) rfl ?_
    exact ⟨⟨tNone, none, 0⟩, S, rfl, rfl, H3.out, none_tm⟩
  simp only [if_pos hin] at hw1
  have hx : C[vl d]? = some C[vl d] := List.getElem?_eq_getElem (by omega)
  have hfun : funAt C L d = if tg C[vl d] ≠ 6 then none else match L[fAtom C[vl d]]? with | none => none | some nm => if 1 ≤ fArity C[vl d] ∧ fArity C[vl d] ≤ 20 ∧ vl d + fArity C[vl d] < C.length then some (nm, fArity C[vl d]) else none := by
    unfold funAt
    rw [hx]
    by_cases hq : tg C[vl d] ≠ 6
    · rw [if_pos hq]; simp only [if_pos hq]
    · rw [if_neg hq]; simp only [if_neg hq]
      cases L[fAtom C[vl d]]? <;> rfl
  have htk : (C.drop (vl d)).take 1 = [C[vl d]] := by
    rw [List.take_add_one, List.getElem?_drop, Nat.add_zero, hx]
    simp
  have htk2 : ∀ k, (C.drop (vl d)).take (1 + k) = C[vl d] :: (C.drop (vl d + 1)).take k := by
    intro k
    rw [List.drop_eq_getElem_cons (by omega : vl d < C.length), Nat.add_comm 1 k, List.take_succ_cons]
  rw [htk] at hw1
  have hxb : C[vl d] < 18446744073709551616 := H1.out.ok.heapAR.2.2.2.2 _ (List.getElem_mem _)
  have hrc : rdComp C L (rd C L f) d s = match funAt C L d with | none => ((tNone, 2), s) | some (nm, n) => (if (rdAll (rd C L f) ((C.drop (vl d + 1)).take n) s).1.2 ≠ 0 then ((tNone, (rdAll (rd C L f) ((C.drop (vl d + 1)).take n) s).1.2), (rdAll (rd C L f) ((C.drop (vl d + 1)).take n) s).2) else ((tComp nm (rdAll (rd C L f) ((C.drop (vl d + 1)).take n) s).1.1, 0), (rdAll (rd C L f) ((C.drop (vl d + 1)).take n) s).2)) := rfl
  generalize C[vl d] = x at hw1 hfun hxb htk2
  have HW := Lib.hid hw1
  have HFUN := Lib.hid hfun
  have HRC := Lib.hid hrc
  have HTK := Lib.hid htk2
  clear hw1 hx htk hfun hrc htk2
  by_cases h6 : tg x = 6
  case neg =>
    have hres : rdComp C L (rd C L f) d s = ((tNone, 2), s) := by rw [HRC.out, HFUN.out, if_pos h6]
    rw [hres]
    have hb : ((tg x : Int) != 6) = true := by simp [bne]; omega
    have htag := tag_spec x hxb
    have HTAG := Lib.hid htag
    clear hres h6 htag HFUN HRC HTK
    go_enter Try.func128, Try.ntmps128
    go_wp2_with fail
    refine HW.out.mono ?_
    rintro e w2 ⟨v, rfl, h2⟩
    obtain ⟨g, cap, rfl, hcap⟩ := h2.ok.rowBlock (by omega)
    have c0 := h2.ok.rowCell 0 x rfl
    have h4 := H1.out.trans h2.drop
    clear h2
    obtain ⟨⟨z0, z1, z2, z3, z4, z5⟩, ⟨y0, y1, y2, y3, y4, y5⟩, y6⟩ := h4.p4.ok.pt6
    have H3 := Lib.hid (h4.p4.ptSet6 (.int .i64 0) (.string ⟨#[]⟩) (.int .i64 0) (.int .u64 0) (.int .u64 0) (.slice none 0 0)).drop
    clear h4
    go_wp2_with (go_at_call 126; refine (HTAG.out _).mono ?_; rintro e w' ⟨rfl, hww⟩; subst w')
    refine bodyPost_ret (v := .tuple #[.agg zero6, .int .i64 2]) (by simp [results, Try.results128, *, go_sem]) rfl ?_
    exact ⟨⟨tNone, none, 0⟩, S, rfl, rfl, H3.out, none_tm⟩
  have hb6 : ((tg x : Int) != 6) = false := by simp [h6]
  have htag := tag_spec x hxb
  have hparts := parts_spec x hxb
  have hat : fAtom x < 2305843009213693952 := by
    have := vl_lt x hxb
    unfold fAtom
    split <;> omega
  have har : fArity x < 256 := by unfold fArity; split <;> omega
  have hw2 := fun (w2 : World) (S2 : Blk) (hk : Ok w2 S2 (ReadG r h a m most C L s (Pt w.heap.size zero6 25 :: Γ))) => rwords_spec hk d (1 + fArity x) hd (by omega) (by omega) (n' := 1 + (fArity x : Int)) (by omega)
  unfold WordsQ at hw2
  generalize fArity x = n at HFUN har hparts hw2
  generalize fAtom x = at' at HFUN hparts hat
  have e8 : IntKind.u64.wrap (at' : Int) = (at' : Int) := IntWalk.u64_in _ ⟨by omega, by omega⟩
  have E8 := Lib.hid e8
  clear e8
  have HTAG := Lib.hid htag
  have HPARTS := Lib.hid hparts
  have HW2 := Lib.hid hw2
  clear htag hparts hw2
  have h6x := h6
  clear h6
  cases hl : L[at']? with
  | none =>
    have hres : rdComp C L (rd C L f) d s = ((tNone, 2), s) := by rw [HRC.out, HFUN.out, if_neg (fun hh => hh h6x), hl]
    rw [hres]
    have hll : L.length ≤ at' := List.getElem?_eq_none_iff.1 hl
    clear hres hl HFUN HRC HTK
    by_cases hwn : vl d + (1 + n) ≤ C.length
    · have e8 := E8.out
      go_enter Try.func128, Try.ntmps128
      go_wp2_with fail
      refine HW.out.mono ?_
      rintro e w2 ⟨v, rfl, h2⟩
      obtain ⟨g, cap, rfl, hcap⟩ := h2.ok.rowBlock (by omega)
      have c0 := h2.ok.rowCell 0 x rfl
      have hnm := rname_out h2.drop.ok at' rfl (by omega)
      have HNM := Lib.hid hnm
      have hw2 := HW2.out w2 S h2.drop.ok
      simp only [if_pos hwn] at hw2
      have HWW := Lib.hid hw2
      have H2 := Lib.hid (H1.out.trans h2.drop)
      clear hnm hw2 h2
      go_wp2_with (first | (go_at_call 126; refine (HTAG.out _).mono ?_; rintro e w' ⟨rfl, hww⟩; subst w') | (go_at_call 146; refine (HPARTS.out _).mono ?_; rintro e w' ⟨rfl, hww⟩; subst w') | (go_at_call 129; refine HNM.out.mono ?_; rintro e w' ⟨rfl, hww⟩; subst w'))
      clear e8
      refine HWW.out.mono ?_
      rintro e w3 ⟨v3, rfl, h3⟩
      have h4 := H2.out.trans h3.drop
      clear h3 c0
      obtain ⟨⟨z0, z1, z2, z3, z4, z5⟩, ⟨y0, y1, y2, y3, y4, y5⟩, y6⟩ := h4.p4.ok.pt6
      have H3 := Lib.hid (h4.p4.ptSet6 (.int .i64 0) (.string ⟨#[]⟩) (.int .i64 0) (.int .u64 0) (.int .u64 0) (.slice none 0 0)).drop
      clear h4
      go_wp2
      refine bodyPost_ret (v := .tuple #[.agg zero6, .int .i64 2]) (by simp [results, Try.results128, *, go_sem]) rfl ?_
      exact ⟨⟨tNone, none, 0⟩, S, rfl, rfl, H3.out, none_tm⟩
    · have e8 := E8.out
      go_enter Try.func128, Try.ntmps128
      go_wp2_with fail
      refine HW.out.mono ?_
      rintro e w2 ⟨v, rfl, h2⟩
      obtain ⟨g, cap, rfl, hcap⟩ := h2.ok.rowBlock (by omega)
      have c0 := h2.ok.rowCell 0 x rfl
      have hnm := rname_out h2.drop.ok at' rfl (by omega)
      have HNM := Lib.hid hnm
      have hw2 := HW2.out w2 S h2.drop.ok
      simp only [if_neg hwn] at hw2
      have HWW := Lib.hid hw2
      have H2 := Lib.hid (H1.out.trans h2.drop)
      clear hnm hw2 h2
      go_wp2_with (first | (go_at_call 126; refine (HTAG.out _).mono ?_; rintro e w' ⟨rfl, hww⟩; subst w') | (go_at_call 146; refine (HPARTS.out _).mono ?_; rintro e w' ⟨rfl, hww⟩; subst w') | (go_at_call 129; refine HNM.out.mono ?_; rintro e w' ⟨rfl, hww⟩; subst w'))
      clear e8
      refine HWW.out.mono ?_
      rintro e w3 ⟨rfl, h3⟩
      have h4 := H2.out.trans h3
      clear h3 c0
      obtain ⟨⟨z0, z1, z2, z3, z4, z5⟩, ⟨y0, y1, y2, y3, y4, y5⟩, y6⟩ := h4.p4.ok.pt6
      have H3 := Lib.hid (h4.p4.ptSet6 (.int .i64 0) (.string ⟨#[]⟩) (.int .i64 0) (.int .u64 0) (.int .u64 0) (.slice none 0 0)).drop
      clear h4
      go_wp2
      refine bodyPost_ret (v := .tuple #[.agg zero6, .int .i64 2]) (by simp [results, Try.results128, *, go_sem]) rfl ?_
      exact ⟨⟨tNone, none, 0⟩, S, rfl, rfl, H3.out, none_tm⟩
  | some nm =>
    have hlt9 := (List.getElem?_eq_some_iff.1 hl).1
    have hfn : funAt C L d = if 1 ≤ n ∧ n ≤ 20 ∧ vl d + n < C.length then some (nm, n) else none := by rw [HFUN.out, if_neg (fun hh => hh h6x), hl]
    by_cases hwn : vl d + (1 + n) ≤ C.length
    case neg =>
      have hres : rdComp C L (rd C L f) d s = ((tNone, 2), s) := by rw [HRC.out, hfn, if_neg (by omega)]
      rw [hres]
      clear hres hfn HFUN HRC HTK
      have e8 := E8.out
      go_enter Try.func128, Try.ntmps128
      go_wp2_with fail
      refine HW.out.mono ?_
      rintro e w2 ⟨v, rfl, h2⟩
      obtain ⟨g, cap, rfl, hcap⟩ := h2.ok.rowBlock (by omega)
      have c0 := h2.ok.rowCell 0 x rfl
      have hnm := rname_in h2.drop.ok at' nm rfl hl
      have HNM := Lib.hid hnm
      have hw2 := HW2.out w2 S h2.drop.ok
      simp only [if_neg hwn] at hw2
      have HWW := Lib.hid hw2
      have H2 := Lib.hid (H1.out.trans h2.drop)
      clear hnm hw2 h2
      go_wp2_with (first | (go_at_call 126; refine (HTAG.out _).mono ?_; rintro e w' ⟨rfl, hww⟩; subst w') | (go_at_call 146; refine (HPARTS.out _).mono ?_; rintro e w' ⟨rfl, hww⟩; subst w') | (go_at_call 129; refine HNM.out.mono ?_; rintro e w' ⟨rfl, hww⟩; subst w'))
      clear e8
      refine HWW.out.mono ?_
      rintro e w3 ⟨rfl, h3⟩
      have h4 := H2.out.trans h3
      clear h3 c0
      obtain ⟨⟨z0, z1, z2, z3, z4, z5⟩, ⟨y0, y1, y2, y3, y4, y5⟩, y6⟩ := h4.p4.ok.pt6
      have H3 := Lib.hid (h4.p4.ptSet6 (.int .i64 0) (.string ⟨#[]⟩) (.int .i64 0) (.int .u64 0) (.int .u64 0) (.slice none 0 0)).drop
      clear h4
      go_wp2
      refine bodyPost_ret (v := .tuple #[.agg zero6, .int .i64 2]) (by simp [results, Try.results128, *, go_sem]) rfl ?_
      exact ⟨⟨tNone, none, 0⟩, S, rfl, rfl, H3.out, none_tm⟩
    by_cases hn1 : 1 ≤ n
    case neg =>
      have hres : rdComp C L (rd C L f) d s = ((tNone, 2), s) := by rw [HRC.out, hfn, if_neg (by omega)]
      rw [hres]
      obtain rfl : n = 0 := by omega
      clear hres hfn HFUN HRC HTK
      have e8 := E8.out
      go_enter Try.func128, Try.ntmps128
      go_wp2_with fail
      refine HW.out.mono ?_
      rintro e w2 ⟨v, rfl, h2⟩
      obtain ⟨g, cap, rfl, hcap⟩ := h2.ok.rowBlock (by omega)
      have c0 := h2.ok.rowCell 0 x rfl
      have hnm := rname_in h2.drop.ok at' nm rfl hl
      have HNM := Lib.hid hnm
      have hw2 := HW2.out w2 S h2.drop.ok
      simp only [if_pos hwn] at hw2
      have HWW := Lib.hid hw2
      have H2 := Lib.hid (H1.out.trans h2.drop)
      clear hnm hw2 h2
      go_wp2_with (first | (go_at_call 126; refine (HTAG.out _).mono ?_; rintro e w' ⟨rfl, hww⟩; subst w') | (go_at_call 146; refine (HPARTS.out _).mono ?_; rintro e w' ⟨rfl, hww⟩; subst w') | (go_at_call 129; refine HNM.out.mono ?_; rintro e w' ⟨rfl, hww⟩; subst w'))
      clear e8
      refine HWW.out.mono ?_
      rintro e w3 ⟨v3, rfl, h3⟩
      have h4 := H2.out.trans h3.drop
      clear h3 c0
      obtain ⟨⟨z0, z1, z2, z3, z4, z5⟩, ⟨y0, y1, y2, y3, y4, y5⟩, y6⟩ := h4.p4.ok.pt6
      have H3 := Lib.hid (h4.p4.ptSet6 (.int .i64 0) (.string ⟨#[]⟩) (.int .i64 0) (.int .u64 0) (.int .u64 0) (.slice none 0 0)).drop
      clear h4
      go_wp2
      refine bodyPost_ret (v := .tuple #[.agg zero6, .int .i64 2]) (by simp [results, Try.results128, *, go_sem]) rfl ?_
      exact ⟨⟨tNone, none, 0⟩, S, rfl, rfl, H3.out, none_tm⟩
    by_cases hn2 : n ≤ 20
    case neg =>
      have hres : rdComp C L (rd C L f) d s = ((tNone, 2), s) := by rw [HRC.out, hfn, if_neg (by omega)]
      rw [hres]
      clear hres hfn HFUN HRC HTK
      have e8 := E8.out
      go_enter Try.func128, Try.ntmps128
      go_wp2_with fail
      refine HW.out.mono ?_
      rintro e w2 ⟨v, rfl, h2⟩
      obtain ⟨g, cap, rfl, hcap⟩ := h2.ok.rowBlock (by omega)
      have c0 := h2.ok.rowCell 0 x rfl
      have hnm := rname_in h2.drop.ok at' nm rfl hl
      have HNM := Lib.hid hnm
      have hw2 := HW2.out w2 S h2.drop.ok
      simp only [if_pos hwn] at hw2
      have HWW := Lib.hid hw2
      have H2 := Lib.hid (H1.out.trans h2.drop)
      clear hnm hw2 h2
      go_wp2_with (first | (go_at_call 126; refine (HTAG.out _).mono ?_; rintro e w' ⟨rfl, hww⟩; subst w') | (go_at_call 146; refine (HPARTS.out _).mono ?_; rintro e w' ⟨rfl, hww⟩; subst w') | (go_at_call 129; refine HNM.out.mono ?_; rintro e w' ⟨rfl, hww⟩; subst w'))
      clear e8
      refine HWW.out.mono ?_
      rintro e w3 ⟨v3, rfl, h3⟩
      have h4 := H2.out.trans h3.drop
      clear h3 c0
      obtain ⟨⟨z0, z1, z2, z3, z4, z5⟩, ⟨y0, y1, y2, y3, y4, y5⟩, y6⟩ := h4.p4.ok.pt6
      have H3 := Lib.hid (h4.p4.ptSet6 (.int .i64 0) (.string ⟨#[]⟩) (.int .i64 0) (.int .u64 0) (.int .u64 0) (.slice none 0 0)).drop
      clear h4
      go_wp2
      refine bodyPost_ret (v := .tuple #[.agg zero6, .int .i64 2]) (by simp [results, Try.results128, *, go_sem]) rfl ?_
      exact ⟨⟨tNone, none, 0⟩, S, rfl, rfl, H3.out, none_tm⟩
    have hres := HRC.out
    rw [hfn, if_pos ⟨hn1, hn2, by omega⟩] at hres
    simp only at hres
    obtain ⟨args, hargs⟩ : ∃ args, args = (C.drop (vl d + 1)).take n := ⟨_, rfl⟩
    have hal : args.length = n := by rw [hargs, List.length_take, List.length_drop]; omega
    have hab : ∀ c ∈ args, c < 18446744073709551616 := fun c hc => H1.out.ok.heapAR.2.2.2.2 c (List.mem_of_mem_drop (List.mem_of_mem_take (hargs ▸ hc)))
    rw [← hargs] at hres
    obtain ⟨res, hre⟩ : ∃ res, res = rdAll (rd C L f) args s := ⟨_, rfl⟩
    rw [← hre] at hres
    obtain ⟨R, hR⟩ : ∃ R, R = rdComp C L (rd C L f) d s := ⟨_, rfl⟩
    rw [← hR] at hres ⊢
    clear hR
    have HRES := Lib.hid hres
    have hnm200 : nm.size ≤ 200 := H1.out.ok.p1.atomsAR.2.2 nm (List.mem_of_getElem? hl)
    have HRE := Lib.hid hre
    have HAB := Lib.hid hab
    have HARGS := Lib.hid hargs
    clear hres hfn HFUN HRC hre hab hargs
    have e8 := E8.out
    go_enter Try.func128, Try.ntmps128
    go_wp2_with fail
    refine HW.out.mono ?_
    rintro e w2 ⟨v, rfl, h2⟩
    obtain ⟨g, cap, rfl, hcap⟩ := h2.ok.rowBlock (by omega)
    have c0 := h2.ok.rowCell 0 x rfl
    have hnm := rname_in h2.drop.ok at' nm rfl hl
    have HNM := Lib.hid hnm
    have hw2 := HW2.out w2 S h2.drop.ok
    simp only [if_pos hwn] at hw2
    have HWW := Lib.hid hw2
    have H2 := Lib.hid (H1.out.trans h2.drop)
    clear hnm hw2 h2
    go_wp2_with (first | (go_at_call 126; refine (HTAG.out _).mono ?_; rintro e w' ⟨rfl, hww⟩; subst w') | (go_at_call 146; refine (HPARTS.out _).mono ?_; rintro e w' ⟨rfl, hww⟩; subst w') | (go_at_call 129; refine HNM.out.mono ?_; rintro e w' ⟨rfl, hww⟩; subst w'))
    clear e8
    refine HWW.out.mono ?_
    rintro e w3 ⟨v3, rfl, h3⟩
    rw [HTK.out n, ← HARGS.out] at h3
    obtain ⟨g3, cap3, rfl, hcap3⟩ := h3.ok.rowBlock (by omega)
    have h5 := ((h3.allocPt' #[.int .i64 5, .string nm, .int .i64 0, .int .u64 0, .int .u64 0, .slice none 0 0] 25 w3.heap.size rfl).re fun kk => kk.rowNil 25 6).p1
    have H5 := Lib.hid (H2.out.trans h5)
    clear h3 h5 c0
    have hn1' : (1 : Int) + n - 1 = n := by omega
    go_wp2
    go_loopw [78] (fun i wr => ∃ (j : Nat) (l : List Tc) (v : Value) (S1 : Blk) (s1 : RS), i = .int .i64 (j : Int) ∧ j ≤ n ∧ l.length = j ∧ (∀ y ∈ l, TmC wr S1 y.six y.t) ∧ RSok s1 ∧
      To w S wr S1 (Pt w3.heap.size #[.int .i64 5, .string nm, .int .i64 0, .int .u64 0, .int .u64 0, v] 25 :: Row v 25 6 j (tcV l) :: Row (.slice (some ⟨g3, 0, none⟩) (1 + n) cap3) 22 1 (1 + n) (nums (x :: args)) :: ReadG r h a m most C L s1 (Pt w.heap.size zero6 25 :: Γ)) ∧
      res.2 = (rdAll (rd C L f) (args.drop j) s1).2 ∧ res.1.2 = (rdAll (rd C L f) (args.drop j) s1).1.2 ∧ ((rdAll (rd C L f) (args.drop j) s1).1.2 = 0 → res.1.1 = l.map (·.t) ++ (rdAll (rd C L f) (args.drop j) s1).1.1)) (fun i _ => n - (intOf i).toNat)
    case atStart => exact ⟨0, [], _, S, s, rfl, Nat.zero_le _, rfl, by simp, hs, H5.out, by rw [HRE.out]; rfl, by rw [HRE.out]; rfl, fun _ => by rw [HRE.out]; rfl⟩
    case round =>
      obtain ⟨j, l, v, S1, s1, rfl, hj, hlj, hlT, hs1, hTo, hq1, hq2, hq3⟩ := hrel
      by_cases hlt : j < n
      · have hxj : args[j]? = some args[j] := List.getElem?_eq_getElem (by omega)
        rw [rdAll_drop _ _ _ _ _ hxj] at hq1 hq2 hq3
        have hcb := HAB.out _ (List.getElem_mem (by omega : j < args.length))
        have hrow := hTo.p2.ok.rowCell (1 + j) args[j] (by rw [Nat.add_comm, List.getElem?_cons_succ]; exact hxj)
        have h6 := hTo.p6.p6.p6.p6
        have hcall := IH wr S1 _ r h a m most s1 args[j] (dd + 1) h6.ok hcb hs1 (by have := HDD.out; omega)
        have hs2 := rd_ok C L f args[j] s1 hs1
        generalize args[j] = y at hq1 hq2 hq3 hrow hcall hs2 hcb
        obtain ⟨oo, hoo⟩ : ∃ oo, oo = rd C L f y s1 := ⟨_, rfl⟩
        rw [← hoo] at hq1 hq2 hq3 hcall hs2
        clear hoo hxj
        have HC := Lib.hid hcall
        have HL := Lib.hid hlT
        have H6 := Lib.hid h6
        have HS2 := Lib.hid hs2
        have HQ1 := Lib.hid hq1
        have HQ2 := Lib.hid hq2
        have HQ3 := Lib.hid hq3
        clear hcall hlT h6 hTo hs2 hs1 hq1 hq2 hq3
        by_cases he : oo.1.2 = 0
        case neg =>
          have heb : ((oo.1.2 : Int) != 0) = true := by simp [bne]; omega
          have hr1 := HQ1.out
          have hr2 := HQ2.out
          simp only [ne_eq, he, not_false_eq_true, if_true] at hr1 hr2
          have HR1 := Lib.hid hr1
          have HR2 := Lib.hid hr2
          clear hr1 hr2 HQ1 HQ2 HQ3
          go_wp2_with fail
          have hcc := HC.out
          refine Calls.mono hcc ?_
          clear hcc
          rintro e w4 hq
          unfold TermQ at hq
          obtain ⟨tc, S2, hc, rfl, h7, hT7⟩ := hq
          have h8 := H6.out.trans h7
          have h9 := h7.p7.ok.pt6
          obtain ⟨⟨z0, z1, z2, z3, z4, z5⟩, ⟨y0, y1, y2, y3, y4, y5⟩, y6⟩ := h9
          have H3 := Lib.hid ((h8.p7.ptSet6 (.int .i64 0) (.string ⟨#[]⟩) (.int .i64 0) (.int .u64 0) (.int .u64 0) (.slice none 0 0)).drop.p6.drop.p5.drop.p4.drop.alloc (.cells tc.six.toArray 25))
          clear hc h7 hT7 h8 HC hrow
          go_wp2
          refine bodyPost_ret (v := .tuple #[.agg zero6, .int .i64 (oo.1.2 : Int)]) (by simp [results, Try.results128, *, go_sem]) rfl ?_
          have hne : res.1.2 ≠ 0 := by rw [HR2.out]; exact he
          rw [HRES.out, if_pos hne, HR1.out, HR2.out]
          exact ⟨⟨tNone, none, 0⟩, S2, rfl, rfl, H3.out, none_tm⟩
        have hr1 := HQ1.out
        have hr2 := HQ2.out
        have hr3 := HQ3.out
        simp only [ne_eq, he, not_true_eq_false, if_false] at hr1 hr2 hr3
        have HE := Lib.hid he
        have heb : ((oo.1.2 : Int) != 0) = false := by simp [he]
        have HR : Hid (res.2 = (rdAll (rd C L f) (args.drop (j + 1)) oo.2).2 ∧ res.1.2 = (rdAll (rd C L f) (args.drop (j + 1)) oo.2).1.2 ∧ ((rdAll (rd C L f) (args.drop (j + 1)) oo.2).1.2 = 0 → res.1.1 = (l.map (·.t) ++ [oo.1.1]) ++ (rdAll (rd C L f) (args.drop (j + 1)) oo.2).1.1)) := by
          refine Lib.hid ?_
          by_cases hz : (rdAll (rd C L f) (args.drop (j + 1)) oo.2).1.2 = 0
          · simp only [hz, not_true_eq_false, if_false] at hr1 hr2 hr3
            exact ⟨hr1, by rw [hr2, hz], fun _ => by first | (rw [hr3 rfl]; simp) | (rw [hr3 trivial]; simp) | (rw [hr3]; simp)⟩
          · simp only [hz, not_false_eq_true, if_true] at hr1 hr2
            exact ⟨hr1, hr2, fun h => absurd h hz⟩
        clear hr1 hr2 hr3 HQ1 HQ2 HQ3 he
        go_wp2_with fail
        have hcc := HC.out
        refine Calls.mono hcc ?_
        clear hcc
        rintro e w4 hq
        unfold TermQ at hq
        obtain ⟨tc, S2, hc, rfl, h7, hT7⟩ := hq
        have q1 : w4.cell? ⟨w3.heap.size, 5, none⟩ = some v := h7.p4.ok.ptCell 5 _ rfl
        have q2 := h7.p4.ok.ptLt
        have HCE := Lib.hid hc
        have HT7 := Lib.hid hT7
        have H8 := Lib.hid (h7.p5.ok.to.alloc (.cells tc.six.toArray 25))
        have H7 := Lib.hid h7
        clear hc h7 hT7 HC hrow
        obtain ⟨A8, c8, rfl⟩ := H8.out.ok.rowShape
        go_wp2_with (at_builtin; refine wpList_append_new rfl (.tmp 95) (.tmp 97) 23 25 _ 6 72 rfl Try.underlying23 info25 rfl (by decide) (by decide) H8.out rfl tc.six.toArray (by simp [go_sem]) rfl (by simp [Value.oneCell']) (by omega) ?_)
        intro A9 c9 W9 h9
        have h10 := h9.p5
        have r1 : W9.cell? ⟨w3.heap.size, 5, none⟩ = some (.slice A8 j c8) := h10.ok.ptCell 5 _ rfl
        have r2 := h10.ok.ptFree 5
        have r3 := h10.ok.ptLt
        have H12 := Lib.hid (h10.ptSet 5 (.slice A9 (j + 1) c9)).p6.p2.p2
        clear h9 h10 q1 q2 H8
        go_wp2
        go_roundw
        case rel =>
          refine ⟨j + 1, l ++ [tc], .slice A9 (j + 1) c9, S2, oo.2, by go_num, by omega, by simp [hlj], ?_, HS2.out, ?_, HR.out.1, HR.out.2.1, fun hz => ?_⟩
          · intro y hy
            rcases List.mem_append.1 hy with hy | hy
            · exact (HL.out y hy).to (H7.out.trans H12.out)
            · rw [List.mem_singleton.1 hy]; exact HT7.out.to H12.out
          · have h13 := (H6.out.trans H7.out).trans H12.out
            rw [tcV_append]
            simpa [tcV] using h13
          · rw [List.map_append, List.map_singleton, HCE.out]; exact HR.out.2.2 hz
        case measure => simp [intOf]; omega
      · have hje : j = n := by omega
        rw [hje, ← hal, List.drop_length] at hq1 hq2 hq3
        simp only [rdAll, List.append_nil, forall_const] at hq1 hq2 hq3
        have HQ1 := Lib.hid hq1
        have HQ2 := Lib.hid hq2
        have HQ3 := Lib.hid hq3
        clear hq1 hq2 hq3
        subst hje
        obtain ⟨A8, c8, rfl⟩ := hTo.p1.ok.rowShape
        obtain ⟨⟨f0, f1, f2, f3, f4, f5⟩, -, f6⟩ := hTo.ok.pt6
        obtain ⟨⟨z0, z1, z2, z3, z4, z5⟩, ⟨y0, y1, y2, y3, y4, y5⟩, y6⟩ := hTo.p7.ok.pt6
        have HW9 := Lib.hid (hTo.ok.to.p7.ptSet6 (.int .i64 5) (.string nm) (.int .i64 0) (.int .u64 0) (.int .u64 0) (.slice A8 j c8))
        have HTo := Lib.hid hTo
        have HL := Lib.hid hlT
        clear hTo hlT
        go_wp2
        refine bodyPost_ret (v := .tuple #[.agg #[.int .i64 5, .string nm, .int .i64 0, .int .u64 0, .int .u64 0, .slice A8 j c8], .int .i64 0]) (by simp [results, Try.results128, *, go_sem]) rfl ?_
        have hj9 : (l.map (·.t)).length ≤ 20 := by rw [List.length_map, hlj]; exact hn2
        obtain ⟨S2, h8, hk8⟩ := HW9.out.p2.ok.rowTerm (k := 5) (n := 0) (re := 0) (im := 0) (s := nm) hlj (fun y hy => (HL.out y hy).to HW9.out) ⟨by simp only [Tm.k]; omega, by simp only [Tm.s]; omega, by simp only [Tm.n]; omega, by simp only [Tm.re]; omega, by simp only [Tm.im]; omega, by simp only [Tm.xs]; omega⟩
        have hh := ((HTo.out.trans HW9.out).trans h8).drop.drop.drop
        clear HW9 HL h8
        have hz : ¬ (res.1.2 ≠ 0) := by rw [HQ2.out]; simp
        have hR2 := HRES.out
        rw [if_neg hz, HQ1.out, HQ3.out] at hR2
        rw [hR2]
        refine ⟨⟨.mk 5 nm 0 0 0 (l.map (·.t)), A8, c8⟩, S2, rfl, ?_, hh, ?_⟩
        · simp only [Tc.six, Tm.k, Tm.s, Tm.n, Tm.re, Tm.im, Tm.xs, List.length_map, hlj]; rfl
        · simp only [Tc.six, Tm.k, Tm.s, Tm.n, Tm.re, Tm.im, Tm.xs, List.length_map]
          rw [hlj]
          exact hk8
end
#print axioms rcompound_spec
end Go.Proofs.Ytceahdlcbiialaa
