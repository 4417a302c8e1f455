/- The copier: what was not met; cells. The copier: cells. -/
import Derived.Test.YtceahdlcbiialaaF8M2
set_option linter.unusedVariables false
set_option linter.unusedSimpArgs false
namespace Go.Proofs.Ytceahdlcbiialaa
open Go.RowKit

section
variable {w : World} {S : Blk} {Γ : List Asn} {X : Src} {p m : Nat} {s : CS} {v : Value} {stk : List Ct}
theorem FreshQ.from {w1 w2 : World} {S1 : Blk} {Γ' : List Asn} {own : Int} {fr : Fresh} {e : Ending} (h : To w S w1 S1 Γ') (k : FreshQ w1 S1 X p m Γ own stk fr e w2) (hS : S1 = S) : FreshQ w S X p m Γ own stk fr e w2 := by
  subst hS
  obtain ⟨v', stk', h1, h2⟩ := k
  exact ⟨v', stk', h.trans h1, h2⟩
set_option maxRecDepth 100000 in
set_option maxHeartbeats 4000000 in
theorem fresh_spec (hO : Ok w S (CopG X p m s v (Row v 197 3 stk.length (ctV stk) :: Γ))) (d : Nat) (hd : d < 18446744073709551616) (hstk : stk.length ≤ 3000000) (c0 : Int) (own : Int) (ho : own ≤ 1048576) (b : Bool) :
    Calls Try.prog 162 #[.pointer (some ⟨p, 0, none⟩), .int .u64 (d : Int), .agg #[.int .u64 c0, .int .i64 own, .bool b]] w (FreshQ w S X p m Γ own stk (cpF X.src X.most d own s)) := by
  have hvl := vl_lt d hd
  have h1 := hO.to.alloc (.cells #[.int .u64 c0, .int .i64 own, .bool b] 197)
  have hth1 := there_spec h1.ok d hd 1 (by omega) (by omega) rfl
  have hth2 := there_spec h1.ok d hd 2 (by omega) (by omega) rfl
  have ht := tag_spec d hd (w.alloc (.cells #[.int .u64 c0, .int .i64 own, .bool b] 197))
  obtain ⟨FR, hFR⟩ : ∃ FR, FR = cpF X.src X.most d own s := ⟨_, rfl⟩
  rw [← hFR]
  have HFR := Lib.hid hFR
  have HTH1 := Lib.hid hth1
  have HTH2 := Lib.hid hth2
  have H1 := Lib.hid h1
  obtain ⟨T, hT⟩ : ∃ T, tg d = T := ⟨_, rfl⟩
  rw [hT] at ht
  have HT := Lib.hid ht
  have HTD := Lib.hid hT
  have ht8 : T < 8 := hT ▸ tg_lt d
  clear hth1 hth2 ht hFR h1 hO hT
  have bad2 : ∀ W, To w S W S (CopG X p m s v (Row v 197 3 stk.length (ctV stk) :: Γ)) → FR = .bad 2 s → FreshQ w S X p m Γ own stk FR (.returned (.tuple #[.int .u64 0, .int .i64 2])) W := by
    intro W hW e
    rw [e]
    exact ⟨v, stk, hW, by omega, 0, rfl⟩
  have HB2 := Lib.hid bad2
  clear bad2
  by_cases t0 : T = 0
  · subst t0
    have hfr : FR = if (X.src s.K)[vl d]? = some d then (if (cpV X.most own s).1.2 = 0 then .leaf (cpV X.most own s).1.1 (cpV X.most own s).2 else .bad (cpV X.most own s).1.2 (cpV X.most own s).2) else .bad 2 s := by rw [HFR.out, cpF, if_pos HTD.out]
    by_cases hin : vl d + 1 ≤ (X.src s.K).length
    case neg =>
      rw [decide_eq_false hin] at HTH1
      have hr : FR = .bad 2 s := by rw [hfr, List.getElem?_eq_none (by omega), if_neg (by simp)]
      have HR := Lib.hid (HB2.out _ H1.out hr)
      clear hfr hr hin
      go_enter Try.func162, Try.ntmps162
      go_wp2_with (first | (go_at_call 126; refine HT.out.mono ?_; rintro e w' ⟨rfl, hww⟩; subst w') | (go_at_call 166; refine HTH1.out.mono ?_; rintro e w' ⟨rfl, hww⟩; subst w'))
      go_ret2
      exact HR.out
    rw [decide_eq_true hin] at HTH1
    have hx : (X.src s.K)[vl d]? = some (X.src s.K)[vl d] := List.getElem?_eq_getElem (by omega)
    have hwd := word_spec H1.out.ok d 0 ((X.src s.K)[vl d]) hd (by rw [Nat.add_zero]; exact hx) rfl
    generalize (X.src s.K)[vl d] = x at hx hwd
    have HW := Lib.hid hwd
    by_cases hxd : x = d
    case neg =>
      have hb : ((x : Int) == (d : Int)) = false := beq_eq_false_iff_ne.2 (by omega)
      have hr : FR = .bad 2 s := by rw [hfr, hx, if_neg (by simpa using hxd)]
      have HR := Lib.hid (HB2.out _ (H1.out.drewN 1) hr)
      clear hfr hr hin hxd hx hwd
      go_enter Try.func162, Try.ntmps162
      go_wp2_with (first | (go_at_call 126; refine HT.out.mono ?_; rintro e w' ⟨rfl, hww⟩; subst w') | (go_at_call 166; refine HTH1.out.mono ?_; rintro e w' ⟨rfl, hww⟩; subst w') | (go_at_call 167; refine HW.out.mono ?_; rintro e w' ⟨rfl, hww⟩; subst w'))
      go_ret2
      exact HR.out
    subst hxd
    have hb : ((x : Int) == (x : Int)) = true := by simp
    have hcv := cvariable_spec (H1.out.drewN 1).ok c0 own ho b
    have hr : FR = if (cpV X.most own s).1.2 = 0 then .leaf (cpV X.most own s).1.1 (cpV X.most own s).2 else .bad (cpV X.most own s).1.2 (cpV X.most own s).2 := by rw [hfr, if_pos hx]
    generalize cpV X.most own s = o at hr hcv
    have HCV := Lib.hid hcv
    have HR := Lib.hid hr
    clear hcv hr hfr hx hwd hin
    go_enter Try.func162, Try.ntmps162
    go_wp2_with (first | (go_at_call 126; refine HT.out.mono ?_; rintro e w' ⟨rfl, hww⟩; subst w') | (go_at_call 166; refine HTH1.out.mono ?_; rintro e w' ⟨rfl, hww⟩; subst w') | (go_at_call 167; refine HW.out.mono ?_; rintro e w' ⟨rfl, hww⟩; subst w') | (go_at_call 168; refine HCV.out.mono ?_; rintro e w6 ⟨rfl, h6⟩; have H6 := Lib.hid ((H1.out.drewN 1).trans h6); clear h6))
    go_ret2
    rw [HR.out]
    by_cases h0 : o.1.2 = 0
    · rw [if_pos h0, h0]
      exact ⟨v, stk, H6.out, rfl, rfl⟩
    · rw [if_neg h0]
      exact ⟨v, stk, H6.out, h0, _, rfl⟩
  by_cases t1 : T = 1
  · subst t1
    by_cases hin : vl d + 1 ≤ (X.src s.K).length
    case neg =>
      rw [decide_eq_false hin] at HTH1
      have hr : FR = .bad 2 s := by
        rw [HFR.out, cpF, if_neg (by have := HTD.out; omega), if_pos HTD.out]
        have : funC (X.src s.K) d = none := by unfold funC; rw [List.getElem?_eq_none (by omega)]
        rw [this]
      have HR := Lib.hid (HB2.out _ H1.out hr)
      clear hr hin
      go_enter Try.func162, Try.ntmps162
      go_wp2_with (first | (go_at_call 126; refine HT.out.mono ?_; rintro e w' ⟨rfl, hww⟩; subst w') | (go_at_call 166; refine HTH1.out.mono ?_; rintro e w' ⟨rfl, hww⟩; subst w'))
      go_ret2
      exact HR.out
    rw [decide_eq_true hin] at HTH1
    have hx : (X.src s.K)[vl d]? = some (X.src s.K)[vl d] := List.getElem?_eq_getElem (by omega)
    have hcc := ccompound_spec H1.out.ok d _ hd HTD.out hx hstk c0 own b
    rw [← HFR.out] at hcc
    have HC := Lib.hid hcc
    clear hcc hx hin
    go_enter Try.func162, Try.ntmps162
    go_wp2_with (first | (go_at_call 126; refine HT.out.mono ?_; rintro e w' ⟨rfl, hww⟩; subst w') | (go_at_call 166; refine HTH1.out.mono ?_; rintro e w' ⟨rfl, hww⟩; subst w'))
    refine HC.out.mono ?_
    intro e w6 hq
    have HQ := Lib.hid (FreshQ.from H1.out hq rfl)
    obtain ⟨v6, stk6, -, hq2⟩ := hq
    have hform : ∃ c1 e1 : Int, e = .returned (.tuple #[.int .u64 c1, .int .i64 e1]) := by
      cases FR with
      | bad e1 s1 => obtain ⟨-, c, rfl⟩ := hq2; exact ⟨_, _, rfl⟩
      | leaf o s1 => obtain ⟨rfl, -⟩ := hq2; exact ⟨_, _, rfl⟩
      | comp a g s1 => obtain ⟨rfl, -⟩ := hq2; exact ⟨_, _, rfl⟩
    obtain ⟨c1, e1, rfl⟩ := hform
    clear hq2
    go_wp2
    go_ret2
    exact HQ.out
  by_cases t4 : T = 4
  · subst t4
    by_cases hin : vl d + 1 ≤ (X.src s.K).length
    case neg =>
      rw [decide_eq_false hin] at HTH1
      have hr : FR = .bad 2 s := by
        rw [HFR.out, cpF, if_neg (by have := HTD.out; omega), if_neg (by have := HTD.out; omega), if_pos HTD.out, List.getElem?_eq_none (by omega)]
      have HR := Lib.hid (HB2.out _ H1.out hr)
      clear hr hin
      go_enter Try.func162, Try.ntmps162
      go_wp2_with (first | (go_at_call 126; refine HT.out.mono ?_; rintro e w' ⟨rfl, hww⟩; subst w') | (go_at_call 166; refine HTH1.out.mono ?_; rintro e w' ⟨rfl, hww⟩; subst w'))
      go_ret2
      exact HR.out
    rw [decide_eq_true hin] at HTH1
    have hx : (X.src s.K)[vl d]? = some (X.src s.K)[vl d] := List.getElem?_eq_getElem (by omega)
    generalize (X.src s.K)[vl d] = x at hx
    have hcw := cwords_spec H1.out.ok d hd (by have := HTD.out; omega) [x] (by simp) (fun i y hy => by
      cases i with
      | zero => simp at hy; subst hy; simpa using hx
      | succ i => simp at hy) (n' := 1) (by simp)
    rw [HTD.out] at hcw
    have hr : FR = if (cpW X.most 4 [x] s).1.2 = 0 then .leaf (cpW X.most 4 [x] s).1.1 (cpW X.most 4 [x] s).2 else .bad (cpW X.most 4 [x] s).1.2 (cpW X.most 4 [x] s).2 := by
      rw [HFR.out, cpF, if_neg (by have := HTD.out; omega), if_neg (by have := HTD.out; omega), if_pos HTD.out, hx]
    generalize cpW X.most 4 [x] s = o at hr hcw
    have HCW := Lib.hid hcw
    have HR := Lib.hid hr
    clear hcw hr hx hin
    go_enter Try.func162, Try.ntmps162
    go_wp2_with (first | (go_at_call 126; refine HT.out.mono ?_; rintro e w' ⟨rfl, hww⟩; subst w') | (go_at_call 166; refine HTH1.out.mono ?_; rintro e w' ⟨rfl, hww⟩; subst w') | (go_at_call 170; refine HCW.out.mono ?_; rintro e w6 ⟨rfl, h6⟩; have H6 := Lib.hid (H1.out.trans h6); clear h6))
    go_ret2
    rw [HR.out]
    by_cases h0 : o.1.2 = 0
    · rw [if_pos h0, h0]
      exact ⟨v, stk, H6.out, rfl, rfl⟩
    · rw [if_neg h0]
      exact ⟨v, stk, H6.out, h0, _, rfl⟩
  by_cases t5 : T = 5
  · subst t5
    by_cases hin : vl d + 2 ≤ (X.src s.K).length
    case neg =>
      rw [decide_eq_false hin] at HTH2
      have hr : FR = .bad 2 s := by
        rw [HFR.out, cpF, if_neg (by have := HTD.out; omega), if_neg (by have := HTD.out; omega), if_neg (by have := HTD.out; omega), if_pos HTD.out, List.getElem?_eq_none (show (X.src s.K).length ≤ vl d + 1 by omega)]
        cases (X.src s.K)[vl d]? <;> rfl
      have HR := Lib.hid (HB2.out _ H1.out hr)
      clear hr hin
      go_enter Try.func162, Try.ntmps162
      go_wp2_with (first | (go_at_call 126; refine HT.out.mono ?_; rintro e w' ⟨rfl, hww⟩; subst w') | (go_at_call 166; refine HTH2.out.mono ?_; rintro e w' ⟨rfl, hww⟩; subst w'))
      go_ret2
      exact HR.out
    rw [decide_eq_true hin] at HTH2
    have hx : (X.src s.K)[vl d]? = some (X.src s.K)[vl d] := List.getElem?_eq_getElem (by omega)
    have hy : (X.src s.K)[vl d + 1]? = some (X.src s.K)[vl d + 1] := List.getElem?_eq_getElem (by omega)
    generalize (X.src s.K)[vl d] = x at hx
    generalize (X.src s.K)[vl d + 1] = y at hy
    have hcw := cwords_spec H1.out.ok d hd (by have := HTD.out; omega) [x, y] (by simp) (fun i z hz => by
      match i, hz with
      | 0, hz => simp at hz; subst hz; simpa using hx
      | 1, hz => simp at hz; subst hz; exact hy
      | i + 2, hz => simp at hz) (n' := 2) (by simp)
    rw [HTD.out] at hcw
    have hr : FR = if (cpW X.most 5 [x, y] s).1.2 = 0 then .leaf (cpW X.most 5 [x, y] s).1.1 (cpW X.most 5 [x, y] s).2 else .bad (cpW X.most 5 [x, y] s).1.2 (cpW X.most 5 [x, y] s).2 := by
      rw [HFR.out, cpF, if_neg (by have := HTD.out; omega), if_neg (by have := HTD.out; omega), if_neg (by have := HTD.out; omega), if_pos HTD.out, hx, hy]
    generalize cpW X.most 5 [x, y] s = o at hr hcw
    have HCW := Lib.hid hcw
    have HR := Lib.hid hr
    clear hcw hr hx hy hin
    go_enter Try.func162, Try.ntmps162
    go_wp2_with (first | (go_at_call 126; refine HT.out.mono ?_; rintro e w' ⟨rfl, hww⟩; subst w') | (go_at_call 166; refine HTH2.out.mono ?_; rintro e w' ⟨rfl, hww⟩; subst w') | (go_at_call 170; refine HCW.out.mono ?_; rintro e w6 ⟨rfl, h6⟩; have H6 := Lib.hid (H1.out.trans h6); clear h6))
    go_ret2
    rw [HR.out]
    by_cases h0 : o.1.2 = 0
    · rw [if_pos h0, h0]
      exact ⟨v, stk, H6.out, rfl, rfl⟩
    · rw [if_neg h0]
      exact ⟨v, stk, H6.out, h0, _, rfl⟩
  have hr : FR = .bad 2 s := by
    rw [HFR.out, cpF, if_neg (by have := HTD.out; omega), if_neg (by have := HTD.out; omega), if_neg (by have := HTD.out; omega), if_neg (by have := HTD.out; omega)]
  have HR := Lib.hid (HB2.out _ H1.out hr)
  clear hr
  have hT4 : T = 2 ∨ T = 3 ∨ T = 6 ∨ T = 7 := by omega
  rcases hT4 with hq | hq | hq | hq <;> subst hq
  all_goals
    go_enter Try.func162, Try.ntmps162
    go_wp2_with (go_at_call 126; refine HT.out.mono ?_; rintro e w' ⟨rfl, hww⟩; subst w')
    go_ret2
    exact HR.out
end
#print axioms fresh_spec
end Go.Proofs.Ytceahdlcbiialaa
set_option linter.unusedVariables false
set_option linter.unusedSimpArgs false
namespace Go.Proofs.Ytceahdlcbiialaa
open Go.RowKit

section
variable {w : World} {S : Blk} {Γ : List Asn} {X : Src} {p m : Nat} {s : CS} {v : Value} {stk : List Ct}
theorem FreshQ.drop {A : Asn} {own : Int} {fr : Fresh} {e : Ending} {w' : World} (k : FreshQ w S X p m (A :: Γ) own stk fr e w') : FreshQ w S X p m Γ own stk fr e w' := by
  obtain ⟨v', stk', h1, h2⟩ := k
  exact ⟨v', stk', h1.p5.drop, h2⟩
set_option maxRecDepth 100000 in
set_option maxHeartbeats 4000000 in
theorem ccell_spec (hO : Ok w S (CopG X p m s v (Row v 197 3 stk.length (ctV stk) :: Γ))) (c : Nat) (hc : c < 18446744073709551616) (hstk : stk.length ≤ 3000000) (own : Int) (ho : own ≤ 1048576) (hn : s.n ≤ 100000) (b : Bool) :
    Calls Try.prog 139 #[.pointer (some ⟨p, 0, none⟩), .agg #[.int .u64 (c : Int), .int .i64 own, .bool b]] w (FreshQ w S X p m Γ own stk (cpS X.src X.most c own s)) := by
  have h1 := (hO.to.allocPt' #[.int .u64 (c : Int), .int .i64 own, .bool b] 197 w.heap.size rfl).p5.p5.p5.p5.p5
  obtain ⟨⟨k0, -, -, k3, -⟩, ⟨k5, -⟩, k6⟩ := h1.ok.copPt
  have H1 := Lib.hid h1
  clear h1 hO
  by_cases hbig : 100000 ≤ s.n
  · have hr : cpS X.src X.most c own s = .bad 3 s := by unfold cpS; rw [if_pos hbig]
    rw [hr]
    have hb : ((s.n : Int) == 100000) = true := by simp; omega
    clear hr hbig
    go_enter Try.func139, Try.ntmps139
    go_wp2
    go_ret2
    exact ⟨v, stk, H1.out.p5.drop, by omega, 0, rfl⟩
  have hb : ((s.n : Int) == 100000) = false := beq_eq_false_iff_ne.2 (by omega)
  have hr : cpS X.src X.most c own s = (if tg (deref (X.src s.K) (X.src s.K).length c) = 2 ∨ tg (deref (X.src s.K) (X.src s.K).length c) = 3 then .leaf (deref (X.src s.K) (X.src s.K).length c) ⟨s.K, s.M, s.n + 1⟩ else
      match lk s.M (deref (X.src s.K) (X.src s.K).length c) with
      | some o => .leaf o ⟨s.K, s.M, s.n + 1⟩
      | none => match cpF X.src X.most (deref (X.src s.K) (X.src s.K).length c) own ⟨s.K, s.M, s.n + 1⟩ with
        | .leaf o s2 => .leaf o (s2.met (deref (X.src s.K) (X.src s.K).length c) o)
        | .comp at' args s2 => .comp at' args (s2.met (deref (X.src s.K) (X.src s.K).length c) (mkc 1 at'))
        | .bad e s2 => .bad e s2) := by
    unfold cpS
    rw [if_neg hbig]
    dsimp only
    split
    · rfl
    · cases lk s.M (deref (X.src s.K) (X.src s.K).length c) with
      | some o => rfl
      | none =>
        dsimp only
        cases cpF X.src X.most (deref (X.src s.K) (X.src s.K).length c) own ⟨s.K, s.M, s.n + 1⟩ <;> rfl
  obtain ⟨FR, hFR⟩ : ∃ FR, FR = cpS X.src X.most c own s := ⟨_, rfl⟩
  rw [← hFR] at hr ⊢
  have h2 : To w S _ S (CopG X p m ⟨s.K, s.M, s.n + 1⟩ v (Row v 197 3 stk.length (ctV stk) :: Pt w.heap.size #[.int .u64 (c : Int), .int .i64 own, .bool b] 197 :: Γ)) := (H1.out.p2.ptSet 3 (.int .i64 ((s.n : Int) + 1))).p2.p2
  have hder := deref_spec (X.rd (h2.drewN 1).ok) c rfl hc
  have hdb := deref_lt (most := X.mf) (X.rd h2.ok).2.2.2.2 (X.src s.K).length _ hc
  simp only at hder hdb
  generalize deref (X.src s.K) (X.src s.K).length c = d at hr hder hdb
  have k0' : ((w.alloc (.cells #[.int .u64 (c : Int), .int .i64 own, .bool b] 197)).setCell ⟨p, 3, none⟩ (.int .i64 ((s.n : Int) + 1))).cell? ⟨p, 0, none⟩ = some (.pointer (some ⟨X.fh, 0, none⟩)) := h2.ok.p2.ptCell 0 _ rfl
  have b0' : ((w.alloc (.cells #[.int .u64 (c : Int), .int .i64 own, .bool b] 197)).setCell ⟨p, 3, none⟩ (.int .i64 ((s.n : Int) + 1))).cell? ⟨w.heap.size, 0, none⟩ = some (.int .u64 (c : Int)) := h2.ok.p5.ptCell 0 _ rfl
  have HDER := Lib.hid hder
  have HR := Lib.hid hr
  have H2 := Lib.hid h2
  clear hr hder h2 hbig hFR
  go_enter Try.func139, Try.ntmps139
  go_wp2_with fail
  clear k3 k5 k6
  go_region_held3 (fun Y => Y.cell? ⟨p, 0, none⟩ = some (.pointer (some ⟨X.fh, 0, none⟩)) ∧ Y.cell? ⟨w.heap.size, 0, none⟩ = some (.int .u64 (c : Int))) (go_keep) (first | (go_at_call 109; refine HDER.out.mono ?_; rintro e w3 ⟨rfl, nq, hw3⟩; have k9 : w3.cell? ⟨p, 0, none⟩ = some (.pointer (some ⟨X.fh, 0, none⟩)) := hw3 ▸ k0'; have b9 : w3.cell? ⟨w.heap.size, 0, none⟩ = some (.int .u64 (c : Int)) := hw3 ▸ b0'))
  have h3 := H2.out.drewN (1 + nq)
  clear k9 b9 hw3 k0' b0' k0 H2 H1 HDER
  clear w3
  generalize ((w.alloc (.cells #[.int .u64 (c : Int), .int .i64 own, .bool b] 197)).setCell ⟨p, 3, none⟩ (.int .i64 ((s.n : Int) + 1))).drewN (1 + nq) = w3 at h3 ⊢
  have ht := tag_spec d hdb w3
  obtain ⟨T, hT⟩ : ∃ T, tg d = T := ⟨_, rfl⟩
  rw [hT] at ht
  have HT := Lib.hid ht
  have hr := HR.out
  rw [hT] at hr
  have HRR := Lib.hid hr
  have HTD := Lib.hid hT
  have H3 := Lib.hid h3
  clear ht hr HR hT h3
  by_cases t2 : T = 2
  · subst t2
    have hr : FR = .leaf d ⟨s.K, s.M, s.n + 1⟩ := by rw [HRR.out, if_pos (.inl rfl)]
    have HR := Lib.hid hr
    clear hr HRR
    go_wp2_with (go_at_call 126; refine HT.out.mono ?_; rintro e w' ⟨rfl, hww⟩; subst w')
    go_ret2
    rw [HR.out]
    exact ⟨v, stk, H3.out.p5.drop, rfl, rfl⟩
  by_cases t3 : T = 3
  · subst t3
    have hr : FR = .leaf d ⟨s.K, s.M, s.n + 1⟩ := by rw [HRR.out, if_pos (.inr rfl)]
    have HR := Lib.hid hr
    clear hr HRR
    go_wp2_with (go_at_call 126; refine HT.out.mono ?_; rintro e w' ⟨rfl, hww⟩; subst w')
    go_ret2
    rw [HR.out]
    exact ⟨v, stk, H3.out.p5.drop, rfl, rfl⟩
  have hr := HRR.out
  rw [if_neg (by omega)] at hr
  have hb2 : ((T : Int) == 2) = false := beq_eq_false_iff_ne.2 (by omega)
  have hb3 : ((T : Int) == 3) = false := beq_eq_false_iff_ne.2 (by omega)
  have k2 : w3.cell? ⟨p, 2, none⟩ = some (.map (some m)) := H3.out.ok.p2.ptCell 2 _ rfl
  have hlk0 := H3.out.ok.p3.look (P := Try.prog) (key_nat .u64) Try.underlying148 Try.underlying22 zero34 d true 0
  clear HRR t2 t3
  cases hq : lk s.M d with
  | some o =>
    rw [hq] at hr hlk0
    have hlk' : (Instr.lookup 148 (.map (some m)) (.int .u64 (d : Int)) true).run Try.prog w3 = .ok (.tuple #[.int .u64 (o : Int), .bool true]) w3 := hlk0
    have HR := Lib.hid hr
    clear hr hlk0 hq
    go_wp2_with (go_at_call 126; refine HT.out.mono ?_; rintro e w' ⟨rfl, hww⟩; subst w')
    clear hlk'
    go_ret2
    rw [HR.out]
    exact ⟨v, stk, H3.out.p5.drop, rfl, rfl⟩
  | none =>
    rw [hq] at hr hlk0
    have hlk' : (Instr.lookup 148 (.map (some m)) (.int .u64 (d : Int)) true).run Try.prog w3 = .ok (.tuple #[.int .u64 0, .bool false]) w3 := hlk0
    have hfs := fresh_spec H3.out.ok d hdb hstk (c : Int) own ho b
    obtain ⟨⟨b0, b1, b2⟩, b4⟩ : (w3.cell? ⟨w.heap.size, 0, none⟩ = some (.int .u64 (c : Int)) ∧ w3.cell? ⟨w.heap.size, 1, none⟩ = some (.int .i64 own) ∧ w3.cell? ⟨w.heap.size, 2, none⟩ = some (.bool b)) ∧ w.heap.size < w3.heap.size := ⟨⟨H3.out.ok.p5.ptCell 0 _ rfl, H3.out.ok.p5.ptCell 1 _ rfl, H3.out.ok.p5.ptCell 2 _ rfl⟩, H3.out.ok.p5.ptLt⟩
    simp only at hr
    generalize cpF X.src X.most d own ⟨s.K, s.M, s.n + 1⟩ = F at hr hfs
    have HFS := Lib.hid hfs
    have HR := Lib.hid hr
    clear hr hlk0 hq hfs
    go_wp2_with (go_at_call 126; refine HT.out.mono ?_; rintro e w' ⟨rfl, hww⟩; subst w')
    clear hlk' b0 b1 b2 b4
    refine HFS.out.mono ?_
    rintro e w6 ⟨v', stk', h6, hm6⟩
    have k2' : w6.cell? ⟨p, 2, none⟩ = some (.map (some m)) := h6.ok.p2.ptCell 2 _ rfl
    cases F with
    | bad e1 s1 =>
      obtain ⟨he1, c1, rfl⟩ := hm6
      have hbe : ((e1 : Int) == 0) = false := beq_eq_false_iff_ne.2 (by omega)
      have HE := Lib.hid he1
      have H6 := Lib.hid (H3.out.trans h6)
      clear h6 he1 k2
      go_wp2
      go_ret2
      rw [HR.out]
      exact ⟨v', stk', H6.out.p5.drop, HE.out, c1, rfl⟩
    | leaf o s1 =>
      obtain ⟨rfl, hst⟩ := hm6
      subst hst
      obtain ⟨w7, hrn, hT7⟩ := h6.ok.p3.mapPut (P := Try.prog) (key_nat .u64) Try.underlying148 Try.underlying22 d o
      have hrun : (Instr.mapUpdate 148 (.map (some m)) (.int .u64 (d : Int)) (.int .u64 (o : Int))).run Try.prog w6 = .ok () w7 := hrn
      have H7 := Lib.hid ((H3.out.trans (h6.p3.trans hT7)).p3.p3.p3)
      clear h6 hT7 hrn k2
      go_wp2
      clear hrun
      go_ret2
      rw [HR.out]
      exact ⟨v', _, H7.out.p5.drop, rfl, rfl⟩
    | comp at' args s1 =>
      obtain ⟨rfl, hst⟩ := hm6
      subst hst
      obtain ⟨w7, hrn, hT7⟩ := h6.ok.p3.mapPut (P := Try.prog) (key_nat .u64) Try.underlying148 Try.underlying22 d (mkc 1 at')
      have hrun : (Instr.mapUpdate 148 (.map (some m)) (.int .u64 (d : Int)) (.int .u64 ((mkc 1 at' : Nat) : Int))).run Try.prog w6 = .ok () w7 := hrn
      have H7 := Lib.hid ((H3.out.trans (h6.p3.trans hT7)).p3.p3.p3)
      clear h6 hT7 hrn k2
      go_wp2
      clear hrun
      go_ret2
      rw [HR.out]
      exact ⟨v', _, H7.out.p5.drop, rfl, rfl⟩
#print axioms ccell_spec
end
end Go.Proofs.Ytceahdlcbiialaa
