/- What the program's own May answers: the walk. -/
import Derived.Test.YtceahdlcbiialaaC8
set_option linter.unusedVariables false
set_option linter.unusedSimpArgs false
namespace Go.Proofs.Ytceahdlcbiialaa
open Go.RowKit

/-- What is wrong with the first of these, one behind the other; c: how many nodes have been met. -/
def finMay : List (Tm × Nat) → Nat → Nat
  | [], _ => 0
  | (t, d) :: r, c => if (may t d (c, 0)).2 ≠ 0 then (may t d (c, 0)).2 else finMay r (may t d (c, 0)).1
theorem may_err (t : Tm) (d c e : Nat) (h : e ≠ 0) : may t d (c, e) = (c, e) := by
  obtain ⟨k, s, n, re, im, xs⟩ := t
  rw [may_eq, if_pos h]
theorem mayL_err : ∀ (l : List Tm) (d c e : Nat), e ≠ 0 → mayL l d (c, e) = (c, e)
  | [], d, c, e, h => by simp [mayL]
  | t :: r, d, c, e, h => by simp only [mayL]; rw [may_err _ _ _ _ h, mayL_err r d c e h]
theorem finMay_cons (t : Tm) (d : Nat) (r : List (Tm × Nat)) (c c1 e1 : Nat) (h : may t d (c, 0) = (c1, e1)) : finMay ((t, d) :: r) c = if e1 ≠ 0 then e1 else finMay r c1 := by
  simp only [finMay, h]
theorem finMay_kids (d : Nat) (r : List (Tm × Nat)) : ∀ (l : List Tm) (c : Nat), finMay (l.map (·, d) ++ r) c = if (mayL l d (c, 0)).2 ≠ 0 then (mayL l d (c, 0)).2 else finMay r (mayL l d (c, 0)).1
  | [], c => by simp [mayL]
  | t :: l, c => by
    rcases hm : may t d (c, 0) with ⟨c1, e1⟩
    rw [List.map_cons, List.cons_append, finMay_cons _ _ _ _ _ _ hm]
    simp only [mayL, hm]
    by_cases h : e1 = 0
    · subst h
      rw [finMay_kids d r l c1]
      simp
    · rw [if_pos h, mayL_err _ _ _ _ h]
      simp [h]
theorem finMay_step (t : Tm) (d c : Nat) (r : List (Tm × Nat)) (hc : c ≤ 2000) : finMay ((t, d) :: r) c = if c = 2000 ∨ 500 < d then 3 else if one t ≠ 0 then one t else finMay (pushed t d ++ r) (c + 1) := by
  obtain ⟨k, s, n, re, im, xs⟩ := t
  have hm := may_eq k s n re im xs d c 0
  rw [if_neg (by simp)] at hm
  by_cases h1 : c = 2000 ∨ 500 < d
  · rw [if_pos (by omega)] at hm
    rw [finMay_cons _ _ _ _ _ _ hm, if_pos h1, if_pos (by simp)]
  · rw [if_neg (by omega)] at hm
    rw [if_neg h1]
    by_cases h2 : one (.mk k s n re im xs) = 0
    · rw [if_neg (by simp [h2])] at hm
      rw [if_neg (by simp [h2])]
      by_cases h5 : k = 5
      · rw [if_pos h5] at hm
        rcases hq : mayL xs (d + 1) (c + 1, 0) with ⟨c1, e1⟩
        rw [hq] at hm
        rw [finMay_cons _ _ _ _ _ _ hm]
        simp only [pushed, Tm.k, Tm.xs, h5, if_true]
        rw [finMay_kids, hq]
      · rw [if_neg h5] at hm
        rw [finMay_cons _ _ _ _ _ _ hm]
        simp [pushed, Tm.k, h5]
    · rw [if_pos h2] at hm
      rw [finMay_cons _ _ _ _ _ _ hm, if_pos h2, if_pos h2]
theorem finMay_one (t : Tm) : finMay [(t, 1)] 0 = May t := by
  unfold finMay May
  split
  · rfl
  · rename_i h; simp only [Decidable.not_not] at h; rw [h]; rfl
theorem finMay_le : ∀ (l : List (Tm × Nat)) (c : Nat), c ≤ 2000 → finMay l c ≤ 3
  | [], c, h => by simp [finMay]
  | (t, d) :: r, c, h => by
    unfold finMay
    have hb := may_b t d (c, 0) ⟨by simp; omega, by simp; omega, by simp⟩
    split
    · exact hb.2.2
    · rename_i h2
      simp only [Decidable.not_not] at h2
      exact finMay_le r _ (hb.2.1 h2)

@[local go_sem] theorem neq_nilFunc (w : World) : (binOp .neq 211 .nilFunc .nilFunc).run Try.prog w = .ok (.bool false) w := by kernel_rfl
theorem pushed_le {t : Tm} {d : Nat} (h : t.k = 5 → t.xs.length ≤ 20) : (pushed t d).length ≤ 20 := by
  unfold pushed
  by_cases h5 : t.k = 5
  · rw [if_pos h5]; simpa using h h5
  · rw [if_neg h5]; simp
theorem pushed_d {t : Tm} {d : Nat} {x : Tm × Nat} (h : x ∈ pushed t d) : x.2 = d + 1 := by
  unfold pushed at h
  by_cases h5 : t.k = 5
  · rw [if_pos h5] at h
    obtain ⟨a, _, rfl⟩ := List.mem_map.1 h
    rfl
  · rw [if_neg h5] at h; cases h
theorem one_len {t : Tm} (h : one t = 0) (h5 : t.k = 5) : t.xs.length ≤ 20 := by
  unfold one at h
  split at h
  · cases h
  · split at h
    · cases h
    · rename_i h1 h2; omega

set_option maxRecDepth 100000 in
set_option maxHeartbeats 4000000 in
theorem walk_spec {w : World} {S : Blk} {Γ : List Asn} {t : Tm} {A : Option Addr} {cap : Nat} (h : Ok w S Γ) (hT : TmC w S [.int .i64 t.k, .string t.s, .int .i64 t.n, .int .u64 t.re, .int .u64 t.im, .slice A t.xs.length cap] t) :
    Calls Try.prog 119 #[.agg #[.int .i64 t.k, .string t.s, .int .i64 t.n, .int .u64 t.re, .int .u64 t.im, .slice A t.xs.length cap], Value.nilFunc] w fun e w' => (∃ a b : Int, e = .returned (.tuple #[.int .i64 a, .int .i64 b, .int .i64 (May t : Nat)])) ∧ To w S w' S Γ := by
  have H := Lib.hid h; clear h
  have HT := Lib.hid hT; clear hT
  go_enter Try.func119, Try.ntmps119
  go_wp2
  refine wp_goto_loop 0 56 (fun f W => f 1 = Value.nilFunc ∧ ∃ (stk : List It) (c dp : Nat), f 4 = .int .i64 c ∧ f 5 = .int .i64 dp ∧ To w S W S (Row (f 7) 213 7 stk.length (stkV stk) :: Γ) ∧ (∀ i ∈ stk, TmC w S i.six i.t ∧ i.d ≤ 501) ∧
    finMay (stk.map fun i : It => (i.t, i.d)) c = May t ∧ c ≤ 2000 ∧ stk.length ≤ 1 + 20 * c ∧ dp ≤ 500) (fun f _ => 2000 - (intOf (f 4)).toNat) rfl ?pass ?first
  case first =>
    intro hp
    go_wp2
    go_step3
    go_step
    go_step
    apply hp
    refine ⟨rfl, rfl, rfl, [⟨t, A, cap, 1⟩], 0, 0, rfl, rfl, ?_, ?_, finMay_one t, by omega, by simp, by omega⟩
    · have h1 := ((H.out.to.alloc (.cells #[.int .i64 t.k, .string t.s, .int .i64 t.n, .int .u64 t.re, .int .u64 t.im, .slice A t.xs.length cap] 25)).allocPt #[.int .i64 t.k, .string t.s, .int .i64 t.n, .int .u64 t.re, .int .u64 t.im, .slice A t.xs.length cap, .int .i64 (1 : Nat)] 213).re fun k => k.ptRow 7 1 rfl (by simp [maxLen])
      simp only [World.size_alloc] at h1
      exact h1
    · simp
      exact HT.out
  case pass =>
    rintro f W ⟨f1, stk, c, dp, f4, f5, hO, hI, hq, hc, hl, hdp⟩
    cases stk with
    | nil =>
      obtain ⟨A7, c7, f7⟩ := hO.ok.rowShape
      have HO := Lib.hid hO.drop; clear hO
      have HQ := Lib.hid hq; clear hq hI
      show Code.wp _ _ _ ⟨#[f 0, f 1, f 2, f 3, f 4, f 5, f 6, f 7, f 8, f 9, f 10, f 11, f 12, f 13, f 14, f 15, f 16, f 17, f 18, f 19, f 20, f 21, f 22, f 23, f 24, f 25, f 26, f 27, f 28, f 29, f 30, f 31, f 32, f 33, f 34, f 35, f 36, f 37, f 38, f 39, f 40, f 41, f 42, f 43, f 44, f 45, f 46, f 47, f 48, f 49, f 50, f 51, f 52, f 53, f 54, f 55], []⟩ _
      rw [f1, f4, f5, f7]
      go_wp2
      simp only [Exit.jump]
      go_ret3
      exact ⟨⟨_, _, by rw [← HQ.out]; rfl⟩, HO.out⟩
    | cons top rest =>
      obtain ⟨g, c7, f7, hcap, hgl, hgS, hg⟩ := hO.ok.rowLast (stkV_length rest)
      obtain ⟨⟨k, s, n, re, im, xs⟩, A', cap', d⟩ := top
      have g0 := hg 0 _ rfl
      have g1 := hg 1 _ rfl
      have g2 := hg 2 _ rfl
      have g3 := hg 3 _ rfl
      have g4 := hg 4 _ rfl
      have g5 := hg 5 _ rfl
      have g6 := hg 6 _ rfl
      simp only [Tm.k, Tm.s, Tm.n, Tm.re, Tm.im, Tm.xs] at g0 g1 g2 g3 g4 g5 g6
      rw [Nat.add_zero] at g0
      clear hg
      simp only [List.map_cons] at hq
      rw [finMay_step _ _ _ _ hc] at hq
      obtain ⟨hT1, hd1⟩ := hI _ (List.mem_cons_self ..)
      simp only at hd1
      have hlr : rest.length ≤ 20 * c := by simp at hl; omega
      have hO1 := hO
      rw [f7] at hO1
      have hO2 := hO1.rowPop (stkV_length rest)
      show Code.wp _ _ _ ⟨#[f 0, f 1, f 2, f 3, f 4, f 5, f 6, f 7, f 8, f 9, f 10, f 11, f 12, f 13, f 14, f 15, f 16, f 17, f 18, f 19, f 20, f 21, f 22, f 23, f 24, f 25, f 26, f 27, f 28, f 29, f 30, f 31, f 32, f 33, f 34, f 35, f 36, f 37, f 38, f 39, f 40, f 41, f 42, f 43, f 44, f 45, f 46, f 47, f 48, f 49, f 50, f 51, f 52, f 53, f 54, f 55], []⟩ _
      rw [f1, f4, f5, f7]
      have HO := Lib.hid hO; clear hO
      have HO2 := Lib.hid hO2; clear hO1 hO2
      have HT1 := Lib.hid hT1; clear hT1
      have HI := Lib.hid hI; clear hI
      have HQ := Lib.hid hq; clear hq
      clear f1 f4 f5 f7
      have hne : ((rest.length : Int) + 1 == 0) = false := beq_eq_false_iff_ne.2 (by omega)
      by_cases hA : c = 2000
      · subst hA
        go_wp2
        simp only [Exit.jump]
        go_ret3
        exact ⟨⟨_, _, by rw [← HQ.out, if_pos (by simp)]; rfl⟩, (HO.out.drop).alloc _⟩
      · have hA' : ((c : Int) == 2000) = false := beq_eq_false_iff_ne.2 (by omega)
        by_cases hB : 500 < d
        · go_wp2
          simp only [Exit.jump]
          go_ret3
          exact ⟨⟨_, _, by rw [← HQ.out, if_pos (.inr hB)]; rfl⟩, (HO.out.drop).alloc _⟩
        · have hBi : (d : Int) ≤ 500 := by omega
          by_cases hC : one (.mk k s n re im xs) = 0
          case neg =>
            have hCi : ((one (.mk k s n re im xs) : Int) != 0) = true := by simp [bne]; omega
            have hB' : d ≤ 500 := by omega
            clear hB
            go_wp2_with (go_at_call 156; refine (one_spec (S := S) (cs := [.int .i64 k, .string s, .int .i64 n, .int .u64 re, .int .u64 im, .slice A' xs.length cap']) (HT1.out.to ((HO.out.alloc _)))).mono ?_; rintro e w' ⟨rfl, rfl⟩)
            simp only [Exit.jump]
            go_ret3
            exact ⟨⟨_, _, by rw [← HQ.out, if_neg (by omega), if_pos hC]; rfl⟩, ((HO.out.drop).alloc _).alloc _⟩
          case pos =>
            have hB' : d ≤ 500 := by omega
            clear hB
            have hxs : k = 5 → xs.length ≤ 20 := one_len (t := .mk k s n re im xs) hC
            go_wp2_with (first | (go_at_call 156; refine (one_spec (S := S) (cs := [.int .i64 k, .string s, .int .i64 n, .int .u64 re, .int .u64 im, .slice A' xs.length cap']) (HT1.out.to ((HO.out.alloc _)))).mono ?_; rintro e w' ⟨rfl, rfl⟩; rw [hC]) | (go_at_call 157; refine (push_spec (S := S) (Γ := Γ) (stk := rest) (((HO2.out.alloc _).alloc _).ok) ⟨.mk k s n re im xs, A', cap', d⟩ (HT1.out.to (((HO.out.alloc _).alloc _))) hxs (by omega) (by simp; omega)).mono ?_; rintro e w' ⟨v', l, rfl, hl1, hl2, hl3⟩))
            all_goals
              go_step3
              have hll : l.length ≤ 20 := by
                have e1 := congrArg List.length hl1
                rw [List.length_map] at e1
                rw [e1]
                exact pushed_le (t := .mk k s n re im xs) hxs
              refine ⟨rfl, ⟨rfl, rfl, rfl, l ++ rest, c + 1, _, rfl, rfl, ((HO2.out.alloc _).alloc _).trans hl3, ?_, ?_, by omega, by simp; omega, by omega⟩, ?_⟩
              · intro i hi
                rcases List.mem_append.1 hi with hi | hi
                · refine ⟨(hl2 i hi).back ((HO2.out.alloc _).alloc _), ?_⟩
                  have e2 : (i.t, i.d) ∈ pushed (.mk k s n re im xs) d := hl1 ▸ List.mem_map_of_mem hi
                  have e3 := pushed_d e2
                  simp only at e3
                  omega
                · exact HI.out i (List.mem_cons_of_mem _ hi)
              · rw [List.map_append, hl1, ← HQ.out, if_neg (by omega), if_neg (by simp [hC])]
              · show 2000 - (intOf (.int .i64 ((c : Int) + 1))).toNat < 2000 - (intOf (.int .i64 (c : Int))).toNat
                simp only [intOf]
                omega

set_option maxRecDepth 100000 in
set_option maxHeartbeats 1000000 in
/-- What the program's own May answers. -/
theorem tmay_spec {w : World} {S : Blk} {Γ : List Asn} {t : Tm} {cs : List Value} (h : Ok w S Γ) (hT : TmC w S cs t) :
    Calls Try.prog 86 #[.agg cs.toArray] w fun e w' => e = .returned (.int .i64 (May t : Nat)) ∧ To w S w' S Γ := by
  obtain ⟨A, cap, rfl⟩ := hT.form0
  have H := Lib.hid h; clear h
  have HT := Lib.hid hT; clear hT
  go_enter Try.func86, Try.ntmps86
  go_wp2_with (go_at_call 119; refine (walk_spec (S := S) (Γ := Γ) (H.out.to.alloc _).ok (HT.out.to (H.out.to.alloc _))).mono ?_; rintro e w' ⟨⟨a, b, rfl⟩, hw⟩)
  go_ret
  exact ⟨rfl, (H.out.to.alloc _).trans hw⟩
end Go.Proofs.Ytceahdlcbiialaa
