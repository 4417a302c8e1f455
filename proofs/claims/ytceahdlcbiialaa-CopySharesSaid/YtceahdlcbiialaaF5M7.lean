/- What the program's own May answers: one, push. What the program's own May answers: the walk. -/
import Derived.Test.YtceahdlcbiialaaF5M5
import Derived.Test.YtceahdlcbiialaaF5M6
set_option linter.unusedVariables false
set_option linter.unusedSimpArgs false
namespace Go.Proofs.Ytceahdlcbiialaa
open Go.RowKit
attribute [local go_sem] Oper.semAt_some

set_option maxRecDepth 100000 in
set_option maxHeartbeats 1000000 in
theorem backward_spec (A : Option Addr) (n cap : Nat) (w : World) :
    Calls Try.prog 160 #[.slice A n cap] w fun e w' => e = .returned (.func (.func 165) #[] #[.pointer (some ⟨w.heap.size, 0, none⟩)]) ∧ w' = w.alloc (.cells #[.slice A n cap] 23) := by
  go_enter Try.func160, Try.ntmps160
  go_wp2
  go_ret
  exact ⟨rfl, rfl⟩

set_option maxRecDepth 100000 in
set_option maxHeartbeats 4000000 in
theorem one_spec {w : World} {S : Blk} {cs : List Value} {t : Tm} (hT : TmC w S cs t) :
    Calls Try.prog 156 #[.agg cs.toArray] w fun e w' => e = .returned (.int .i64 (one t : Nat)) ∧ w' = w.alloc (.cells cs.toArray 25) := by
  obtain ⟨k, s, n, re, im, xs⟩ := t
  obtain ⟨A, cap, rfl, hrg, -⟩ := hT.form
  clear hT
  simp only [Ranged, Tm.k, Tm.s, Tm.n, Tm.re, Tm.im, Tm.xs] at *
  obtain ⟨hk, hs, hn, hre, him, hxl⟩ := hrg
  by_cases hb1 : k < 1 ∨ 5 < k ∨ (k = 1 ∧ n < 0) ∨ (k = 5 ∧ xs.length = 0)
  · rw [one_1 (t := .mk k s n re im xs) hb1]
    by_cases x1 : k < 1 ∨ 5 < k
    · have y1 : (k == 1) = false := beq_eq_false_iff_ne.2 (by omega)
      have y2 : (k == 2) = false := beq_eq_false_iff_ne.2 (by omega)
      have y3 : (k == 3) = false := beq_eq_false_iff_ne.2 (by omega)
      have y4 : (k == 4) = false := beq_eq_false_iff_ne.2 (by omega)
      have y5 : (k == 5) = false := beq_eq_false_iff_ne.2 (by omega)
      clear hb1 x1
      go_enter Try.func156, Try.ntmps156
      go_wp2
      go_ret
      exact ⟨rfl, rfl⟩
    · by_cases x3 : k = 1 ∧ n < 0
      · obtain ⟨rfl, x3⟩ := x3
        clear hb1
        go_enter Try.func156, Try.ntmps156
        go_wp2
        go_ret
        exact ⟨rfl, rfl⟩
      · have x4 : k = 5 ∧ xs.length = 0 := by omega
        obtain ⟨rfl, x4⟩ := x4
        have x4' : ((xs.length : Int) == 0) = true := by simp [x4]
        clear hb1 x3 x4
        go_enter Try.func156, Try.ntmps156
        go_wp2
        go_ret
        exact ⟨rfl, rfl⟩
  by_cases hb2 : ((k = 2 ∨ k = 5) ∧ 200 < s.size) ∨ (k = 5 ∧ 20 < xs.length)
  · rw [one_3 (t := .mk k s n re im xs) hb1 hb2]
    by_cases x2 : k = 2
    · subst x2
      have y1 : 200 < s.size := by omega
      clear hb1 hb2
      go_enter Try.func156, Try.ntmps156
      go_wp2
      go_ret
      exact ⟨rfl, rfl⟩
    · obtain rfl : k = 5 := by omega
      have y0 : ((xs.length : Int) == 0) = false := beq_eq_false_iff_ne.2 (by omega)
      by_cases y1 : 200 < s.size
      · clear hb1 hb2
        go_enter Try.func156, Try.ntmps156
        go_wp2
        go_ret
        exact ⟨rfl, rfl⟩
      · have y2 : 20 < xs.length := by omega
        clear hb1 hb2
        go_enter Try.func156, Try.ntmps156
        go_wp2
        go_ret
        exact ⟨rfl, rfl⟩
  rw [one_0 (t := .mk k s n re im xs) hb1 hb2]
  by_cases x1 : k = 1
  · subst x1
    have y1 : 0 ≤ n := by omega
    clear hb1 hb2
    go_enter Try.func156, Try.ntmps156
    go_wp2
    go_ret
    exact ⟨rfl, rfl⟩
  · by_cases x2 : k = 2
    · subst x2
      have y1 : s.size ≤ 200 := by omega
      clear hb1 hb2
      go_enter Try.func156, Try.ntmps156
      go_wp2
      go_ret
      exact ⟨rfl, rfl⟩
    · by_cases x3 : k = 5
      · subst x3
        have y0 : ((xs.length : Int) == 0) = false := beq_eq_false_iff_ne.2 (by omega)
        have y1 : s.size ≤ 200 := by omega
        have y2 : xs.length ≤ 20 := by omega
        clear hb1 hb2
        go_enter Try.func156, Try.ntmps156
        go_wp2
        go_ret
        exact ⟨rfl, rfl⟩
      · by_cases x4 : k = 3
        · subst x4
          clear hb1 hb2
          go_enter Try.func156, Try.ntmps156
          go_wp2
          go_ret
          exact ⟨rfl, rfl⟩
        · obtain rfl : k = 4 := by omega
          clear hb1 hb2
          go_enter Try.func156, Try.ntmps156
          go_wp2
          go_ret
          exact ⟨rfl, rfl⟩

def pushed (t : Tm) (d : Nat) : List (Tm × Nat) := if t.k = 5 then t.xs.map (·, d + 1) else []
theorem info213 : (Try.prog.info? 213).map (fun i => (i.zero, i.size, i.bytes)) = some (some (.agg #[.int .i64 0, .string ⟨#[]⟩, .int .i64 0, .int .u64 0, .int .u64 0, .slice none 0 0, .int .i64 0]), 7, 80) := by kernel_rfl

/-- The box of the stack, and the stack, with k of the arguments on it. -/
def PushI (w : World) (S : Blk) (b : Nat) (xs : List Tm) (d : Nat) (stk : List It) (k : Nat) : Asn :=
  Ex fun l : List It => Ex fun v : Value => Two (Fact (l.map (fun i : It => (i.t, i.d)) = (xs.drop (xs.length - k)).map (·, d + 1) ∧ ∀ i ∈ l, TmC w S i.six i.t)) (Two (Pt b #[v] 214) (Row v 213 7 (l ++ stk).length (stkV (l ++ stk))))
theorem Ok.pushI {w0 w : World} {S0 S : Blk} {b d k : Nat} {xs : List Tm} {stk : List It} {Γ : List Asn} : Ok w S (PushI w0 S0 b xs d stk k :: Γ) ↔ ∃ (l : List It) (v : Value), (l.map (fun i : It => (i.t, i.d)) = (xs.drop (xs.length - k)).map (·, d + 1) ∧ ∀ i ∈ l, TmC w0 S0 i.six i.t) ∧ Ok w S (Pt b #[v] 214 :: Row v 213 7 (l ++ stk).length (stkV (l ++ stk)) :: Γ) := by
  unfold PushI
  rw [Ok.ex]
  refine exists_congr fun l => ?_
  rw [Ok.ex]
  refine exists_congr fun v => ?_
  rw [Ok.two, Ok.fact, Ok.two]

set_option maxRecDepth 100000 in
set_option maxHeartbeats 4000000 in
theorem push_spec {w : World} {S : Blk} {Γ : List Asn} {v : Value} {stk : List It} (h : Ok w S (Row v 213 7 stk.length (stkV stk) :: Γ)) (top : It) (hT : TmC w S top.six top.t) (hx : top.t.k = 5 → top.t.xs.length ≤ 20) (hs : stk.length ≤ 50000) (hd : top.d ≤ 1000) :
    Calls Try.prog 157 #[v, .agg top.v.toArray] w fun e w' => ∃ v' l, e = .returned v' ∧ l.map (fun i : It => (i.t, i.d)) = pushed top.t top.d ∧ (∀ i ∈ l, TmC w S i.six i.t) ∧ To w S w' S (Row v' 213 7 (l ++ stk).length (stkV (l ++ stk)) :: Γ) := by
  obtain ⟨t, A, cap, d⟩ := top
  obtain ⟨k, s, n, re, im, xs⟩ := t
  obtain ⟨_, _, e0, hrg, hA⟩ := hT.form
  simp only [List.cons.injEq, Value.slice.injEq, and_true, true_and] at e0
  obtain ⟨rfl, rfl⟩ := e0
  clear hT
  simp only [Ranged, It.v, Tm.k, Tm.s, Tm.n, Tm.re, Tm.im, Tm.xs] at *
  obtain ⟨hk, hsz, hn, hre, him, hxl⟩ := hrg
  obtain ⟨A0, c0, rfl⟩ := h.rowShape
  have H := Lib.hid h; clear h
  by_cases h5 : k = 5
  case neg =>
    have y5 : (k == 5) = false := beq_eq_false_iff_ne.2 h5
    refine callsIn_wide.1 (callsIn_of_wp_marks (n := 5) Try.func157 rfl trivial (wpIn_wide.2 ?_) rfl)
    simp only [Try.ntmps157, List.size_toArray, List.length_cons, List.length_nil, Nat.reduceAdd, Nat.reduceSub, Array.replicate_succ, Array.replicate_zero, List.push_toArray, List.append_toArray, List.nil_append, List.cons_append]
    go_wp2
    refine bodyM_ret (results_tmp rfl _ _ _) ?_
    exact ⟨_, [], rfl, by simp [pushed, h5, Tm.k], by simp, (H.out.to.alloc _).alloc _⟩
  subst h5
  replace hx := hx rfl
  refine callsIn_wide.1 (callsIn_of_wp_marks (n := 5) Try.func157 rfl trivial (wpIn_wide.2 ?_) rfl)
  simp only [Try.ntmps157, List.size_toArray, List.length_cons, List.length_nil, Nat.reduceAdd, Nat.reduceSub, Array.replicate_succ, Array.replicate_zero, List.push_toArray, List.append_toArray, List.nil_append, List.cons_append]
  go_wp2_with (go_at_call 160; refine (backward_spec _ _ _ _).mono ?_; rintro e w' ⟨rfl, rfl⟩)
  obtain ⟨S1, hS1⟩ : ∃ S1 : Blk, S1 = fun x => (S x ∨ x = w.heap.size + 1) ∨ x = w.heap.size + 1 + 1 := ⟨_, rfl⟩
  have HS := Lib.hid hS1
  have hA1 : To w S (((w.alloc (.cells #[.slice A0 stk.length c0] 214)).alloc (.cells #[.int .i64 5, .string s, .int .i64 n, .int .u64 re, .int .u64 im, .slice A xs.length cap, .int .i64 (d : Int)] 213)).alloc (.cells #[.slice A xs.length cap] 23)) S1
      (PushI w S w.heap.size xs d stk 0 :: Γ) := by
    have h1 := (H.out.to.allocPt #[.slice A0 stk.length c0] 214).allocPt #[.int .i64 5, .string s, .int .i64 n, .int .u64 re, .int .u64 im, .slice A xs.length cap, .int .i64 (d : Int)] 213
    have h2 := h1.trans h1.ok.seal1
    have h3 := h2.allocPt #[.slice A xs.length cap] 23
    have h4 := h3.trans h3.ok.seal1
    simp only [World.size_alloc] at h4
    rw [hS1]
    exact h4.re fun k => Ok.pushI.2 ⟨[], _, ⟨by simp, by simp⟩, k⟩
  clear hS1
  refine wp_backward (Sk := S) (S := S1) (xs := xs) (A := A) (cap := cap) (B := w.heap.size + 1 + 1) (fun k => PushI w S w.heap.size xs d stk k :: Γ) rfl rfl (by rw [HS.out]; exact .inr rfl) ?hB (hA.in (fun _ h => h) hA1) (by rw [HS.out]; exact fun _ h => .inl (.inl h)) hxl hA1.ok ?round ?done
  case hB => simp [go_sem]
  case round =>
    intro l D r k j x A' cap' W hj hx' hxT hW
    obtain ⟨st, v, hf, hok⟩ := Ok.pushI.1 hW.ok.p2
    obtain ⟨m, hm⟩ : ∃ m, m = (st ++ stk).length := ⟨_, rfl⟩
    rw [← hm] at hok
    obtain ⟨A2, c2, rfl⟩ := hok.p1.rowShape
    have hb : W.cell? ⟨w.heap.size, 0, none⟩ = some (.slice A2 m c2) := hok.ptCell 0 _ rfl
    have hbs : w.heap.size < W.heap.size := hok.ptLt
    gi_wp2
    refine ⟨Raw D (.deferred (some [])) :: Pt W.heap.size #[.int .i64 x.k, .string x.s, .int .i64 x.n, .int .u64 x.re, .int .u64 x.im, .slice A' x.xs.length cap'] 25 :: Pt w.heap.size #[.slice A2 m c2] 214 :: Row (.slice A2 m c2) 213 7 m (stkV (st ++ stk)) :: Γ, ?_, ?_⟩
    · exact ((hW.re fun _ => hok).allocPt _ _).p4.p4
    intro W2 h2
    have g0 : W2.cell? ⟨W.heap.size, 0, none⟩ = some (.int .i64 x.k) := h2.ok.p2.ptCell 0 _ rfl
    have g1 : W2.cell? ⟨W.heap.size, 1, none⟩ = some (.string x.s) := h2.ok.p2.ptCell 1 _ rfl
    have g2 : W2.cell? ⟨W.heap.size, 2, none⟩ = some (.int .i64 x.n) := h2.ok.p2.ptCell 2 _ rfl
    have g3 : W2.cell? ⟨W.heap.size, 3, none⟩ = some (.int .u64 x.re) := h2.ok.p2.ptCell 3 _ rfl
    have g4 : W2.cell? ⟨W.heap.size, 4, none⟩ = some (.int .u64 x.im) := h2.ok.p2.ptCell 4 _ rfl
    have g5 : W2.cell? ⟨W.heap.size, 5, none⟩ = some (.slice A' x.xs.length cap') := h2.ok.p2.ptCell 5 _ rfl
    have gb : W2.cell? ⟨w.heap.size, 0, none⟩ = some (.slice A2 m c2) := h2.ok.p3.ptCell 0 _ rfl
    have gd : W2.cell? ⟨w.heap.size + 1, 6, none⟩ = some (.int .i64 (d : Int)) := h2.cell (a := ⟨w.heap.size + 1, 6, none⟩) (by rw [HS.out]; exact .inl (.inr rfl)) (by simp [go_sem])
    have hlen : m ≤ 60000 := by
      rw [hm]
      have := congrArg List.length hf.1
      simp at this
      simp
      omega
    have HM := Lib.hid hm; clear hm
    have H2 := Lib.hid h2.p4; clear h2
    have HF := Lib.hid hf; clear hf
    have HW := Lib.hid hW; clear hW
    have HT := Lib.hid hxT; clear hxT
    clear hb hok hbs
    gi_wp2_with (gi_at_builtin; refine wpListIn_append_new rfl (.tmp 17) (.tmp 23) 214 213 _ 7 80 rfl Try.underlying214 info213 rfl (by decide) (by decide) H2.out rfl #[.int .i64 x.k, .string x.s, .int .i64 x.n, .int .u64 x.re, .int .u64 x.im, .slice A' x.xs.length cap', .int .i64 ((d : Int) + 1)] rfl rfl (by simp [Value.oneCell']) (by omega) ?_)
    intro A3 c3 W3 H3
    have hp := H3.p4
    have hb3 : W3.cell? ⟨w.heap.size, 0, none⟩ = some (.slice A2 m c2) := hp.ok.ptCell 0 _ rfl
    have hf3 := hp.ok.ptFree 0
    have HP := Lib.hid hp; clear hp H3
    gi_wp2
    have H4 := (HP.out.ptSet 0 (.slice A3 (m + 1) c3)).p4.drop
    refine To.p2 (To.p2 (H4.re fun kk => Ok.pushI.2 ⟨⟨x, A', cap', d + 1⟩ :: st, .slice A3 (m + 1) c3, ⟨?_, ?_⟩, ?_⟩))
    · have hd := List.drop_eq_getElem_cons (l := xs) (i := j) (by omega)
      have e1 : xs.length - (k + 1) = j := by omega
      have e2 : xs.length - k = j + 1 := by omega
      have hf := HF.out.1
      rw [e2] at hf
      rw [e1, hd, List.map_cons, List.map_cons, hf, (List.getElem?_eq_some_iff.1 hx').2]
    · intro i hi
      rcases List.mem_cons.1 hi with rfl | hi
      · exact (HT.out.mono (fun a v ha hv => (World.cell?_of_block (w := W) (HW.out.kept a.block (by rw [HS.out]; exact .inl (.inl ha))).symm).trans hv) (fun _ h => h)).back hA1
      · exact HF.out.2 i hi
    · have e3 : (⟨x, A', cap', d + 1⟩ :: st ++ stk : List It).length = m + 1 := by rw [HM.out]; rfl
      rw [e3]
      exact kk
  case done =>
    intro D W hW
    obtain ⟨st, v, hf, hok⟩ := Ok.pushI.1 hW.ok.p1
    have hb : W.cell? ⟨w.heap.size, 0, none⟩ = some v := hok.ptCell 0 _ rfl
    simp only [Exit.inBlock, Exit.then]
    go_wp2
    refine bodyM_done (w0 := w) (S0 := S) (S := S) (hA1.trans (hW.re fun _ => hok.p2)).plain (fun _ => results_tmp rfl _ _ _) (fun W' h' => ?_)
    exact ⟨_, st, rfl, by rw [hf.1]; simp [pushed, Tm.k, Tm.xs], hf.2, h'.drop⟩
end Go.Proofs.Ytceahdlcbiialaa
set_option linter.unusedVariables false
set_option linter.unusedSimpArgs false
namespace Go.Proofs.Ytceahdlcbiialaa
open Go.RowKit

/-- What is wrong with the first of these, one behind the other; c: how many nodes have been met. -/
def finMay : List (Tm × Nat) → Nat → Nat
  | [], _ => 0
  | (t, d) :: r, c => if (may t d (c, 0)).2 ≠ 0 then (may t d (c, 0)).2 else finMay r (may t d (c, 0)).1
theorem may_err (t : Tm) (d c e : Nat) (h : e ≠ 0) : may t d (c, e) = (c, e) := by
  obtain ⟨k, s, n, re, im, xs⟩ := t
  rw [may_eq, if_pos h]
theorem mayL_err : ∀ (l : List Tm) (d c e : Nat), e ≠ 0 → mayL l d (c, e) = (c, e)
  | [], d, c, e, h => by simp [mayL]
  | t :: r, d, c, e, h => by simp only [mayL]; rw [may_err _ _ _ _ h, mayL_err r d c e h]
theorem finMay_cons (t : Tm) (d : Nat) (r : List (Tm × Nat)) (c c1 e1 : Nat) (h : may t d (c, 0) = (c1, e1)) : finMay ((t, d) :: r) c = if e1 ≠ 0 then e1 else finMay r c1 := by
  simp only [finMay, h]
theorem finMay_kids (d : Nat) (r : List (Tm × Nat)) : ∀ (l : List Tm) (c : Nat), finMay (l.map (·, d) ++ r) c = if (mayL l d (c, 0)).2 ≠ 0 then (mayL l d (c, 0)).2 else finMay r (mayL l d (c, 0)).1
  | [], c => by simp [mayL]
  | t :: l, c => by
    rcases hm : may t d (c, 0) with ⟨c1, e1⟩
    rw [List.map_cons, List.cons_append, finMay_cons _ _ _ _ _ _ hm]
    simp only [mayL, hm]
    by_cases h : e1 = 0
    · subst h
      rw [finMay_kids d r l c1]
      simp
    · rw [if_pos h, mayL_err _ _ _ _ h]
      simp [h]
theorem finMay_step (t : Tm) (d c : Nat) (r : List (Tm × Nat)) (hc : c ≤ 2000) : finMay ((t, d) :: r) c = if c = 2000 ∨ 500 < d then 3 else if one t ≠ 0 then one t else finMay (pushed t d ++ r) (c + 1) := by
  obtain ⟨k, s, n, re, im, xs⟩ := t
  have hm := may_eq k s n re im xs d c 0
  rw [if_neg (by simp)] at hm
  by_cases h1 : c = 2000 ∨ 500 < d
  · rw [if_pos (by omega)] at hm
    rw [finMay_cons _ _ _ _ _ _ hm, if_pos h1, if_pos (by simp)]
  · rw [if_neg (by omega)] at hm
    rw [if_neg h1]
    by_cases h2 : one (.mk k s n re im xs) = 0
    · rw [if_neg (by simp [h2])] at hm
      rw [if_neg (by simp [h2])]
      by_cases h5 : k = 5
      · rw [if_pos h5] at hm
        rcases hq : mayL xs (d + 1) (c + 1, 0) with ⟨c1, e1⟩
        rw [hq] at hm
        rw [finMay_cons _ _ _ _ _ _ hm]
        simp only [pushed, Tm.k, Tm.xs, h5, if_true]
        rw [finMay_kids, hq]
      · rw [if_neg h5] at hm
        rw [finMay_cons _ _ _ _ _ _ hm]
        simp [pushed, Tm.k, h5]
    · rw [if_pos h2] at hm
      rw [finMay_cons _ _ _ _ _ _ hm, if_pos h2, if_pos h2]
theorem finMay_one (t : Tm) : finMay [(t, 1)] 0 = May t := by
  unfold finMay May
  split
  · rfl
  · rename_i h; simp only [Decidable.not_not] at h; rw [h]; rfl
theorem finMay_le : ∀ (l : List (Tm × Nat)) (c : Nat), c ≤ 2000 → finMay l c ≤ 3
  | [], c, h => by simp [finMay]
  | (t, d) :: r, c, h => by
    unfold finMay
    have hb := may_b t d (c, 0) ⟨by simp; omega, by simp; omega, by simp⟩
    split
    · exact hb.2.2
    · rename_i h2
      simp only [Decidable.not_not] at h2
      exact finMay_le r _ (hb.2.1 h2)

@[local go_sem] theorem neq_nilFunc (w : World) : (binOp .neq 211 .nilFunc .nilFunc).run Try.prog w = .ok (.bool false) w := by kernel_rfl
theorem pushed_le {t : Tm} {d : Nat} (h : t.k = 5 → t.xs.length ≤ 20) : (pushed t d).length ≤ 20 := by
  unfold pushed
  by_cases h5 : t.k = 5
  · rw [if_pos h5]; simpa using h h5
  · rw [if_neg h5]; simp
theorem pushed_d {t : Tm} {d : Nat} {x : Tm × Nat} (h : x ∈ pushed t d) : x.2 = d + 1 := by
  unfold pushed at h
  by_cases h5 : t.k = 5
  · rw [if_pos h5] at h
    obtain ⟨a, _, rfl⟩ := List.mem_map.1 h
    rfl
  · rw [if_neg h5] at h; cases h
theorem one_len {t : Tm} (h : one t = 0) (h5 : t.k = 5) : t.xs.length ≤ 20 := by
  unfold one at h
  split at h
  · cases h
  · split at h
    · cases h
    · rename_i h1 h2; omega

set_option maxRecDepth 100000 in
set_option maxHeartbeats 4000000 in
theorem walk_spec {w : World} {S : Blk} {Γ : List Asn} {t : Tm} {A : Option Addr} {cap : Nat} (h : Ok w S Γ) (hT : TmC w S [.int .i64 t.k, .string t.s, .int .i64 t.n, .int .u64 t.re, .int .u64 t.im, .slice A t.xs.length cap] t) :
    Calls Try.prog 119 #[.agg #[.int .i64 t.k, .string t.s, .int .i64 t.n, .int .u64 t.re, .int .u64 t.im, .slice A t.xs.length cap], Value.nilFunc] w fun e w' => (∃ a b : Int, e = .returned (.tuple #[.int .i64 a, .int .i64 b, .int .i64 (May t : Nat)])) ∧ To w S w' S Γ := by
  have H := Lib.hid h; clear h
  have HT := Lib.hid hT; clear hT
  go_enter Try.func119, Try.ntmps119
  go_wp2
  refine wp_goto_loop 0 56 (fun f W => f 1 = Value.nilFunc ∧ ∃ (stk : List It) (c dp : Nat), f 4 = .int .i64 c ∧ f 5 = .int .i64 dp ∧ To w S W S (Row (f 7) 213 7 stk.length (stkV stk) :: Γ) ∧ (∀ i ∈ stk, TmC w S i.six i.t ∧ i.d ≤ 501) ∧
    finMay (stk.map fun i : It => (i.t, i.d)) c = May t ∧ c ≤ 2000 ∧ stk.length ≤ 1 + 20 * c ∧ dp ≤ 500) (fun f _ => 2000 - (intOf (f 4)).toNat) rfl ?pass ?first
  case first =>
    intro hp
    go_wp2
    go_step3
    go_step
    go_step
    apply hp
    refine ⟨rfl, rfl, rfl, [⟨t, A, cap, 1⟩], 0, 0, rfl, rfl, ?_, ?_, finMay_one t, by omega, by simp, by omega⟩
    · have h1 := ((H.out.to.alloc (.cells #[.int .i64 t.k, .string t.s, .int .i64 t.n, .int .u64 t.re, .int .u64 t.im, .slice A t.xs.length cap] 25)).allocPt #[.int .i64 t.k, .string t.s, .int .i64 t.n, .int .u64 t.re, .int .u64 t.im, .slice A t.xs.length cap, .int .i64 (1 : Nat)] 213).re fun k => k.ptRow 7 1 rfl (by simp [maxLen])
      simp only [World.size_alloc] at h1
      exact h1
    · simp
      exact HT.out
  case pass =>
    rintro f W ⟨f1, stk, c, dp, f4, f5, hO, hI, hq, hc, hl, hdp⟩
    cases stk with
    | nil =>
      obtain ⟨A7, c7, f7⟩ := hO.ok.rowShape
      have HO := Lib.hid hO.drop; clear hO
      have HQ := Lib.hid hq; clear hq hI
      show Code.wp _ _ _ ⟨#[f 0, f 1, f 2, f 3, f 4, f 5, f 6, f 7, f 8, f 9, f 10, f 11, f 12, f 13, f 14, f 15, f 16, f 17, f 18, f 19, f 20, f 21, f 22, f 23, f 24, f 25, f 26, f 27, f 28, f 29, f 30, f 31, f 32, f 33, f 34, f 35, f 36, f 37, f 38, f 39, f 40, f 41, f 42, f 43, f 44, f 45, f 46, f 47, f 48, f 49, f 50, f 51, f 52, f 53, f 54, f 55], []⟩ _
      rw [f1, f4, f5, f7]
      go_wp2
      simp only [Exit.jump]
      go_ret3
      exact ⟨⟨_, _, by rw [← HQ.out]; rfl⟩, HO.out⟩
    | cons top rest =>
      obtain ⟨g, c7, f7, hcap, hgl, hgS, hg⟩ := hO.ok.rowLast (stkV_length rest)
      obtain ⟨⟨k, s, n, re, im, xs⟩, A', cap', d⟩ := top
      have g0 := hg 0 _ rfl
      have g1 := hg 1 _ rfl
      have g2 := hg 2 _ rfl
      have g3 := hg 3 _ rfl
      have g4 := hg 4 _ rfl
      have g5 := hg 5 _ rfl
      have g6 := hg 6 _ rfl
      simp only [Tm.k, Tm.s, Tm.n, Tm.re, Tm.im, Tm.xs] at g0 g1 g2 g3 g4 g5 g6
      rw [Nat.add_zero] at g0
      clear hg
      simp only [List.map_cons] at hq
      rw [finMay_step _ _ _ _ hc] at hq
      obtain ⟨hT1, hd1⟩ := hI _ (List.mem_cons_self ..)
      simp only at hd1
      have hlr : rest.length ≤ 20 * c := by simp at hl; omega
      have hO1 := hO
      rw [f7] at hO1
      have hO2 := hO1.rowPop (stkV_length rest)
      show Code.wp _ _ _ ⟨#[f 0, f 1, f 2, f 3, f 4, f 5, f 6, f 7, f 8, f 9, f 10, f 11, f 12, f 13, f 14, f 15, f 16, f 17, f 18, f 19, f 20, f 21, f 22, f 23, f 24, f 25, f 26, f 27, f 28, f 29, f 30, f 31, f 32, f 33, f 34, f 35, f 36, f 37, f 38, f 39, f 40, f 41, f 42, f 43, f 44, f 45, f 46, f 47, f 48, f 49, f 50, f 51, f 52, f 53, f 54, f 55], []⟩ _
      rw [f1, f4, f5, f7]
      have HO := Lib.hid hO; clear hO
      have HO2 := Lib.hid hO2; clear hO1 hO2
      have HT1 := Lib.hid hT1; clear hT1
      have HI := Lib.hid hI; clear hI
      have HQ := Lib.hid hq; clear hq
      clear f1 f4 f5 f7
      have hne : ((rest.length : Int) + 1 == 0) = false := beq_eq_false_iff_ne.2 (by omega)
      by_cases hA : c = 2000
      · subst hA
        go_wp2
        simp only [Exit.jump]
        go_ret3
        exact ⟨⟨_, _, by rw [← HQ.out, if_pos (by simp)]; rfl⟩, (HO.out.drop).alloc _⟩
      · have hA' : ((c : Int) == 2000) = false := beq_eq_false_iff_ne.2 (by omega)
        by_cases hB : 500 < d
        · go_wp2
          simp only [Exit.jump]
          go_ret3
          exact ⟨⟨_, _, by rw [← HQ.out, if_pos (.inr hB)]; rfl⟩, (HO.out.drop).alloc _⟩
        · have hBi : (d : Int) ≤ 500 := by omega
          by_cases hC : one (.mk k s n re im xs) = 0
          case neg =>
            have hCi : ((one (.mk k s n re im xs) : Int) != 0) = true := by simp [bne]; omega
            have hB' : d ≤ 500 := by omega
            clear hB
            go_wp2_with (go_at_call 156; refine (one_spec (S := S) (cs := [.int .i64 k, .string s, .int .i64 n, .int .u64 re, .int .u64 im, .slice A' xs.length cap']) (HT1.out.to ((HO.out.alloc _)))).mono ?_; rintro e w' ⟨rfl, rfl⟩)
            simp only [Exit.jump]
            go_ret3
            exact ⟨⟨_, _, by rw [← HQ.out, if_neg (by omega), if_pos hC]; rfl⟩, ((HO.out.drop).alloc _).alloc _⟩
          case pos =>
            have hB' : d ≤ 500 := by omega
            clear hB
            have hxs : k = 5 → xs.length ≤ 20 := one_len (t := .mk k s n re im xs) hC
            go_wp2_with (first | (go_at_call 156; refine (one_spec (S := S) (cs := [.int .i64 k, .string s, .int .i64 n, .int .u64 re, .int .u64 im, .slice A' xs.length cap']) (HT1.out.to ((HO.out.alloc _)))).mono ?_; rintro e w' ⟨rfl, rfl⟩; rw [hC]) | (go_at_call 157; refine (push_spec (S := S) (Γ := Γ) (stk := rest) (((HO2.out.alloc _).alloc _).ok) ⟨.mk k s n re im xs, A', cap', d⟩ (HT1.out.to (((HO.out.alloc _).alloc _))) hxs (by omega) (by simp; omega)).mono ?_; rintro e w' ⟨v', l, rfl, hl1, hl2, hl3⟩))
            all_goals
              go_step3
              have hll : l.length ≤ 20 := by
                have e1 := congrArg List.length hl1
                rw [List.length_map] at e1
                rw [e1]
                exact pushed_le (t := .mk k s n re im xs) hxs
              refine ⟨rfl, ⟨rfl, rfl, rfl, l ++ rest, c + 1, _, rfl, rfl, ((HO2.out.alloc _).alloc _).trans hl3, ?_, ?_, by omega, by simp; omega, by omega⟩, ?_⟩
              · intro i hi
                rcases List.mem_append.1 hi with hi | hi
                · refine ⟨(hl2 i hi).back ((HO2.out.alloc _).alloc _), ?_⟩
                  have e2 : (i.t, i.d) ∈ pushed (.mk k s n re im xs) d := hl1 ▸ List.mem_map_of_mem hi
                  have e3 := pushed_d e2
                  simp only at e3
                  omega
                · exact HI.out i (List.mem_cons_of_mem _ hi)
              · rw [List.map_append, hl1, ← HQ.out, if_neg (by omega), if_neg (by simp [hC])]
              · show 2000 - (intOf (.int .i64 ((c : Int) + 1))).toNat < 2000 - (intOf (.int .i64 (c : Int))).toNat
                simp only [intOf]
                omega

set_option maxRecDepth 100000 in
set_option maxHeartbeats 1000000 in
/-- What the program's own May answers. -/
theorem tmay_spec {w : World} {S : Blk} {Γ : List Asn} {t : Tm} {cs : List Value} (h : Ok w S Γ) (hT : TmC w S cs t) :
    Calls Try.prog 86 #[.agg cs.toArray] w fun e w' => e = .returned (.int .i64 (May t : Nat)) ∧ To w S w' S Γ := by
  obtain ⟨A, cap, rfl⟩ := hT.form0
  have H := Lib.hid h; clear h
  have HT := Lib.hid hT; clear hT
  go_enter Try.func86, Try.ntmps86
  go_wp2_with (go_at_call 119; refine (walk_spec (S := S) (Γ := Γ) (H.out.to.alloc _).ok (HT.out.to (H.out.to.alloc _))).mono ?_; rintro e w' ⟨⟨a, b, rfl⟩, hw⟩)
  go_ret
  exact ⟨rfl, (H.out.to.alloc _).trans hw⟩
end Go.Proofs.Ytceahdlcbiialaa
