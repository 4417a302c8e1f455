/- What the program's own May answers: one, push. -/
import Derived.Test.YtceahdlcbiialaaA5
import Derived.Test.YtceahdlcbiialaaC6
set_option linter.unusedVariables false
set_option linter.unusedSimpArgs false
namespace Go.Proofs.Ytceahdlcbiialaa
open Go.RowKit
attribute [local go_sem] Oper.semAt_some

set_option maxRecDepth 100000 in
set_option maxHeartbeats 1000000 in
theorem backward_spec (A : Option Addr) (n cap : Nat) (w : World) :
    Calls Try.prog 160 #[.slice A n cap] w fun e w' => e = .returned (.func (.func 165) #[] #[.pointer (some ⟨w.heap.size, 0, none⟩)]) ∧ w' = w.alloc (.cells #[.slice A n cap] 23) := by
  go_enter Try.func160, Try.ntmps160
  go_wp2
  go_ret
  exact ⟨rfl, rfl⟩

set_option maxRecDepth 100000 in
set_option maxHeartbeats 4000000 in
theorem one_spec {w : World} {S : Blk} {cs : List Value} {t : Tm} (hT : TmC w S cs t) :
    Calls Try.prog 156 #[.agg cs.toArray] w fun e w' => e = .returned (.int .i64 (one t : Nat)) ∧ w' = w.alloc (.cells cs.toArray 25) := by
  obtain ⟨k, s, n, re, im, xs⟩ := t
  obtain ⟨A, cap, rfl, hrg, -⟩ := hT.form
  clear hT
  simp only [Ranged, Tm.k, Tm.s, Tm.n, Tm.re, Tm.im, Tm.xs] at *
  obtain ⟨hk, hs, hn, hre, him, hxl⟩ := hrg
  by_cases hb1 : k < 1 ∨ 5 < k ∨ (k = 1 ∧ n < 0) ∨ (k = 5 ∧ xs.length = 0)
  · rw [one_1 (t := .mk k s n re im xs) hb1]
    by_cases x1 : k < 1 ∨ 5 < k
    · have y1 : (k == 1) = false := beq_eq_false_iff_ne.2 (by omega)
      have y2 : (k == 2) = false := beq_eq_false_iff_ne.2 (by omega)
      have y3 : (k == 3) = false := beq_eq_false_iff_ne.2 (by omega)
      have y4 : (k == 4) = false := beq_eq_false_iff_ne.2 (by omega)
      have y5 : (k == 5) = false := beq_eq_false_iff_ne.2 (by omega)
      clear hb1 x1
      go_enter Try.func156, Try.ntmps156
      go_wp2
      go_ret
      exact ⟨rfl, rfl⟩
    · by_cases x3 : k = 1 ∧ n < 0
      · obtain ⟨rfl, x3⟩ := x3
        clear hb1
        go_enter Try.func156, Try.ntmps156
        go_wp2
        go_ret
        exact ⟨rfl, rfl⟩
      · have x4 : k = 5 ∧ xs.length = 0 := by omega
        obtain ⟨rfl, x4⟩ := x4
        have x4' : ((xs.length : Int) == 0) = true := by simp [x4]
        clear hb1 x3 x4
        go_enter Try.func156, Try.ntmps156
        go_wp2
        go_ret
        exact ⟨rfl, rfl⟩
  by_cases hb2 : ((k = 2 ∨ k = 5) ∧ 200 < s.size) ∨ (k = 5 ∧ 20 < xs.length)
  · rw [one_3 (t := .mk k s n re im xs) hb1 hb2]
    by_cases x2 : k = 2
    · subst x2
      have y1 : 200 < s.size := by omega
      clear hb1 hb2
      go_enter Try.func156, Try.ntmps156
      go_wp2
      go_ret
      exact ⟨rfl, rfl⟩
    · obtain rfl : k = 5 := by omega
      have y0 : ((xs.length : Int) == 0) = false := beq_eq_false_iff_ne.2 (by omega)
      by_cases y1 : 200 < s.size
      · clear hb1 hb2
        go_enter Try.func156, Try.ntmps156
        go_wp2
        go_ret
        exact ⟨rfl, rfl⟩
      · have y2 : 20 < xs.length := by omega
        clear hb1 hb2
        go_enter Try.func156, Try.ntmps156
        go_wp2
        go_ret
        exact ⟨rfl, rfl⟩
  rw [one_0 (t := .mk k s n re im xs) hb1 hb2]
  by_cases x1 : k = 1
  · subst x1
    have y1 : 0 ≤ n := by omega
    clear hb1 hb2
    go_enter Try.func156, Try.ntmps156
    go_wp2
    go_ret
    exact ⟨rfl, rfl⟩
  · by_cases x2 : k = 2
    · subst x2
      have y1 : s.size ≤ 200 := by omega
      clear hb1 hb2
      go_enter Try.func156, Try.ntmps156
      go_wp2
      go_ret
      exact ⟨rfl, rfl⟩
    · by_cases x3 : k = 5
      · subst x3
        have y0 : ((xs.length : Int) == 0) = false := beq_eq_false_iff_ne.2 (by omega)
        have y1 : s.size ≤ 200 := by omega
        have y2 : xs.length ≤ 20 := by omega
        clear hb1 hb2
        go_enter Try.func156, Try.ntmps156
        go_wp2
        go_ret
        exact ⟨rfl, rfl⟩
      · by_cases x4 : k = 3
        · subst x4
          clear hb1 hb2
          go_enter Try.func156, Try.ntmps156
          go_wp2
          go_ret
          exact ⟨rfl, rfl⟩
        · obtain rfl : k = 4 := by omega
          clear hb1 hb2
          go_enter Try.func156, Try.ntmps156
          go_wp2
          go_ret
          exact ⟨rfl, rfl⟩

def pushed (t : Tm) (d : Nat) : List (Tm × Nat) := if t.k = 5 then t.xs.map (·, d + 1) else []
theorem info213 : (Try.prog.info? 213).map (fun i => (i.zero, i.size, i.bytes)) = some (some (.agg #[.int .i64 0, .string ⟨#[]⟩, .int .i64 0, .int .u64 0, .int .u64 0, .slice none 0 0, .int .i64 0]), 7, 80) := by kernel_rfl

/-- The box of the stack, and the stack, with k of the arguments on it. -/
def PushI (w : World) (S : Blk) (b : Nat) (xs : List Tm) (d : Nat) (stk : List It) (k : Nat) : Asn :=
  Ex fun l : List It => Ex fun v : Value => Two (Fact (l.map (fun i : It => (i.t, i.d)) = (xs.drop (xs.length - k)).map (·, d + 1) ∧ ∀ i ∈ l, TmC w S i.six i.t)) (Two (Pt b #[v] 214) (Row v 213 7 (l ++ stk).length (stkV (l ++ stk))))
theorem Ok.pushI {w0 w : World} {S0 S : Blk} {b d k : Nat} {xs : List Tm} {stk : List It} {Γ : List Asn} : Ok w S (PushI w0 S0 b xs d stk k :: Γ) ↔ ∃ (l : List It) (v : Value), (l.map (fun i : It => (i.t, i.d)) = (xs.drop (xs.length - k)).map (·, d + 1) ∧ ∀ i ∈ l, TmC w0 S0 i.six i.t) ∧ Ok w S (Pt b #[v] 214 :: Row v 213 7 (l ++ stk).length (stkV (l ++ stk)) :: Γ) := by
  unfold PushI
  rw [Ok.ex]
  refine exists_congr fun l => ?_
  rw [Ok.ex]
  refine exists_congr fun v => ?_
  rw [Ok.two, Ok.fact, Ok.two]

set_option maxRecDepth 100000 in
set_option maxHeartbeats 4000000 in
theorem push_spec {w : World} {S : Blk} {Γ : List Asn} {v : Value} {stk : List It} (h : Ok w S (Row v 213 7 stk.length (stkV stk) :: Γ)) (top : It) (hT : TmC w S top.six top.t) (hx : top.t.k = 5 → top.t.xs.length ≤ 20) (hs : stk.length ≤ 50000) (hd : top.d ≤ 1000) :
    Calls Try.prog 157 #[v, .agg top.v.toArray] w fun e w' => ∃ v' l, e = .returned v' ∧ l.map (fun i : It => (i.t, i.d)) = pushed top.t top.d ∧ (∀ i ∈ l, TmC w S i.six i.t) ∧ To w S w' S (Row v' 213 7 (l ++ stk).length (stkV (l ++ stk)) :: Γ) := by
  obtain ⟨t, A, cap, d⟩ := top
  obtain ⟨k, s, n, re, im, xs⟩ := t
  obtain ⟨_, _, e0, hrg, hA⟩ := hT.form
  simp only [List.cons.injEq, Value.slice.injEq, and_true, true_and] at e0
  obtain ⟨rfl, rfl⟩ := e0
  clear hT
  simp only [Ranged, It.v, Tm.k, Tm.s, Tm.n, Tm.re, Tm.im, Tm.xs] at *
  obtain ⟨hk, hsz, hn, hre, him, hxl⟩ := hrg
  obtain ⟨A0, c0, rfl⟩ := h.rowShape
  have H := Lib.hid h; clear h
  by_cases h5 : k = 5
  case neg =>
    have y5 : (k == 5) = false := beq_eq_false_iff_ne.2 h5
    refine callsIn_wide.1 (callsIn_of_wp_marks (n := 5) Try.func157 rfl trivial (wpIn_wide.2 ?_) rfl)
    simp only [Try.ntmps157, List.size_toArray, List.length_cons, List.length_nil, Nat.reduceAdd, Nat.reduceSub, Array.replicate_succ, Array.replicate_zero, List.push_toArray, List.append_toArray, List.nil_append, List.cons_append]
    go_wp2
    refine bodyM_ret (results_tmp rfl _ _ _) ?_
    exact ⟨_, [], rfl, by simp [pushed, h5, Tm.k], by simp, (H.out.to.alloc _).alloc _⟩
  subst h5
  replace hx := hx rfl
  refine callsIn_wide.1 (callsIn_of_wp_marks (n := 5) Try.func157 rfl trivial (wpIn_wide.2 ?_) rfl)
  simp only [Try.ntmps157, List.size_toArray, List.length_cons, List.length_nil, Nat.reduceAdd, Nat.reduceSub, Array.replicate_succ, Array.replicate_zero, List.push_toArray, List.append_toArray, List.nil_append, List.cons_append]
  go_wp2_with (go_at_call 160; refine (backward_spec _ _ _ _).mono ?_; rintro e w' ⟨rfl, rfl⟩)
  obtain ⟨S1, hS1⟩ : ∃ S1 : Blk, S1 = fun x => (S x ∨ x = w.heap.size + 1) ∨ x = w.heap.size + 1 + 1 := ⟨_, rfl⟩
  have HS := Lib.hid hS1
  have hA1 : To w S (((w.alloc (.cells #[.slice A0 stk.length c0] 214)).alloc (.cells #[.int .i64 5, .string s, .int .i64 n, .int .u64 re, .int .u64 im, .slice A xs.length cap, .int .i64 (d : Int)] 213)).alloc (.cells #[.slice A xs.length cap] 23)) S1
      (PushI w S w.heap.size xs d stk 0 :: Γ) := by
    have h1 := (H.out.to.allocPt #[.slice A0 stk.length c0] 214).allocPt #[.int .i64 5, .string s, .int .i64 n, .int .u64 re, .int .u64 im, .slice A xs.length cap, .int .i64 (d : Int)] 213
    have h2 := h1.trans h1.ok.seal1
    have h3 := h2.allocPt #[.slice A xs.length cap] 23
    have h4 := h3.trans h3.ok.seal1
    simp only [World.size_alloc] at h4
    rw [hS1]
    exact h4.re fun k => Ok.pushI.2 ⟨[], _, ⟨by simp, by simp⟩, k⟩
  clear hS1
  refine wp_backward (Sk := S) (S := S1) (xs := xs) (A := A) (cap := cap) (B := w.heap.size + 1 + 1) (fun k => PushI w S w.heap.size xs d stk k :: Γ) rfl rfl (by rw [HS.out]; exact .inr rfl) ?hB (hA.in (fun _ h => h) hA1) (by rw [HS.out]; exact fun _ h => .inl (.inl h)) hxl hA1.ok ?round ?done
  case hB => simp [go_sem]
  case round =>
    intro l D r k j x A' cap' W hj hx' hxT hW
    obtain ⟨st, v, hf, hok⟩ := Ok.pushI.1 hW.ok.p2
    obtain ⟨m, hm⟩ : ∃ m, m = (st ++ stk).length := ⟨_, rfl⟩
    rw [← hm] at hok
    obtain ⟨A2, c2, rfl⟩ := hok.p1.rowShape
    have hb : W.cell? ⟨w.heap.size, 0, none⟩ = some (.slice A2 m c2) := hok.ptCell 0 _ rfl
    have hbs : w.heap.size < W.heap.size := hok.ptLt
    gi_wp2
    refine ⟨Raw D (.deferred (some [])) :: Pt W.heap.size #[.int .i64 x.k, .string x.s, .int .i64 x.n, .int .u64 x.re, .int .u64 x.im, .slice A' x.xs.length cap'] 25 :: Pt w.heap.size #[.slice A2 m c2] 214 :: Row (.slice A2 m c2) 213 7 m (stkV (st ++ stk)) :: Γ, ?_, ?_⟩
    · exact ((hW.re fun _ => hok).allocPt _ _).p4.p4
    intro W2 h2
    have g0 : W2.cell? ⟨W.heap.size, 0, none⟩ = some (.int .i64 x.k) := h2.ok.p2.ptCell 0 _ rfl
    have g1 : W2.cell? ⟨W.heap.size, 1, none⟩ = some (.string x.s) := h2.ok.p2.ptCell 1 _ rfl
    have g2 : W2.cell? ⟨W.heap.size, 2, none⟩ = some (.int .i64 x.n) := h2.ok.p2.ptCell 2 _ rfl
    have g3 : W2.cell? ⟨W.heap.size, 3, none⟩ = some (.int .u64 x.re) := h2.ok.p2.ptCell 3 _ rfl
    have g4 : W2.cell? ⟨W.heap.size, 4, none⟩ = some (.int .u64 x.im) := h2.ok.p2.ptCell 4 _ rfl
    have g5 : W2.cell? ⟨W.heap.size, 5, none⟩ = some (.slice A' x.xs.length cap') := h2.ok.p2.ptCell 5 _ rfl
    have gb : W2.cell? ⟨w.heap.size, 0, none⟩ = some (.slice A2 m c2) := h2.ok.p3.ptCell 0 _ rfl
    have gd : W2.cell? ⟨w.heap.size + 1, 6, none⟩ = some (.int .i64 (d : Int)) := h2.cell (a := ⟨w.heap.size + 1, 6, none⟩) (by rw [HS.out]; exact .inl (.inr rfl)) (by simp [go_sem])
    have hlen : m ≤ 60000 := by
      rw [hm]
      have := congrArg List.length hf.1
      simp at this
      simp
      omega
    have HM := Lib.hid hm; clear hm
    have H2 := Lib.hid h2.p4; clear h2
    have HF := Lib.hid hf; clear hf
    have HW := Lib.hid hW; clear hW
    have HT := Lib.hid hxT; clear hxT
    clear hb hok hbs
    gi_wp2_with (gi_at_builtin; refine wpListIn_append_new rfl (.tmp 17) (.tmp 23) 214 213 _ 7 80 rfl Try.underlying214 info213 rfl (by decide) (by decide) H2.out rfl #[.int .i64 x.k, .string x.s, .int .i64 x.n, .int .u64 x.re, .int .u64 x.im, .slice A' x.xs.length cap', .int .i64 ((d : Int) + 1)] rfl rfl (by simp [Value.oneCell']) (by omega) ?_)
    intro A3 c3 W3 H3
    have hp := H3.p4
    have hb3 : W3.cell? ⟨w.heap.size, 0, none⟩ = some (.slice A2 m c2) := hp.ok.ptCell 0 _ rfl
    have hf3 := hp.ok.ptFree 0
    have HP := Lib.hid hp; clear hp H3
    gi_wp2
    have H4 := (HP.out.ptSet 0 (.slice A3 (m + 1) c3)).p4.drop
    refine To.p2 (To.p2 (H4.re fun kk => Ok.pushI.2 ⟨⟨x, A', cap', d + 1⟩ :: st, .slice A3 (m + 1) c3, ⟨?_, ?_⟩, ?_⟩))
    · have hd := List.drop_eq_getElem_cons (l := xs) (i := j) (by omega)
      have e1 : xs.length - (k + 1) = j := by omega
      have e2 : xs.length - k = j + 1 := by omega
      have hf := HF.out.1
      rw [e2] at hf
      rw [e1, hd, List.map_cons, List.map_cons, hf, (List.getElem?_eq_some_iff.1 hx').2]
    · intro i hi
      rcases List.mem_cons.1 hi with rfl | hi
      · exact (HT.out.mono (fun a v ha hv => (World.cell?_of_block (w := W) (HW.out.kept a.block (by rw [HS.out]; exact .inl (.inl ha))).symm).trans hv) (fun _ h => h)).back hA1
      · exact HF.out.2 i hi
    · have e3 : (⟨x, A', cap', d + 1⟩ :: st ++ stk : List It).length = m + 1 := by rw [HM.out]; rfl
      rw [e3]
      exact kk
  case done =>
    intro D W hW
    obtain ⟨st, v, hf, hok⟩ := Ok.pushI.1 hW.ok.p1
    have hb : W.cell? ⟨w.heap.size, 0, none⟩ = some v := hok.ptCell 0 _ rfl
    simp only [Exit.inBlock, Exit.then]
    go_wp2
    refine bodyM_done (w0 := w) (S0 := S) (S := S) (hA1.trans (hW.re fun _ => hok.p2)).plain (fun _ => results_tmp rfl _ _ _) (fun W' h' => ?_)
    exact ⟨_, st, rfl, by rw [hf.1]; simp [pushed, Tm.k, Tm.xs], hf.2, h'.drop⟩
end Go.Proofs.Ytceahdlcbiialaa
