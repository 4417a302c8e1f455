/- What the reference's May answers: the walk. -/
import Derived.Test.YtceahdlcbiialaaC6
set_option linter.unusedVariables false
set_option linter.unusedSimpArgs false
namespace Go.Proofs.Ytceahdlcbiialaa
open Go.RowKit

set_option maxRecDepth 100000 in
set_option maxHeartbeats 4000000 in
theorem may_spec (t : Tm) : MayS t := by
  refine Tm.ind (P := MayS) ?_ t
  intro k s n re im xs ih w S Γ cs p d c e d' hO hT hB hd ed
  subst ed
  obtain ⟨A, cap, rfl, hrg, hA⟩ := hT.form
  simp only [Ranged, Tm.k, Tm.s, Tm.n, Tm.re, Tm.im, Tm.xs] at *
  obtain ⟨hk, hs, hn, hre, him, hxl⟩ := hrg
  have hq0 : w.cell? ⟨p, 0, none⟩ = some (.int .i64 (c : Int)) := hO.ptCell 0 _ rfl
  have hq1 : w.cell? ⟨p, 1, none⟩ = some (.int .i64 (e : Int)) := hO.ptCell 1 _ rfl
  have hf0 := hO.ptFree 0
  have hf1 := hO.ptFree 1
  have hplt := hO.ptLt
  have HA := Lib.hid hA; clear hA
  have IH := Lib.hid ih; clear ih
  have HT := Lib.hid hT; clear hT
  have HO := Lib.hid hO.to; clear hO
  obtain ⟨hc1, hc2, hc3⟩ := hB
  simp only at hc1 hc2 hc3
  by_cases he : e = 0
  case neg =>
    have hv : may (.mk k s n re im xs) d (c, e) = (c, e) := by rw [may_eq, if_pos he]
    rw [hv]
    have hb : ((e : Int) != 0) = true := by simp; omega
    clear hv HA IH hc2 he
    go_enter Try.func84, Try.ntmps84
    go_wp2
    refine bodyPost_ret (results_none rfl _ _ _) rfl ?_
    exact ⟨rfl, HO.out.alloc _⟩
  subst he
  have hcl : c ≤ 2000 := hc2 rfl
  clear hc2 hc1 hc3
  by_cases hbad : 2000 < c + 1 ∨ 500 < d
  · have hv : may (.mk k s n re im xs) d (c, 0) = (c + 1, 3) := by rw [may_eq, if_neg (by simp), if_pos hbad]
    rw [hv]
    clear hv HA IH
    by_cases h1 : 2000 < c + 1
    · clear hbad
      go_enter Try.func84, Try.ntmps84
      go_wp2
      go_end0
      exact ⟨rfl, ((HO.out.ptSet 0 (.int .i64 ((c : Int) + 1))).ptSet 1 (.int .i64 3)).alloc _⟩
    · have h2 : 500 < d := by omega
      clear hbad
      go_enter Try.func84, Try.ntmps84
      go_wp2
      go_end0
      exact ⟨rfl, ((HO.out.ptSet 0 (.int .i64 ((c : Int) + 1))).ptSet 1 (.int .i64 3)).alloc _⟩
  have hg1 : c + 1 ≤ 2000 := by omega
  have hg2 : d ≤ 500 := by omega
  have F1 := Lib.hid ((HO.out.ptSet 0 (.int .i64 ((c : Int) + 1))).ptSet 1 (.int .i64 1))
  have F3 := Lib.hid ((HO.out.ptSet 0 (.int .i64 ((c : Int) + 1))).ptSet 1 (.int .i64 3))
  have F0 := Lib.hid (HO.out.ptSet 0 (.int .i64 ((c : Int) + 1)))
  by_cases hb1 : k < 1 ∨ 5 < k ∨ (k = 1 ∧ n < 0) ∨ (k = 5 ∧ xs.length = 0)
  · have h1 : one (.mk k s n re im xs) = 1 := one_1 (t := .mk k s n re im xs) hb1
    have hv : may (.mk k s n re im xs) d (c, 0) = (c + 1, 1) := by rw [may_eq, if_neg (by simp), if_neg hbad, h1, if_pos (by simp)]
    rw [hv]
    clear hv HA IH hbad h1
    by_cases x1 : k < 1
    · clear hb1
      go_enter Try.func84, Try.ntmps84
      go_wp2
      go_end0
      exact ⟨rfl, F1.out.alloc _⟩
    · by_cases x2 : 5 < k
      · clear hb1
        go_enter Try.func84, Try.ntmps84
        go_wp2
        go_end0
        exact ⟨rfl, F1.out.alloc _⟩
      · by_cases x3 : k = 1 ∧ n < 0
        · obtain ⟨rfl, x3⟩ := x3
          clear hb1
          go_enter Try.func84, Try.ntmps84
          go_wp2
          go_end0
          exact ⟨rfl, F1.out.alloc _⟩
        · have x4 : k = 5 ∧ xs.length = 0 := by omega
          obtain ⟨rfl, x4⟩ := x4
          have x4' : ((xs.length : Int) == 0) = true := by simp [x4]
          clear hb1 x3 x4
          go_enter Try.func84, Try.ntmps84
          go_wp2
          go_end0
          exact ⟨rfl, F1.out.alloc _⟩
  by_cases hb2 : ((k = 2 ∨ k = 5) ∧ 200 < s.size) ∨ (k = 5 ∧ 20 < xs.length)
  · have h1 : one (.mk k s n re im xs) = 3 := one_3 (t := .mk k s n re im xs) hb1 hb2
    have hv : may (.mk k s n re im xs) d (c, 0) = (c + 1, 3) := by rw [may_eq, if_neg (by simp), if_neg hbad, h1, if_pos (by simp)]
    rw [hv]
    clear hv HA IH hbad h1
    by_cases x2 : k = 2
    · subst x2
      have y1 : 200 < s.size := by omega
      clear hb1 hb2
      go_enter Try.func84, Try.ntmps84
      go_wp2
      go_end0
      exact ⟨rfl, F3.out.alloc _⟩
    · obtain rfl : k = 5 := by omega
      have y0 : ((xs.length : Int) == 0) = false := beq_eq_false_iff_ne.2 (by omega)
      have y0' : 0 < xs.length := by omega
      by_cases y1 : 200 < s.size
      · clear hb1 hb2
        go_enter Try.func84, Try.ntmps84
        go_wp2
        go_end0
        exact ⟨rfl, F3.out.alloc _⟩
      · have y2 : 20 < xs.length := by omega
        clear hb1 hb2
        go_enter Try.func84, Try.ntmps84
        go_wp2
        go_end0
        exact ⟨rfl, F3.out.alloc _⟩
  have h1 : one (.mk k s n re im xs) = 0 := one_0 (t := .mk k s n re im xs) hb1 hb2
  by_cases x5 : k = 5
  case neg =>
    have hv : may (.mk k s n re im xs) d (c, 0) = (c + 1, 0) := by rw [may_eq, if_neg (by simp), if_neg hbad, h1, if_neg (by simp), if_neg x5]
    rw [hv]
    clear hv HA IH hbad h1
    by_cases x1 : k = 1
    · subst x1
      have y1 : 0 ≤ n := by omega
      clear hb1 hb2
      go_enter Try.func84, Try.ntmps84
      go_wp2
      go_end0
      exact ⟨rfl, F0.out.alloc _⟩
    · by_cases x2 : k = 2
      · subst x2
        have y1 : s.size ≤ 200 := by omega
        clear hb1 hb2
        go_enter Try.func84, Try.ntmps84
        go_wp2
        go_end0
        exact ⟨rfl, F0.out.alloc _⟩
      · by_cases x3 : k = 3
        · subst x3
          clear hb1 hb2
          go_enter Try.func84, Try.ntmps84
          go_wp2
          go_end0
          exact ⟨rfl, F0.out.alloc _⟩
        · obtain rfl : k = 4 := by omega
          clear hb1 hb2
          go_enter Try.func84, Try.ntmps84
          go_wp2
          go_end0
          exact ⟨rfl, F0.out.alloc _⟩
  subst x5
  have y0 : ((xs.length : Int) == 0) = false := beq_eq_false_iff_ne.2 (by omega)
  have y0' : 0 < xs.length := by omega
  have y1 : s.size ≤ 200 := by omega
  have y2 : xs.length ≤ 20 := by omega
  have hv : may (.mk 5 s n re im xs) d (c, 0) = mayL xs (d + 1) (c + 1, 0) := by rw [may_eq, if_neg (by simp), if_neg hbad, h1, if_neg (by simp), if_pos rfl]
  rw [hv]
  clear hv hb1 hb2 h1 hbad
  exact may_tail IH.out HA.out HT.out HO.out y0 y0' y1 y2 hg1 hg2 hn hre him hs
end Go.Proofs.Ytceahdlcbiialaa
