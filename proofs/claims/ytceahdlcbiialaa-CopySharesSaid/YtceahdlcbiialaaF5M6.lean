/- What the reference's functions that only look at terms answer. What the reference's May answers. -/
import Derived.Test.YtceahdlcbiialaaF5M4
set_option linter.unusedVariables false
set_option linter.unusedSimpArgs false
namespace Go.Proofs.Ytceahdlcbiialaa
open Go.RowKit

theorem light_small (k : Int) (s : ByteArray) (n re im : Int) (xs : List Tm) (d : Nat) (left : Int) : lightT (.mk k s n re im xs) d left = if left < 1 ∨ 700 < d ∨ 400 < s.size ∨ 60 < xs.length then -1 else lightL xs (d + 1) (left - 1) := by
  simp [lightT]
theorem lightL_drop (l : List Tm) (k d : Nat) (left : Int) (t : Tm) (hk : l[k]? = some t) : lightL (l.drop k) d left = if lightT t d left < 0 then -1 else lightL (l.drop (k + 1)) d (lightT t d left) := by
  have hlt := (List.getElem?_eq_some_iff.1 hk).1
  have e : l[k] = t := (List.getElem?_eq_some_iff.1 hk).2
  rw [List.drop_eq_getElem_cons hlt, e]
  simp [lightL]
mutual
theorem lightT_le : ∀ (t : Tm) (d : Nat) (left : Int), -1 ≤ lightT t d left ∧ (lightT t d left ≤ left ∨ lightT t d left = -1)
  | .mk k s n re im xs, d, left => by
    rw [light_small]
    split
    · exact ⟨Int.le_refl _, .inr rfl⟩
    · rename_i h
      have := lightL_le xs (d + 1) (left - 1) (by omega)
      exact ⟨this.1, this.2.imp (fun h => by omega) id⟩
theorem lightL_le : ∀ (l : List Tm) (d : Nat) (left : Int), 0 ≤ left → -1 ≤ lightL l d left ∧ (lightL l d left ≤ left ∨ lightL l d left = -1)
  | [], d, left, h => by simp [lightL]; omega
  | t :: r, d, left, h => by
    have h1 := lightT_le t d left
    simp only [lightL]
    split
    · exact ⟨Int.le_refl _, .inr rfl⟩
    · have h2 := lightL_le r d (lightT t d left) (by omega)
      exact ⟨h2.1, h2.2.imp (fun h => by omega) id⟩
end
def LightS (t : Tm) : Prop := ∀ (w : World) (S : Blk) (cs : List Value) (d : Nat) (left d' : Int), TmC w S cs t → d ≤ 701 → -1 ≤ left → left ≤ 4000 → d' = d →
    Calls Try.prog 83 #[.agg cs.toArray, .int .i64 d', .int .i64 left] w fun e w' => e = .returned (.int .i64 (lightT t d left)) ∧ Below w.heap.size w w'
set_option maxRecDepth 100000 in
set_option maxHeartbeats 1000000 in
theorem light_spec (t : Tm) : LightS t := by
  refine Tm.ind (P := LightS) ?_ t
  intro k s n re im xs ih w S cs d left d' hT hd hl0 hl1 ed
  subst ed
  obtain ⟨A, cap, rfl, hrg, hA⟩ := hT.form
  simp only [Ranged, Tm.k, Tm.s, Tm.n, Tm.re, Tm.im, Tm.xs] at *
  obtain ⟨hk, hs, hn, hre, him, hxl⟩ := hrg
  have HA := Lib.hid hA; clear hA
  have IH := Lib.hid ih; clear ih
  have HT := Lib.hid hT; clear hT
  by_cases hbad : left < 1 ∨ 700 < d ∨ 400 < s.size ∨ 60 < xs.length
  · have hv : lightT (.mk k s n re im xs) d left = -1 := by rw [light_small, if_pos hbad]
    rw [hv]
    clear hv HA IH
    by_cases h1 : left < 1
    · clear hbad
      go_enter Try.func83, Try.ntmps83
      go_wp2
      go_ret
      exact ⟨rfl, (Below.refl _ _).alloc (Nat.le_refl _) _⟩
    · by_cases h2 : 700 < d
      · clear hbad
        go_enter Try.func83, Try.ntmps83
        go_wp2
        go_ret
        exact ⟨rfl, (Below.refl _ _).alloc (Nat.le_refl _) _⟩
      · by_cases h3 : 400 < s.size
        · clear hbad
          go_enter Try.func83, Try.ntmps83
          go_wp2
          go_ret
          exact ⟨rfl, (Below.refl _ _).alloc (Nat.le_refl _) _⟩
        · have h4 : 60 < xs.length := by omega
          clear hbad
          go_enter Try.func83, Try.ntmps83
          go_wp2
          go_ret
          exact ⟨rfl, (Below.refl _ _).alloc (Nat.le_refl _) _⟩
  · have h1 : 1 ≤ left := by omega
    have h2 : d ≤ 700 := by omega
    have h3 : s.size ≤ 400 := by omega
    have h4 : xs.length ≤ 60 := by omega
    have hv : lightT (.mk k s n re im xs) d left = lightL (xs.drop 0) (d + 1) (left - 1) := by rw [light_small, if_neg hbad]; rfl
    have HV := Lib.hid hv
    clear hv hbad
    go_enter Try.func83, Try.ntmps83
    go_wp2
    go_loopw [2, 32] (fun l i wr => ∃ (j : Nat) (lv : Int), i = .int .i64 j ∧ l = .int .i64 lv ∧ j ≤ xs.length ∧ 0 ≤ lv ∧ lv ≤ 3999 ∧ Below w.heap.size w wr ∧ lightT (.mk k s n re im xs) d left = lightL (xs.drop j) (d + 1) lv) (fun _ i _ => xs.length - (intOf i).toNat)
    case atStart => exact ⟨0, _, rfl, rfl, Nat.zero_le _, by omega, by omega, (Below.refl _ _).alloc (Nat.le_refl _) _, HV.out⟩
    case round =>
      obtain ⟨j, lv, rfl, rfl, hj, hlv0, hlv1, hb, hq⟩ := hrel
      clear HV
      by_cases hlt : j < xs.length
      · have hx : xs[j]? = some xs[j] := List.getElem?_eq_getElem hlt
        rw [lightL_drop _ _ _ _ _ hx] at hq
        have hmem : xs[j] ∈ xs := List.getElem_mem _
        obtain ⟨gb, go, A', cap', rfl, hS, g0, g1, g2, g3, g4, g5, hxT⟩ := HA.out j _ hx
        have hc : ∀ a v, w.cell? a = some v → wr.cell? a = some v := fun a v h => (hb.cell (World.block_lt_of_cell? w a h)).trans h
        have f0 := hc _ _ g0
        have f1 := hc _ _ g1
        have f2 := hc _ _ g2
        have f3 := hc _ _ g3
        have f4 := hc _ _ g4
        have f5 := hc _ _ g5
        clear g0 g1 g2 g3 g4 g5 hc
        have IX : LightS xs[j] := IH.out _ hmem
        have hle := lightT_le xs[j] (d + 1) lv
        have HX := Lib.hid hxT; clear hxT
        clear hx hmem
        have HB := Lib.hid hb; clear hb
        have HQ := Lib.hid hq; clear hq
        go_wp2_with fail
        have hb2 := (HB.out.alloc HB.out.size (.cells #[.int .i64 xs[j].k, .string xs[j].s, .int .i64 xs[j].n, .int .u64 xs[j].re, .int .u64 xs[j].im, .slice A' xs[j].xs.length cap'] 25))
        refine (IX _ S _ (d + 1) lv _ (HX.out.bel hb2) (by omega) (by omega) (by omega) (by simp)).mono ?_
        rintro e w2 ⟨rfl, hb3⟩
        have HB3 := Lib.hid (hb2.trans (hb3.mono hb2.size))
        clear hb2 hb3 f0 f1 f2 f3 f4 f5
        by_cases hneg : lightT xs[j] (d + 1) lv < 0
        · rw [if_pos hneg] at HQ
          go_wp2
          go_ret
          exact ⟨by rw [HQ.out]; rfl, HB3.out⟩
        · rw [if_neg hneg] at HQ
          go_wp2
          go_roundw
          case rel => exact ⟨j + 1, _, by go_num, rfl, by omega, by omega, by omega, HB3.out, HQ.out⟩
          case measure => simp [intOf]; omega
      · have hje : j = xs.length := by omega
        have hf : lightT (.mk k s n re im xs) d left = lv := by rw [hq, hje]; simp [lightL]
        have HF := Lib.hid hf; clear hf hq hje
        go_wp2
        go_ret
        exact ⟨by rw [HF.out]; rfl, hb⟩

theorem Light_drop (l : List Tm) (k : Nat) (left : Int) (t : Tm) (hk : l[k]? = some t) : Light (l.drop k) k left = if 100 ≤ k ∨ lightT t 1 left < 0 then false else Light (l.drop (k + 1)) (k + 1) (lightT t 1 left) := by
  have hlt := (List.getElem?_eq_some_iff.1 hk).1
  have e : l[k] = t := (List.getElem?_eq_some_iff.1 hk).2
  rw [List.drop_eq_getElem_cons hlt, e]
  simp [Light]
set_option maxRecDepth 100000 in
set_option maxHeartbeats 1000000 in
theorem Light_spec {w : World} {S : Blk} {A : Option Addr} {cap : Nat} {l : List Tm} (h : Kids w S A l) (hl : l.length ≤ 140737488351232) :
    Calls Try.prog 23 #[.slice A l.length cap] w fun e w' => e = .returned (.bool (Light l 0 4000)) ∧ Below w.heap.size w w' := by
  have H := Lib.hid h; clear h
  go_enter Try.func23, Try.ntmps23
  go_wp2
  go_loopw [3, 8] (fun l3 i wr => ∃ (j : Nat) (lv : Int), i = .int .i64 j ∧ l3 = .int .i64 lv ∧ j ≤ l.length ∧ j ≤ 100 ∧ 0 ≤ lv ∧ lv ≤ 4000 ∧ Below w.heap.size w wr ∧ Light l 0 4000 = Light (l.drop j) j lv) (fun _ i _ => l.length - (intOf i).toNat)
  case atStart => exact ⟨0, _, rfl, rfl, Nat.zero_le _, by omega, by omega, by omega, Below.refl _ _, rfl⟩
  case round =>
    obtain ⟨j, lv, rfl, rfl, hj, hj100, hlv0, hlv1, hb, hq⟩ := hrel
    by_cases hlt : j < l.length
    · have hx : l[j]? = some l[j] := List.getElem?_eq_getElem hlt
      rw [Light_drop _ _ _ _ hx] at hq
      obtain ⟨gb, go, A', cap', rfl, hS, g0, g1, g2, g3, g4, g5, hxT⟩ := H.out j _ hx
      have hc : ∀ a v, w.cell? a = some v → wr.cell? a = some v := fun a v h => (hb.cell (World.block_lt_of_cell? w a h)).trans h
      have f0 := hc _ _ g0
      have f1 := hc _ _ g1
      have f2 := hc _ _ g2
      have f3 := hc _ _ g3
      have f4 := hc _ _ g4
      have f5 := hc _ _ g5
      clear g0 g1 g2 g3 g4 g5 hc
      have hle := lightT_le l[j] 1 lv
      have HX := Lib.hid hxT; clear hxT
      clear hx
      have HB := Lib.hid hb; clear hb
      have HQ := Lib.hid hq; clear hq
      go_wp2_with fail
      have hb2 := (HB.out.alloc HB.out.size (.cells #[.int .i64 l[j].k, .string l[j].s, .int .i64 l[j].n, .int .u64 l[j].re, .int .u64 l[j].im, .slice A' l[j].xs.length cap'] 25))
      refine (light_spec l[j] _ S _ 1 lv _ (HX.out.bel hb2) (by omega) (by omega) (by omega) (by simp)).mono ?_
      rintro e w2 ⟨rfl, hb3⟩
      have HB3 := Lib.hid (hb2.trans (hb3.mono hb2.size))
      clear hb2 hb3 f0 f1 f2 f3 f4 f5
      by_cases hbad : 100 ≤ j ∨ lightT l[j] 1 lv < 0
      · rw [if_pos hbad] at HQ
        by_cases h1 : 100 ≤ j
        · clear hbad
          go_wp2
          go_ret
          exact ⟨by rw [HQ.out]; rfl, HB3.out⟩
        · have h2 : lightT l[j] 1 lv < 0 := by omega
          clear hbad
          go_wp2
          go_ret
          exact ⟨by rw [HQ.out]; rfl, HB3.out⟩
      · rw [if_neg hbad] at HQ
        have h1 : j < 100 := by omega
        have h2 : 0 ≤ lightT l[j] 1 lv := by omega
        clear hbad
        go_wp2
        go_roundw
        case rel => exact ⟨j + 1, _, by go_num, rfl, by omega, by omega, by omega, by omega, HB3.out, HQ.out⟩
        case measure => simp [intOf]; omega
    · have hje : j = l.length := by omega
      have hf : Light l 0 4000 = true := by rw [hq, hje]; simp [Light]
      have HF := Lib.hid hf; clear hf hq hje
      go_wp2
      go_ret
      exact ⟨by rw [HF.out]; rfl, hb⟩
end Go.Proofs.Ytceahdlcbiialaa
set_option linter.unusedVariables false
set_option linter.unusedSimpArgs false
namespace Go.Proofs.Ytceahdlcbiialaa
open Go.RowKit

theorem may_eq (k : Int) (s : ByteArray) (n re im : Int) (xs : List Tm) (d c e : Nat) : may (.mk k s n re im xs) d (c, e) =
    if e ≠ 0 then (c, e) else if 2000 < c + 1 ∨ 500 < d then (c + 1, 3) else
    if one (.mk k s n re im xs) ≠ 0 then (c + 1, one (.mk k s n re im xs)) else if k = 5 then mayL xs (d + 1) (c + 1, 0) else (c + 1, 0) := by simp [may]
theorem mayL_drop (l : List Tm) (k d : Nat) (st : Nat × Nat) (t : Tm) (hk : l[k]? = some t) : mayL (l.drop k) d st = mayL (l.drop (k + 1)) d (may t d st) := by
  have hlt := (List.getElem?_eq_some_iff.1 hk).1
  have e : l[k] = t := (List.getElem?_eq_some_iff.1 hk).2
  rw [List.drop_eq_getElem_cons hlt, e]
  simp [mayL]
/-- As many as may be, and one more at the most. -/
def MayB (st : Nat × Nat) : Prop := st.1 ≤ 2001 ∧ (st.2 = 0 → st.1 ≤ 2000) ∧ st.2 ≤ 3
theorem one_1 {t : Tm} (h : t.k < 1 ∨ 5 < t.k ∨ (t.k = 1 ∧ t.n < 0) ∨ (t.k = 5 ∧ t.xs.length = 0)) : one t = 1 := by unfold one; rw [if_pos h]
theorem one_3 {t : Tm} (h : ¬ (t.k < 1 ∨ 5 < t.k ∨ (t.k = 1 ∧ t.n < 0) ∨ (t.k = 5 ∧ t.xs.length = 0))) (h2 : ((t.k = 2 ∨ t.k = 5) ∧ 200 < t.s.size) ∨ (t.k = 5 ∧ 20 < t.xs.length)) : one t = 3 := by unfold one; rw [if_neg h, if_pos h2]
theorem one_0 {t : Tm} (h : ¬ (t.k < 1 ∨ 5 < t.k ∨ (t.k = 1 ∧ t.n < 0) ∨ (t.k = 5 ∧ t.xs.length = 0))) (h2 : ¬ (((t.k = 2 ∨ t.k = 5) ∧ 200 < t.s.size) ∨ (t.k = 5 ∧ 20 < t.xs.length))) : one t = 0 := by unfold one; rw [if_neg h, if_neg h2]
theorem one_le (t : Tm) : one t ≤ 3 := by unfold one; split <;> (try split) <;> omega
mutual
theorem may_b : ∀ (t : Tm) (d : Nat) (st : Nat × Nat), MayB st → MayB (may t d st)
  | .mk k s n re im xs, d, (c, e), h => by
    rw [may_eq]
    obtain ⟨h1, h2, h3⟩ := h
    simp only at h1 h2 h3
    split
    · exact ⟨h1, h2, h3⟩
    · have := h2 (by omega)
      split
      · exact ⟨by simp; omega, by simp, by simp⟩
      · split
        · exact ⟨by simp; omega, fun h => absurd h (by assumption), one_le _⟩
        · split
          · exact mayL_b xs _ _ ⟨by simp; omega, by simp; omega, by simp⟩
          · exact ⟨by simp; omega, by simp; omega, by simp⟩
theorem mayL_b : ∀ (l : List Tm) (d : Nat) (st : Nat × Nat), MayB st → MayB (mayL l d st)
  | [], _, _, h => by simpa [mayL] using h
  | t :: r, d, st, h => by
    simp only [mayL]
    exact mayL_b r d _ (may_b t d st h)
end
def MayS (t : Tm) : Prop := ∀ (w : World) (S : Blk) (Γ : List Asn) (cs : List Value) (p d c e : Nat) (d' : Int), Ok w S (Pt p #[.int .i64 (c : Int), .int .i64 (e : Int)] 117 :: Γ) → TmC w S cs t → MayB (c, e) → d ≤ 501 → d' = d →
    Calls Try.prog 84 #[.pointer (some ⟨p, 0, none⟩), .agg cs.toArray, .int .i64 d'] w fun e' w' => e' = .returned (.tuple #[]) ∧ To w S w' S (Pt p #[.int .i64 ((may t d (c, e)).1 : Int), .int .i64 ((may t d (c, e)).2 : Int)] 117 :: Γ)
set_option maxRecDepth 100000 in
set_option maxHeartbeats 4000000 in
theorem may_tail {s : ByteArray} {n re im : Int} {xs : List Tm} {w : World} {S : Blk} {Γ : List Asn} {A : Option Addr} {cap p d c : Nat} (ih : ∀ t ∈ xs, MayS t) (hA : Kids w S A xs) (hT : TmC w S [.int .i64 5, .string s, .int .i64 n, .int .u64 re, .int .u64 im, .slice A xs.length cap] (.mk 5 s n re im xs))
    (hO : To w S w S (Pt p #[.int .i64 (c : Int), .int .i64 (0 : Nat)] 117 :: Γ)) (y0 : ((xs.length : Int) == 0) = false) (y0' : 0 < xs.length) (y1 : s.size ≤ 200) (y2 : xs.length ≤ 20) (hg1 : c + 1 ≤ 2000) (hg2 : d ≤ 500)
    (hn : -9223372036854775808 ≤ n ∧ n ≤ 9223372036854775807) (hre : 0 ≤ re ∧ re ≤ 18446744073709551615) (him : 0 ≤ im ∧ im ≤ 18446744073709551615) (hs : s.size ≤ 140737488351232) :
    Calls Try.prog 84 #[.pointer (some ⟨p, 0, none⟩), .agg #[.int .i64 5, .string s, .int .i64 n, .int .u64 re, .int .u64 im, .slice A xs.length cap], .int .i64 (d : Int)] w fun e' w' => e' = .returned (.tuple #[]) ∧
      To w S w' S (Pt p #[.int .i64 ((mayL xs (d + 1) (c + 1, 0)).1 : Int), .int .i64 ((mayL xs (d + 1) (c + 1, 0)).2 : Int)] 117 :: Γ) := by
  have hq0 : w.cell? ⟨p, 0, none⟩ = some (.int .i64 (c : Int)) := hO.ok.ptCell 0 _ rfl
  have hq1 : w.cell? ⟨p, 1, none⟩ = some (.int .i64 0) := hO.ok.ptCell 1 _ rfl
  have hf0 := hO.ok.ptFree 0
  have hf1 := hO.ok.ptFree 1
  have hplt := hO.ok.ptLt
  have HA := Lib.hid hA; clear hA
  have IH := Lib.hid ih; clear ih
  have HT := Lib.hid hT; clear hT
  have HO := Lib.hid hO; clear hO
  have F0 := Lib.hid ((HO.out.ptSet 0 (.int .i64 ((c : Int) + 1))).alloc (.cells #[.int .i64 5, .string s, .int .i64 n, .int .u64 re, .int .u64 im, .slice A xs.length cap] 25))
  go_enter Try.func84, Try.ntmps84
  go_wp2
  clear hq0 hq1 hf0 hf1
  go_loopw [108] (fun i wr => ∃ (j : Nat) (st : Nat × Nat), i = .int .i64 j ∧ j ≤ xs.length ∧ MayB st ∧ To w S wr S (Pt p #[.int .i64 (st.1 : Int), .int .i64 (st.2 : Int)] 117 :: Γ) ∧ mayL xs (d + 1) (c + 1, 0) = mayL (xs.drop j) (d + 1) st) (fun i _ => xs.length - (intOf i).toNat)
  case atStart => exact ⟨0, (c + 1, 0), rfl, Nat.zero_le _, ⟨by simp; omega, by simp; omega, by simp⟩, F0.out, rfl⟩
  case round =>
    obtain ⟨j, ⟨c1, e1⟩, rfl, hj, hB, hO, hq⟩ := hrel
    clear HO F0
    by_cases hlt : j < xs.length
    · have hx : xs[j]? = some xs[j] := List.getElem?_eq_getElem hlt
      rw [mayL_drop _ _ _ _ _ hx] at hq
      have hmem : xs[j] ∈ xs := List.getElem_mem _
      obtain ⟨gb, go, A', cap', rfl, hS, g0, g1, g2, g3, g4, g5, hxT⟩ := HA.out j _ hx
      have hc : ∀ a v, S a.block → w.cell? a = some v → wr.cell? a = some v := fun a v hs h => (World.cell?_of_block (w := w) (hO.kept _ hs)).trans h
      have f0 := hc _ _ hS g0
      have f1 := hc _ _ hS g1
      have f2 := hc _ _ hS g2
      have f3 := hc _ _ hS g3
      have f4 := hc _ _ hS g4
      have f5 := hc _ _ hS g5
      clear g0 g1 g2 g3 g4 g5 hc
      have IX : MayS xs[j] := IH.out _ hmem
      have HX := Lib.hid hxT; clear hxT
      clear hx hmem
      have hb' := may_b xs[j] (d + 1) (c1, e1) hB
      have HB' := Lib.hid hb'; clear hb'
      have HBB := Lib.hid hB; clear hB
      have HO := Lib.hid hO; clear hO
      have HQ := Lib.hid hq; clear hq
      go_wp2_with fail
      have hO2 := HO.out.alloc (.cells #[.int .i64 xs[j].k, .string xs[j].s, .int .i64 xs[j].n, .int .u64 xs[j].re, .int .u64 xs[j].im, .slice A' xs[j].xs.length cap'] 25)
      refine (IX _ S Γ _ p (d + 1) c1 e1 _ hO2.ok (HX.out.to hO2) HBB.out (by omega) (by simp)).mono ?_
      rintro e w2 ⟨rfl, hO3⟩
      have HO3 := Lib.hid (hO2.trans hO3)
      clear hO2 hO3 f0 f1 f2 f3 f4 f5
      go_wp2
      go_roundw
      case rel => exact ⟨j + 1, _, by go_num, by omega, HB'.out, HO3.out, HQ.out⟩
      case measure => simp [intOf]; omega
    · have hje : j = xs.length := by omega
      have hf : mayL xs (d + 1) (c + 1, 0) = (c1, e1) := by rw [hq, hje]; simp [mayL]
      have HF := Lib.hid hf; clear hf hq hje
      go_wp2
      go_end0
      exact ⟨rfl, by rw [HF.out]; exact hO⟩
end Go.Proofs.Ytceahdlcbiialaa
