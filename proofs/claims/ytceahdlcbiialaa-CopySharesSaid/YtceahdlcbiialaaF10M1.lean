/- The reference's Depth. What is shared is copied once. No condition. -/
import Derived.Lib.MinMax
import Derived.Test.YtceahdlcbiialaaF5M15
import Derived.Test.YtceahdlcbiialaaF5M17
import Derived.Test.YtceahdlcbiialaaF9M3
set_option linter.unusedVariables false
set_option linter.unusedSimpArgs false
namespace Go.Proofs.Ytceahdlcbiialaa
open Go.RowKit

mutual
def depthT : Tm → Nat
  | .mk k _ _ _ _ xs => 1 + (if k = 5 then depthL xs else 0)
def depthL : List Tm → Nat
  | [] => 0
  | t :: r => max (depthT t) (depthL r)
end
theorem depthL_mem : ∀ {l : List Tm} {t : Tm}, t ∈ l → depthT t ≤ depthL l
  | x :: l, t, h => by
    rw [depthL]
    rcases List.mem_cons.1 h with rfl | h
    · omega
    · have := depthL_mem h; omega
theorem depthL_snoc (t : Tm) : ∀ l : List Tm, depthL (l ++ [t]) = max (depthL l) (depthT t)
  | [] => by simp [depthL]
  | x :: l => by rw [List.cons_append, depthL, depthL, depthL_snoc t l]; omega
mutual
/-- What may be on one depth may be on another one. -/
theorem may_deep : ∀ (t : Tm) (d c : Nat), good t → d + depthT t ≤ 501 → c + nodes t ≤ 2000 → may t d (c, 0) = (c + nodes t, 0)
  | .mk k s n re im xs, d, c, ⟨h1, h2⟩, hd, hc => by
    simp only [depthT, nodes] at hd hc
    rw [may_eq, if_neg (by simp), if_neg (by omega), if_neg (by simp [h1])]
    by_cases k5 : k = 5
    · rw [if_pos k5] at hd hc ⊢
      rw [mayL_deep xs (d + 1) (c + 1) (h2 k5) (by omega) (by omega), nodes, if_pos k5]
      congr 1
      omega
    · rw [if_neg k5, nodes, if_neg k5]
theorem mayL_deep : ∀ (l : List Tm) (d c : Nat), goodL l → d + depthL l ≤ 501 → c + nodesL l ≤ 2000 → mayL l d (c, 0) = (c + nodesL l, 0)
  | [], d, c, _, _, _ => by simp [mayL, nodesL]
  | t :: r, d, c, ⟨h1, h2⟩, hd, hc => by
    simp only [depthL, nodesL] at hd hc
    simp only [mayL]
    rw [may_deep t d c h1 (by omega) (by omega), mayL_deep r d (c + nodes t) h2 (by omega) (by omega), nodesL]
    congr 1
    omega
theorem may_depth : ∀ (t : Tm) (d c c' : Nat), may t d (c, 0) = (c', 0) → d + depthT t ≤ 501
  | .mk k s n re im xs, d, c, c', h => by
    rw [may_eq, if_neg (by simp)] at h
    split at h
    · simp at h
    · rename_i hb
      split at h
      · rename_i h1
        simp only [Prod.mk.injEq] at h
        exact absurd h.2 h1
      · simp only [depthT]
        split at h
        · rename_i k5
          have := mayL_depth xs (d + 1) (c + 1) c' h
          rw [if_pos k5]
          omega
        · rename_i k5
          rw [if_neg k5]
          omega
theorem mayL_depth : ∀ (l : List Tm) (d c c' : Nat), mayL l d (c, 0) = (c', 0) → d + depthL l ≤ 501 ∨ depthL l = 0
  | [], d, c, c', h => .inr rfl
  | t :: r, d, c, c', h => by
    simp only [mayL] at h
    rcases hm : may t d (c, 0) with ⟨c1, e1⟩
    rw [hm] at h
    by_cases he : e1 = 0
    · subst he
      have h1 := may_depth t d c c1 hm
      have h2 := mayL_depth r d c1 c' h
      rw [depthL]
      omega
    · rw [mayL_err _ _ _ _ he] at h
      simp only [Prod.mk.injEq] at h
      exact absurd h.2 he
end
theorem May_depth {t : Tm} (h : May t = 0) : depthT t ≤ 500 := by
  have := may_depth t 1 0 (may t 1 (0, 0)).1 (Prod.ext rfl h)
  omega
def DepthS (t : Tm) : Prop := ∀ (w : World) (S : Blk) (Γ : List Asn) (cs : List Value), Ok w S Γ → TmC w S cs t → depthT t ≤ 1000 →
    Calls Try.prog 97 #[.agg cs.toArray] w fun e' w' => e' = .returned (.int .i64 (depthT t : Nat)) ∧ To w S w' S Γ
set_option maxRecDepth 100000 in
set_option maxHeartbeats 4000000 in
theorem depth_spec (t : Tm) : DepthS t := by
  refine Tm.ind (P := DepthS) ?_ t
  intro k s n re im xs ih w S Γ cs hO hT hd
  obtain ⟨A, cap, rfl, hrg, hA⟩ := hT.form
  simp only [Ranged, Tm.k, Tm.s, Tm.n, Tm.re, Tm.im, Tm.xs] at *
  obtain ⟨hk, hs, hn, hre, him, hxl⟩ := hrg
  have HA := Lib.hid hA; clear hA
  have IH := Lib.hid ih; clear ih
  have H1 := Lib.hid (hO.to.alloc (.cells #[.int .i64 k, .string s, .int .i64 n, .int .u64 re, .int .u64 im, .slice A xs.length cap] 25))
  clear hO hT
  rw [depthT] at hd ⊢
  by_cases k5 : k = 5
  case neg =>
    have hb : (k == 5) = false := by simp [k5]
    rw [if_neg k5]
    clear hd IH HA
    go_enter Try.func97, Try.ntmps97
    go_wp2
    go_ret
    exact ⟨rfl, H1.out⟩
  subst k5
  rw [if_pos rfl] at hd ⊢
  have e1 : ((1 + depthL xs : Nat) : Int) = (depthL xs : Int) + 1 := by omega
  rw [e1]
  clear e1
  go_enter Try.func97, Try.ntmps97
  go_wp2
  go_loopw [3, 12] (fun u i wr => ∃ (j : Nat), u = .int .i64 (depthL (xs.take j) : Nat) ∧ i = .int .i64 j ∧ j ≤ xs.length ∧ To w S wr S Γ) (fun _ i _ => xs.length - (intOf i).toNat)
  case atStart => exact ⟨0, rfl, rfl, Nat.zero_le _, H1.out⟩
  case round =>
    obtain ⟨j, rfl, rfl, hj, hO⟩ := hrel
    clear H1
    by_cases hlt : j < xs.length
    · have hx : xs[j]? = some xs[j] := List.getElem?_eq_getElem hlt
      have hmem : xs[j] ∈ xs := List.getElem_mem _
      obtain ⟨gb, go, A', cap', rfl, hS, g0, g1, g2, g3, g4, g5, hxT⟩ := HA.out j _ hx
      have hc : ∀ a v, S a.block → w.cell? a = some v → wr.cell? a = some v := fun a v hs h => (World.cell?_of_block (w := w) (hO.kept _ hs)).trans h
      have f0 := hc _ _ hS g0
      have f1 := hc _ _ hS g1
      have f2 := hc _ _ hS g2
      have f3 := hc _ _ hS g3
      have f4 := hc _ _ hS g4
      have f5 := hc _ _ hS g5
      clear g0 g1 g2 g3 g4 g5 hc
      have IX : DepthS xs[j] := IH.out _ hmem
      have hdx := depthL_mem hmem
      have e1 : depthL (xs.take (j + 1)) = max (depthL (xs.take j)) (depthT xs[j]) := by
        rw [List.take_add_one, hx]
        exact depthL_snoc _ _
      have HX := Lib.hid hxT; clear hxT
      have HE := Lib.hid e1
      clear hx hmem e1
      have HO := Lib.hid hO; clear hO
      go_wp2_with fail
      have hO2 := HO.out.alloc (.cells #[.int .i64 xs[j].k, .string xs[j].s, .int .i64 xs[j].n, .int .u64 xs[j].re, .int .u64 xs[j].im, .slice A' xs[j].xs.length cap'] 25)
      refine (IX _ S Γ _ hO2.ok (HX.out.to hO2) (by omega)).mono ?_
      rintro e w2 ⟨rfl, hO3⟩
      have HO3 := Lib.hid (hO2.trans hO3)
      clear hO2 hO3 f0 f1 f2 f3 f4 f5
      go_wp2
      go_roundw
      case rel => exact ⟨j + 1, by rw [HE.out]; simp; omega, by go_num, by omega, HO3.out⟩
      case measure => simp [intOf]; omega
    · have hje : j = xs.length := by omega
      subst hje
      rw [List.take_length]
      have hb : depthL xs ≤ 1000 := by omega
      clear hd hlt hj
      have HO := Lib.hid hO; clear hO
      go_wp2
      go_ret
      exact ⟨rfl, HO.out⟩
set_option maxRecDepth 100000 in
set_option maxHeartbeats 1000000 in
theorem Depth_spec {w : World} {S : Blk} {Γ : List Asn} {cs : List Value} {t : Tm} (h : Ok w S Γ) (hT : TmC w S cs t) (ht : May t = 0) :
    Calls Try.prog 56 #[.agg cs.toArray] w fun e w' => e = .returned (.int .i64 (depthT t : Nat)) ∧ To w S w' S Γ := by
  have hd := May_depth ht
  obtain ⟨A, cap, rfl⟩ := hT.form0
  have h1 := h.to.allocPt' #[.int .i64 t.k, .string t.s, .int .i64 t.n, .int .u64 t.re, .int .u64 t.im, .slice A t.xs.length cap] 25 w.heap.size rfl
  obtain ⟨⟨x0, x1, x2, x3, x4, x5⟩, -, x6⟩ := h1.ok.pt6
  have hm := May_spec h1.ok (hT.to h1)
  rw [ht] at hm
  have HM := Lib.hid hm
  have H1 := Lib.hid h1
  have HT := Lib.hid (hT.to h1)
  clear hm h1 hT h ht
  go_enter Try.func56, Try.ntmps56
  go_wp2_with fail
  refine HM.out.mono ?_
  rintro e w2 ⟨rfl, h2⟩
  have h2b := H1.out.trans h2
  have hdp := depth_spec t _ S _ _ h2b.ok (HT.out.to h2) (by omega)
  clear x0 x1 x2 x3 x4 x5 x6
  obtain ⟨⟨x0, x1, x2, x3, x4, x5⟩, -, x6⟩ := h2b.ok.pt6
  have HD := Lib.hid hdp
  have H2 := Lib.hid h2b
  clear hdp h2b h2 H1 HT HM
  go_wp2_with fail
  refine HD.out.mono ?_
  rintro e w3 ⟨rfl, h3⟩
  have H3 := Lib.hid (H2.out.trans h3).drop
  clear h3
  go_wp2
  go_ret
  exact ⟨rfl, H3.out⟩
#print axioms Depth_spec
end Go.Proofs.Ytceahdlcbiialaa
set_option linter.unusedVariables false
set_option linter.unusedSimpArgs false
set_option linter.unusedSectionVars false
namespace Go.Proofs.Ytceahdlcbiialaa
open Go.RowKit

/-! ### What was met stays met -/
theorem cpV_M (most : Nat) (own : Int) (s : CS) : (cpV most own s).2.M = s.M := by unfold cpV; split <;> (try split) <;> rfl
theorem cpW_M (most tag : Nat) (l : List Nat) (s : CS) : (cpW most tag l s).2.M = s.M := by unfold cpW; split <;> rfl
theorem cpO_M (most f n : Nat) (s : CS) : (cpO most f n s).2.M = s.M := by unfold cpO; split <;> (try split) <;> rfl
theorem cpF_M (src : List Nat → List Nat) (most d : Nat) (own : Int) (s : CS) : (cpF src most d own s).s.M = s.M := by
  unfold cpF
  repeat' split
  all_goals first | rfl | exact cpV_M _ _ _ | exact cpO_M _ _ _ _ | exact cpW_M _ _ _ _
theorem cpS_M {src : List Nat → List Nat} {most c : Nat} {own : Int} {s : CS} {x y : Nat} (h : lk s.M x = some y) : lk (cpS src most c own s).s.M x = some y := by
  unfold cpS
  split
  · exact h
  · simp only
    split
    · exact h
    · split
      · exact h
      · rename_i hq
        have := cpF_M src most (deref (src s.K) (src s.K).length c) own { s with n := s.n + 1 }
        have hne : x ≠ deref (src s.K) (src s.K).length c := fun e => by rw [e, hq] at h; cases h
        cases hf : cpF src most (deref (src s.K) (src s.K).length c) own { s with n := s.n + 1 } <;> rw [hf] at this <;> simp only [Fresh.s, CS.met] at this ⊢
        · rw [lk_up2, if_neg hne, this]; exact h
        · rw [lk_up2, if_neg hne, this]; exact h
        · rw [this]; exact h
theorem cpAll_M {g : Nat → Int → CS → (Nat × Nat) × CS} {x y : Nat} (hg : ∀ c i s, lk s.M x = some y → lk (g c i s).2.M x = some y) : ∀ (l : List Nat) (i : Nat) (s : CS), lk s.M x = some y → lk (cpAll g l i s).2.M x = some y
  | [], _, s, h => h
  | c :: r, i, s, h => by
    have h1 := hg c i s h
    unfold cpAll
    split
    · exact h1
    · exact cpAll_M hg r (i + 1) ((g c i s).2.at i (g c i s).1.1) h1
theorem cp_M (src : List Nat → List Nat) (most : Nat) {x y : Nat} : ∀ (f c : Nat) (own : Int) (s : CS), lk s.M x = some y → lk (cp src most f c own s).2.M x = some y
  | 0, _, _, s, h => h
  | f + 1, c, own, s, h => by
    have h1 := cpS_M (src := src) (most := most) (c := c) (own := own) h
    rw [cp_succ]
    cases hq : cpS src most c own s with
    | bad e s1 => rw [hq] at h1; exact h1
    | leaf o s1 => rw [hq] at h1; exact h1
    | comp at' args s1 =>
      rw [hq] at h1
      have := cpAll_M (cp_M src most f) args (at' + 1) s1 h1
      simp only
      split <;> exact this
theorem cpF_bad {src : List Nat → List Nat} {most d : Nat} {own : Int} {s s2 : CS} (h : cpF src most d own s = .bad 0 s2) : False := by
  unfold cpF at h
  repeat' split at h
  all_goals first | (cases h; done) | (simp only [Fresh.bad.injEq] at h; omega)
/-- What stands for a cell is met, or the cell itself. -/
theorem cp_met {src : List Nat → List Nat} {most f c : Nat} {own : Int} {s : CS} {o : Nat} {s' : CS} (h : cp src most (f + 1) c own s = ((o, 0), s')) (hd : deref (src s.K) (src s.K).length c = c) (hn : s.n < 100000) :
    ((tg c = 2 ∨ tg c = 3) ∧ o = c) ∨ (¬ (tg c = 2 ∨ tg c = 3) ∧ lk s'.M c = some o) := by
  by_cases ha : tg c = 2 ∨ tg c = 3
  · rw [cp_succ, cpS_atom ha hn] at h
    simp only [Prod.mk.injEq] at h
    exact .inl ⟨ha, h.1.1.symm⟩
  · refine .inr ⟨ha, ?_⟩
    cases hq : lk s.M c with
    | some p =>
      rw [cp_succ, cpS_met hd ha hn hq] at h
      simp only [Prod.mk.injEq] at h
      obtain ⟨⟨rfl, -⟩, rfl⟩ := h
      exact hq
    | none =>
      have hF := cpF_M src most c own { s with n := s.n + 1 }
      rw [cp_succ, cpS_new hd ha hn hq] at h
      cases hf : cpF src most c own { s with n := s.n + 1 } with
      | bad e s2 =>
        rw [hf] at h
        simp only [Prod.mk.injEq] at h
        exfalso
        obtain ⟨⟨rfl, rfl⟩, -⟩ := h
        exact cpF_bad hf
      | leaf p s2 =>
        rw [hf] at h
        simp only [Prod.mk.injEq] at h
        obtain ⟨⟨rfl, -⟩, rfl⟩ := h
        simp [CS.met, lk_up2]
      | comp at' args s2 =>
        rw [hf] at h
        simp only at h
        have hm : lk (s2.met c (mkc 1 at')).M c = some (mkc 1 at') := by simp [CS.met, lk_up2]
        have h2 := cpAll_M (cp_M src most f) args (at' + 1) _ hm
        split at h
        · rename_i he
          simp only [Prod.mk.injEq] at h
          exact absurd h.1.2 he
        · simp only [Prod.mk.injEq] at h
          obtain ⟨⟨rfl, -⟩, rfl⟩ := h
          exact h2
theorem cp_again {src : List Nat → List Nat} {most f c : Nat} {own : Int} {s : CS} {o : Nat} (hm : ((tg c = 2 ∨ tg c = 3) ∧ o = c) ∨ (¬ (tg c = 2 ∨ tg c = 3) ∧ lk s.M c = some o)) (hd : deref (src s.K) (src s.K).length c = c) (hn : s.n < 100000) :
    cp src most (f + 1) c own s = ((o, 0), { s with n := s.n + 1 }) := by
  rw [cp_succ]
  rcases hm with ⟨h1, rfl⟩ | ⟨h1, h2⟩
  · rw [cpS_atom h1 hn]
  · rw [cpS_met hd h1 hn h2]
end Go.Proofs.Ytceahdlcbiialaa
