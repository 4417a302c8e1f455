/- The reference's Nodes. Where a laid term's cells lie. No condition. -/
import Derived.Test.YtceahdlcbiialaaF5M15
import Derived.Test.YtceahdlcbiialaaF7M2
import Derived.Test.YtceahdlcbiialaaF8M4
set_option linter.unusedVariables false
set_option linter.unusedSimpArgs false
namespace Go.Proofs.Ytceahdlcbiialaa
open Go.RowKit

def NodesT (t : Tm) : Nat := if May t ≠ 0 then 0 else (may t 1 (0, 0)).1
theorem NodesT_eq {t : Tm} (h : May t = 0) : NodesT t = nodes t := by
  unfold NodesT
  rw [if_neg (by simp [h])]
  have := (may_zero t 1 0 (may t 1 (0, 0)).1 (by omega) (Prod.ext rfl h)).1
  omega
set_option maxRecDepth 100000 in
set_option maxHeartbeats 1000000 in
theorem Nodes_spec {w : World} {S : Blk} {Γ : List Asn} {cs : List Value} {t : Tm} (h : Ok w S Γ) (hT : TmC w S cs t) :
    Calls Try.prog 53 #[.agg cs.toArray] w fun e w' => e = .returned (.int .i64 (NodesT t : Nat)) ∧ To w S w' S Γ := by
  obtain ⟨A, cap, rfl⟩ := hT.form0
  have hal := (h.to.alloc (.cells #[.int .i64 t.k, .string t.s, .int .i64 t.n, .int .u64 t.re, .int .u64 t.im, .slice A t.xs.length cap] 25)).allocPt' #[.int .i64 (0 : Nat), .int .i64 (0 : Nat)] 117 (w.heap.size + 1) (by simp)
  have hm := (may_spec t) _ S Γ _ (w.heap.size + 1) 1 0 0 1 hal.ok (hT.to hal) ⟨by simp, by simp, by simp⟩ (by omega) rfl
  obtain ⟨r, hr⟩ : ∃ r, r = NodesT t := ⟨_, rfl⟩
  rw [← hr]
  have HR := Lib.hid hr
  have HM := Lib.hid hm; clear hm
  have HAL := Lib.hid hal; clear hal hT h hr
  by_cases hz : May t = 0
  · have hb : (((may t 1 (0, 0)).2 : Int) != 0) = false := by
      have : (may t 1 (0, 0)).2 = 0 := hz
      simp [this]
    have hv : r = (may t 1 (0, 0)).1 := by rw [HR.out, NodesT, if_neg (by simp [hz])]
    clear hz HR
    go_enter Try.func53, Try.ntmps53
    go_wp2_with (go_at_call 84; refine HM.out.mono ?_; rintro e w' ⟨rfl, hw⟩; have c0 : w'.cell? ⟨w.heap.size + 1, 0, none⟩ = some (.int .i64 ((may t 1 (0, 0)).1 : Nat)) := hw.ok.ptCell 0 _ rfl; have c1 : w'.cell? ⟨w.heap.size + 1, 1, none⟩ = some (.int .i64 ((may t 1 (0, 0)).2 : Nat)) := hw.ok.ptCell 1 _ rfl; have HW := Lib.hid hw; clear hw)
    go_ret
    subst hv
    exact ⟨rfl, (HAL.out.trans HW.out).drop⟩
  · have hb : (((may t 1 (0, 0)).2 : Int) != 0) = true := by
      have : (may t 1 (0, 0)).2 ≠ 0 := hz
      simp [bne]; omega
    have hv : r = 0 := by rw [HR.out, NodesT, if_pos (by simp [hz])]
    clear hz HR
    go_enter Try.func53, Try.ntmps53
    go_wp2_with (go_at_call 84; refine HM.out.mono ?_; rintro e w' ⟨rfl, hw⟩; have c0 : w'.cell? ⟨w.heap.size + 1, 0, none⟩ = some (.int .i64 ((may t 1 (0, 0)).1 : Nat)) := hw.ok.ptCell 0 _ rfl; have c1 : w'.cell? ⟨w.heap.size + 1, 1, none⟩ = some (.int .i64 ((may t 1 (0, 0)).2 : Nat)) := hw.ok.ptCell 1 _ rfl; have HW := Lib.hid hw; clear hw)
    go_ret
    subst hv
    exact ⟨rfl, (HAL.out.trans HW.out).drop⟩
#print axioms Nodes_spec
end Go.Proofs.Ytceahdlcbiialaa
set_option linter.unusedVariables false
set_option linter.unusedSimpArgs false
namespace Go.Proofs.Ytceahdlcbiialaa
open Go.RowKit

/-- The name's first place. -/
def firstAt (L : List ByteArray) (s : ByteArray) (a : Nat) : Prop := L[a]? = some s ∧ ∀ j, j < a → L[j]? ≠ some s
theorem firstAt.mono {L L' : List ByteArray} {s : ByteArray} {a : Nat} (h : firstAt L s a) (hL : ∀ (i : Nat) (v : ByteArray), L[i]? = some v → L'[i]? = some v) : firstAt L' s a := by
  refine ⟨hL _ _ h.1, fun j hj he => ?_⟩
  have hlt := (List.getElem?_eq_some_iff.1 h.1).1
  have hj2 : L[j]? = some L[j] := List.getElem?_eq_getElem (by omega)
  have := hL _ _ hj2
  rw [he] at this
  exact h.2 j hj (by rw [hj2, ← this])
theorem place_firstAt {s : ByteArray} : ∀ (L : List ByteArray) (i a : Nat), firstAt L s a → place L s i = some (i + a)
  | [], i, a, h => by simp [firstAt] at h
  | x :: L, i, 0, h => by
    have := h.1
    simp at this
    simp [place, this]
  | x :: L, i, a + 1, h => by
    have h0 := h.2 0 (by omega)
    simp at h0
    rw [place, if_neg (fun e => h0 e.symm), place_firstAt L (i + 1) a ⟨by simpa using h.1, fun j hj => by simpa using h.2 (j + 1) (by omega)⟩]
    congr 1
    omega
theorem place_first {s : ByteArray} : ∀ (L : List ByteArray) (i j : Nat), place L s i = some j → firstAt L s (j - i)
  | [], _, _, h => by cases h
  | x :: L, i, j, h => by
    unfold place at h
    split at h
    · rename_i hx
      simp at h
      subst h
      exact ⟨by simp [hx], fun k hk => by omega⟩
    · rename_i hx
      have h1 := place_first L (i + 1) j h
      have h2 := place_lt s L (i + 1) j h
      have e : j - i = (j - (i + 1)) + 1 := by omega
      rw [e]
      refine ⟨by simpa using h1.1, fun k hk => ?_⟩
      cases k with
      | zero => simpa using fun e => hx e.symm
      | succ k => simpa using h1.2 k (by omega)
theorem number_first {L : List ByteArray} {s : ByteArray} {a : Nat} {L' : List ByteArray} (h : number L s = ((a, 0), L')) : firstAt L' s a := by
  unfold number at h
  split at h
  · simp at h
  · cases hp : place L s 0 with
    | some i =>
      rw [hp] at h
      simp only [Prod.mk.injEq] at h
      obtain ⟨⟨rfl, -⟩, rfl⟩ := h
      simpa using place_first L 0 i hp
    | none =>
      rw [hp] at h
      simp only at h
      split at h
      · simp at h
      · simp only [Prod.mk.injEq] at h
        obtain ⟨⟨rfl, -⟩, rfl⟩ := h
        refine ⟨by simp, fun j hj he => ?_⟩
        rw [List.getElem?_append_left hj] at he
        obtain ⟨k, hk⟩ := place_mem s L 0 (List.mem_of_getElem? he)
        rw [hp] at hk
        cases hk
theorem number_at {L : List ByteArray} {s : ByteArray} {a : Nat} (hs : s.size ≤ 200) (h : firstAt L s a) : number L s = ((a, 0), L) := by
  unfold number
  rw [if_neg (by omega), place_firstAt L 0 a h]
  simp
theorem opn_form {most : Nat} {s : ByteArray} {n : Nat} {st : St} {p : Nat} {st' : St} (ho : opn most s n st = ((p, 0), st')) :
    p = st.C.length ∧ st.C.length < most ∧ ∃ a l, number st.L s = ((a, 0), st'.L) ∧ varAll most n (st.C ++ [fun6 a n]) = (0, st'.C) ∧ st'.C = (st.C ++ [fun6 a n]) ++ l ∧ l.length = n ∧ st'.V = st.V := by
  unfold opn at ho
  split at ho
  · rename_i h0
    simp only [Prod.mk.injEq] at ho
    exact absurd ho.1.2 h0
  · rename_i h0
    simp only [ne_eq, Decidable.not_not] at h0
    split at ho
    · split at ho
      · rename_i h2 h3
        rcases hq : number st.L s with ⟨⟨a, e⟩, L'⟩
        rw [hq] at ho h0 h3
        simp only at h0 h3
        subst h0
        rcases hva : varAll most n (st.C ++ [fun6 a n]) with ⟨e2, C'⟩
        rw [hva] at h3
        simp only at h3
        subst h3
        simp only [Prod.mk.injEq, hva] at ho
        obtain ⟨⟨rfl, -⟩, rfl⟩ := ho
        obtain ⟨l, q1, q2, q3⟩ := varAll_zero most n _ C' hva
        exact ⟨rfl, h2, a, l, rfl, hva, q1, q2, rfl⟩
      · rename_i h3
        simp only [Prod.mk.injEq] at ho
        exact absurd ho.1.2 h3
    · simp at ho
mutual
/-- A cell stands for a term, whose cells lie from lo to hi, none twice. -/
def rng (F : List Nat) (L : List ByteArray) (R : Int → Option Nat) : Tm → Nat → Nat → Nat → Prop
  | .mk k s n re im xs, c, lo, hi =>
    if k = 1 then R n = some c ∧ tg c = 0 ∧ F[vl c]? = some c ∧ lo ≤ hi
    else if k = 5 then tg c = 1 ∧ ∃ a mid, F[vl c]? = some (fun6 a xs.length) ∧ firstAt L s a ∧ lo ≤ vl c ∧ vl c < mid ∧ rngL F L R xs (vl c + 1) mid hi
    else if k = 2 then tg c = 2 ∧ firstAt L s (vl c) ∧ lo ≤ hi
    else if k = 3 then (smallOk n = true ∧ c = small n ∧ lo ≤ hi) ∨ (smallOk n = false ∧ tg c = 4 ∧ F[vl c]? = some (u64 n) ∧ lo ≤ vl c ∧ vl c < hi)
    else tg c = 5 ∧ F[vl c]? = some re.toNat ∧ F[vl c + 1]? = some im.toNat ∧ lo ≤ vl c ∧ vl c < hi
def rngL (F : List Nat) (L : List ByteArray) (R : Int → Option Nat) : List Tm → Nat → Nat → Nat → Prop
  | [], _, lo, hi => lo ≤ hi
  | t :: r, i, lo, hi => ∃ c mid, F[i]? = some c ∧ rng F L R t c lo mid ∧ rngL F L R r (i + 1) mid hi
end
section
variable {F : List Nat} {L : List ByteArray} {R : Int → Option Nat}
mutual
theorem rng_le : ∀ (t : Tm) (c lo hi : Nat), rng F L R t c lo hi → lo ≤ hi
  | .mk k s n re im xs, c, lo, hi, h => by
    unfold rng at h
    split at h
    · exact h.2.2.2
    · split at h
      · obtain ⟨_, a, mid, _, _, h1, h2, h3⟩ := h
        have := rngL_le xs _ _ _ h3
        omega
      · split at h
        · exact h.2.2
        · split at h
          · rcases h with h | h
            · exact h.2.2
            · omega
          · omega
theorem rngL_le : ∀ (l : List Tm) (i lo hi : Nat), rngL F L R l i lo hi → lo ≤ hi
  | [], _, _, _, h => h
  | t :: r, i, lo, hi, h => by
    obtain ⟨c, mid, _, h1, h2⟩ := h
    have := rng_le t _ _ _ h1
    have := rngL_le r _ _ _ h2
    omega
end
end
theorem wordsP_form {most tag : Nat} {l : List Nat} {st : St} {c : Nat} {st' : St} (hq : wordsP most tag l st = ((c, 0), st')) : c = mkc tag st.C.length ∧ st' = { st with C := st.C ++ l } := by
  unfold wordsP at hq
  split at hq
  · rename_i h0
    have := pushAll_zero most l st.C _ (Prod.ext h0 rfl)
    simp only [Prod.mk.injEq] at hq
    exact ⟨hq.1.1.symm, by rw [← hq.2]; simp only [this]⟩
  · rename_i h0
    simp only [Prod.mk.injEq] at hq
    exact absurd hq.1.2 h0
theorem atI_len (s : St) (i : Int) (c : Nat) : (s.atI i c).C.length = s.C.length := by unfold St.atI; split <;> simp [St.at]
theorem atI_L (s : St) (i : Int) (c : Nat) : (s.atI i c).L = s.L ∧ (s.atI i c).V = s.V := by unfold St.atI; split <;> exact ⟨rfl, rfl⟩
section
variable {F : List Nat} {L : List ByteArray} {R : Int → Option Nat}
theorem leaf_rng (most : Nat) {k n re im : Int} {s : ByteArray} {ys : List Tm} (h1 : one (.mk k s n re im ys) = 0) (k5 : k ≠ 5) (own : Int) (st : St) {c : Nat} {st' : St} {P : Nat → Bool} (hl : leaf most (.mk k s n re im []) own st = ((c, 0), st'))
    (h : LayOk st.C P st.V) (hp : 0 ≤ own → P own.toNat = true) (hF : ∀ (i v : Nat), vw (st'.atI own c).C (lessI P own) i = some v → F[i]? = some v) (hL : ∀ (i : Nat) (v : ByteArray), st'.L[i]? = some v → L[i]? = some v) (hR : ∀ n c, lk st'.V n = some c → R n = some c) :
    rng F L R (.mk k s n re im ys) c st.C.length st'.C.length := by
  have hd0 := (leaf_dir most h1 k5 own st hl h hp).1.dir
  rw [(atI_L st' own c).1, (atI_L st' own c).2] at hd0
  have hd := dir_mono (M' := fun i => F[i]?) (N' := fun i => L[i]?) (R' := R) hF hL hR _ _ hd0
  clear hd0
  have hk := one_k h1
  simp only [Tm.k] at hk
  have : k = 1 ∨ k = 2 ∨ k = 3 ∨ k = 4 := by omega
  unfold dir at hd
  unfold rng
  rcases this with rfl | rfl | rfl | rfl
  · rw [if_pos rfl] at hd ⊢
    refine ⟨hd.1, hd.2.1, hd.2.2, ?_⟩
    rw [leaf_1, varP] at hl
    split at hl
    · simp only [Prod.mk.injEq] at hl
      rw [← hl.2]
      exact Nat.le_refl _
    · split at hl
      · split at hl
        · simp only [Prod.mk.injEq] at hl
          rw [← hl.2]
          simp
        · simp at hl
      · simp only [Prod.mk.injEq] at hl
        rw [← hl.2]
        exact Nat.le_refl _
  · rw [if_neg (by omega), if_neg (by omega), if_pos rfl] at hd ⊢
    rw [leaf_2] at hl
    rcases hq : number st.L s with ⟨⟨a, e⟩, L'⟩
    rw [hq] at hl
    simp only [Prod.mk.injEq] at hl
    obtain ⟨⟨rfl, rfl⟩, rfl⟩ := hl
    refine ⟨hd.1, ?_, Nat.le_refl _⟩
    rw [vl_mkc 2 a (by omega)]
    exact (number_first hq).mono hL
  · rw [if_neg (by omega), if_neg (by omega), if_neg (by omega), if_pos rfl] at hd ⊢
    rw [leaf_3] at hl
    split at hl
    · rename_i hs
      simp only [Prod.mk.injEq] at hl
      obtain ⟨⟨rfl, -⟩, rfl⟩ := hl
      exact .inl ⟨hs, rfl, Nat.le_refl _⟩
    · rename_i hs
      obtain ⟨rfl, rfl⟩ := wordsP_form hl
      rcases hd with hd | hd
      · exact absurd hd.1 hs
      · refine .inr ⟨by simpa using hs, hd.1, hd.2, ?_⟩
        rw [vl_mkc 4 _ (by omega)]
        simp
  · rw [if_neg (by omega), if_neg (by omega), if_neg (by omega), if_neg (by omega)] at hd ⊢
    rw [leaf_4] at hl
    obtain ⟨rfl, rfl⟩ := wordsP_form hl
    refine ⟨hd.1, hd.2.1, hd.2.2, ?_⟩
    rw [vl_mkc 5 _ (by omega)]
    simp
mutual
theorem lay_rng (most : Nat) : ∀ (t : Tm) (own : Int) (st : St) (c : Nat) (st' : St) (P : Nat → Bool), good t → lay most t own st = ((c, 0), st') → LayOk st.C P st.V → (0 ≤ own → P own.toNat = true) →
    (∀ (i v : Nat), vw (st'.atI own c).C (lessI P own) i = some v → F[i]? = some v) → (∀ (i : Nat) (v : ByteArray), st'.L[i]? = some v → L[i]? = some v) → (∀ n c, lk st'.V n = some c → R n = some c) →
    rng F L R t c st.C.length st'.C.length
  | .mk k s n re im xs, own, st, c, st', P, hg, hl, h, hp, hF, hL, hR => by
    have hld := lay_dir most (.mk k s n re im xs) own st c st' P hg hl h hp
    obtain ⟨g1, g2⟩ := hg
    unfold lay at hl
    by_cases k5 : k = 5
    · subst k5
      rw [if_pos rfl] at hl
      rcases ho : opn most s xs.length st with ⟨⟨p, e⟩, s1⟩
      rw [ho] at hl
      simp only at hl
      split at hl
      · rename_i he
        simp only [Prod.mk.injEq] at hl
        exact absurd hl.1.2 he
      · rename_i he
        simp only [ne_eq, Decidable.not_not] at he
        subst he
        obtain ⟨rfl, a, o1, o2, o3, o4⟩ := opn_dir most s xs.length st ho h
        obtain ⟨-, -, a', l, f1, -, f2, f3, f4⟩ := opn_form ho
        rcases hq : layL most xs (st.C.length + 1) s1 with ⟨e2, s2⟩
        rw [hq] at hl
        simp only at hl
        split at hl
        · rename_i he
          simp only [Prod.mk.injEq] at hl
          exact absurd hl.1.2 he
        · rename_i he
          simp only [ne_eq, Decidable.not_not] at he
          subst he
          simp only [Prod.mk.injEq] at hl
          obtain ⟨⟨rfl, -⟩, rfl⟩ := hl
          have hP : ∀ j, j < xs.length → moreN P (st.C.length + 1) xs.length (st.C.length + 1 + j) = true := fun j hj => by simp only [moreN, Bool.or_eq_true, decide_eq_true_eq]; omega
          obtain ⟨q1, q2, q3⟩ := layL_dir most xs (st.C.length + 1) s1 s2 _ (g2 rfl) hq o3 hP
          have eP : lessN (moreN P (st.C.length + 1) xs.length) (st.C.length + 1) xs.length = P := by
            funext i
            cases hpi : P i with
            | true =>
              have := h.old hpi
              simp [lessN, moreN, hpi]
              all_goals omega
            | false =>
              simp [lessN, moreN, hpi]
              all_goals omega
          have hF2 : ∀ (i v : Nat), vw s2.C P i = some v → F[i]? = some v := by
            intro i v hv
            by_cases ho2 : own < 0
            · refine hF i v ?_
              unfold St.atI lessI
              rw [if_pos ho2, if_pos ho2]
              exact hv
            · refine hF i v ?_
              unfold St.atI lessI
              rw [if_neg ho2, if_neg ho2]
              exact (Gr.fill (L := []) (V := []) own.toNat _ (hp (by omega))).cells _ _ hv
          have hr := layL_rng most xs (st.C.length + 1) s1 s2 _ (g2 rfl) hq o3 hP (by rw [eP]; exact hF2) hL hR
          rw [eP] at q2
          have e1 : s1.C.length = st.C.length + 1 + xs.length := by rw [f2]; simp [f3]; omega
          unfold rng
          rw [if_neg (by omega), if_pos rfl, vl_mkc 1 _ (by omega)]
          have ha : a' = a := by
            have h1 := o2
            unfold vw at h1
            split at h1
            · cases h1
            · rw [f2] at h1
              simp at h1
              have hx := (one_zero.1 g1).2.2.2.1 rfl
              simp only [Tm.xs] at hx
              have := (fArity_fun6 a' xs.length (by omega)).2.1
              have h3 := (fArity_fun6 a xs.length (by omega)).2.1
              rw [h1] at this
              omega
          subst ha
          exact ⟨tg_mkc 1 _ (by omega), a', s1.C.length, hF2 _ _ (q2.cells _ _ o2), ((number_first f1).mono (q2.names)).mono hL, Nat.le_refl _, by omega, hr⟩
    · rw [if_neg k5] at hl
      exact leaf_rng most g1 k5 own st hl h hp hF hL hR
theorem layL_rng (most : Nat) : ∀ (l : List Tm) (i : Nat) (st st' : St) (P : Nat → Bool), goodL l → layL most l i st = (0, st') → LayOk st.C P st.V → (∀ j, j < l.length → P (i + j) = true) →
    (∀ (j v : Nat), vw st'.C (lessN P i l.length) j = some v → F[j]? = some v) → (∀ (i : Nat) (v : ByteArray), st'.L[i]? = some v → L[i]? = some v) → (∀ n c, lk st'.V n = some c → R n = some c) →
    rngL F L R l i st.C.length st'.C.length
  | [], i, st, st', P, _, hl, h, _, _, _, _ => by
    simp only [layL, Prod.mk.injEq, true_and] at hl
    subst hl
    exact Nat.le_refl _
  | t :: r, i, st, st', P, hg, hl, h, hp, hF, hL, hR => by
    rcases hq : lay most t i st with ⟨⟨c, e⟩, s1⟩
    rw [layL_cons _ _ _ _ _ hq] at hl
    split at hl
    · rename_i he
      simp only [Prod.mk.injEq] at hl
      exact absurd hl.1 he
    · rename_i he
      simp only [ne_eq, Decidable.not_not] at he
      subst he
      have hP0 : P i = true := by simpa using hp 0 (by simp)
      have h1 := lay_dir most t i st c s1 P hg.1 hq h (fun _ => by simpa using hP0)
      have ei : lessI P (i : Int) = less P i := by unfold lessI; rw [if_neg (by omega)]; simp
      have ea : s1.atI (i : Int) c = s1.at i c := by unfold St.atI; rw [if_neg (by omega)]; simp
      have eP : lessN (less P i) (i + 1) r.length = lessN P i (t :: r).length := by
        funext j
        simp only [lessN, less, List.length_cons, Bool.and_assoc]
        congr 1
        rw [← Bool.decide_and]
        congr 1
        apply propext
        omega
      have hPr : ∀ j, j < r.length → less P i (i + 1 + j) = true := fun j hj => by
        have := hp (j + 1) (by simp; omega)
        simp only [less, Bool.and_eq_true, decide_eq_true_eq]
        exact ⟨by rw [show i + 1 + j = i + (j + 1) from by omega]; exact this, by omega⟩
      rw [ei, ea] at h1
      obtain ⟨q1, q2, q3⟩ := layL_dir most r (i + 1) (s1.at i c) st' (less P i) hg.2 hl h1.1.ok hPr
      have hr := layL_rng most r (i + 1) (s1.at i c) st' (less P i) hg.2 hl h1.1.ok hPr (by rw [eP]; exact hF) hL hR
      rw [eP] at q2
      have ht := lay_rng most t i st c s1 P hg.1 hq h (fun _ => by simpa using hP0) (by rw [ei, ea]; exact fun j v hv => hF j v (q2.cells j v hv)) (fun j v hv => hL j v (q2.names j v hv)) (fun n d hd => hR n d (q2.vars n d hd))
      refine ⟨c, s1.C.length, hF _ _ (q2.cells _ _ (by simpa using h1.2 (by omega))), ht, ?_⟩
      simpa [St.at] using hr
end
end
#print axioms lay_rng
end Go.Proofs.Ytceahdlcbiialaa
