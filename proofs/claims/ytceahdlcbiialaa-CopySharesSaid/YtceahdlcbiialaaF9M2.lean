/- Copying what was laid is laying it again. No condition. -/
import Derived.Test.YtceahdlcbiialaaF9M1
set_option linter.unusedVariables false
set_option linter.unusedSimpArgs false
set_option linter.unusedSectionVars false
namespace Go.Proofs.Ytceahdlcbiialaa
open Go.RowKit

/-- What was met, against what was laid: nothing that lies from lo to top. -/
structure CpRel (R : Int → Option Nat) (M : List (Nat × Nat)) (V : List (Int × Nat)) (lo top : Nat) : Prop where
  var : ∀ n c, R n = some c → lk M c = lk V n
  old : ∀ d o, lk M d = some o → tg d = 0 ∨ vl d < lo ∨ top ≤ vl d
theorem CpRel.le {R : Int → Option Nat} {M : List (Nat × Nat)} {V : List (Int × Nat)} {lo hi top : Nat} (h : CpRel R M V lo top) (hl : lo ≤ hi) : CpRel R M V hi top :=
  ⟨h.var, fun d o hd => by have := h.old d o hd; omega⟩
theorem CpRel.put {R : Int → Option Nat} {M : List (Nat × Nat)} {V : List (Int × Nat)} {lo hi top : Nat} (hR : ∀ n c, R n = some c → tg c = 0) (h : CpRel R M V lo top) (hl : lo ≤ hi) (d o : Nat) (hd : tg d ≠ 0) (hv : vl d < hi) : CpRel R (up M d o) V hi top := by
  refine ⟨fun n c hc => ?_, fun e p he => ?_⟩
  · rw [lk_up2, if_neg (fun e : c = d => hd (by rw [← e]; exact hR n c hc)), h.var n c hc]
  · rw [lk_up2] at he
    split at he
    · rename_i hq; subst hq; exact .inr (.inl hv)
    · have := h.old e p he; omega
theorem CpRel.newvar {R : Int → Option Nat} {M : List (Nat × Nat)} {V : List (Int × Nat)} {lo hi top : Nat} (hR : ∀ n c, R n = some c → tg c = 0) (hI : Inj R) (h : CpRel R M V lo top) (hl : lo ≤ hi) (n : Int) (c o : Nat) (hc : R n = some c) : CpRel R (up M c o) (up V n o) hi top := by
  refine ⟨fun m d hd => ?_, fun e p he => ?_⟩
  · rw [lk_up2, lk_up2]
    by_cases hm : m = n
    · subst hm
      rw [hc] at hd
      cases hd
      simp
    · have : d ≠ c := fun e => hm (hI m n d c hd hc (by rw [e]))
      rw [if_neg this, if_neg hm, h.var m d hd]
  · rw [lk_up2] at he
    split at he
    · rename_i hq; subst hq; exact .inl (hR n _ hc)
    · have := h.old e p he; omega
theorem rngL_get {F : List Nat} {L : List ByteArray} {R : Int → Option Nat} : ∀ (l : List Tm) (i j lo hi : Nat), rngL F L R l i lo hi → j < l.length → ∃ c, F[i + j]? = some c
  | t :: r, i, 0, lo, hi, h, _ => by
    obtain ⟨c, mid, h1, _, _⟩ := h
    exact ⟨c, by simpa using h1⟩
  | t :: r, i, j + 1, lo, hi, h, hj => by
    obtain ⟨c, mid, _, _, h2⟩ := h
    have := rngL_get r (i + 1) j mid hi h2 (by simpa using hj)
    rwa [show i + 1 + j = i + (j + 1) from by omega] at this
theorem cp_succ (src : List Nat → List Nat) (most f c : Nat) (own : Int) (s : CS) : cp src most (f + 1) c own s = match cpS src most c own s with
    | .bad e s1 => ((0, e), s1)
    | .leaf o s1 => ((o, 0), s1)
    | .comp at' args s1 => if (cpAll (cp src most f) args (at' + 1) s1).1 ≠ 0 then ((0, (cpAll (cp src most f) args (at' + 1) s1).1), (cpAll (cp src most f) args (at' + 1) s1).2) else ((mkc 1 at', 0), (cpAll (cp src most f) args (at' + 1) s1).2) := by
  rw [cp]
  cases cpS src most c own s <;> rfl
theorem cpAll_cons (g : Nat → Int → CS → (Nat × Nat) × CS) (c : Nat) (r : List Nat) (i : Nat) (s : CS) {o e : Nat} {s1 : CS} (h : g c i s = ((o, e), s1)) : cpAll g (c :: r) i s = if e ≠ 0 then (e, s1) else cpAll g r (i + 1) (s1.at i o) := by
  rw [cpAll, h]
section
variable {F : List Nat} {L : List ByteArray} {R : Int → Option Nat} {src : List Nat → List Nat} {most b : Nat}
theorem cpS_atom {c : Nat} {own : Int} {s : CS} (h : tg c = 2 ∨ tg c = 3) (hn : s.n < 100000) : cpS src most c own s = .leaf c { s with n := s.n + 1 } := by
  unfold cpS
  rw [if_neg (by omega)]
  simp only
  rw [deref_stop0 _ _ _ (by omega), if_pos h]
theorem cpS_met {c o : Nat} {own : Int} {s : CS} (hd : deref (src s.K) (src s.K).length c = c) (h : ¬ (tg c = 2 ∨ tg c = 3)) (hn : s.n < 100000) (hm : lk s.M c = some o) : cpS src most c own s = .leaf o { s with n := s.n + 1 } := by
  unfold cpS
  rw [if_neg (by omega)]
  simp only
  rw [hd, if_neg h, hm]
theorem cpS_new {c : Nat} {own : Int} {s : CS} (hd : deref (src s.K) (src s.K).length c = c) (h : ¬ (tg c = 2 ∨ tg c = 3)) (hn : s.n < 100000) (hm : lk s.M c = none) : cpS src most c own s = match cpF src most c own { s with n := s.n + 1 } with
    | .leaf o s2 => .leaf o (s2.met c o)
    | .comp at' args s2 => .comp at' args (s2.met c (mkc 1 at'))
    | .bad e s2 => .bad e s2 := by
  unfold cpS
  rw [if_neg (by omega)]
  simp only
  rw [hd, if_neg h, hm]
  cases cpF src most c own { s with n := s.n + 1 } <;> rfl
theorem cpW_zero {tag : Nat} {l : List Nat} {s : CS} {V : List (Int × Nat)} {o : Nat} {st' : St} (h : wordsP most tag l ⟨s.K, L, V⟩ = ((o, 0), st')) : cpW most tag l s = ((o, 0), { s with K := st'.C }) := by
  unfold wordsP at h
  unfold cpW
  simp only at h
  by_cases h0 : (pushAll most l s.K).1 = 0
  · rw [if_pos h0] at h ⊢
    simp only [Prod.mk.injEq] at h
    obtain ⟨⟨rfl, -⟩, rfl⟩ := h
    rfl
  · rw [if_neg h0] at h
    simp only [Prod.mk.injEq] at h
    exact absurd h.1.2 h0
variable (hI : Inj R) (hR : ∀ n c, R n = some c → tg c = 0) (hb : b ≤ F.length) (hsrc : ∀ K : List Nat, (∀ i, i < b → K[i]? = F[i]?) → ∀ (i v : Nat), F[i]? = some v → (src K)[i]? = some v)
include hI hR hsrc hb
theorem leaf_copy {k n re im : Int} {sx : ByteArray} {ys : List Tm} (h1 : one (.mk k sx n re im ys) = 0) (k5 : k ≠ 5) {f c lo hi top : Nat} {own : Int} {s : CS} {V : List (Int × Nat)} (hr : rng F L R (.mk k sx n re im ys) c lo hi) (hn : s.n < 100000) (hM : CpRel R s.M V lo top) (htop : hi ≤ top)
    (hG : ∀ i, i < b → s.K[i]? = F[i]?) {o : Nat} {st' : St} (hl : leaf most (.mk k sx n re im []) own ⟨s.K, L, V⟩ = ((o, 0), st')) :
    st'.L = L ∧ ∃ M', cp src most (f + 1) c own s = ((o, 0), ⟨st'.C, M', s.n + 1⟩) ∧ CpRel R M' st'.V hi top := by
  have hk := one_k h1
  simp only [Tm.k] at hk
  have hlo := rng_le _ _ _ _ hr
  have hS := hsrc s.K hG
  have : k = 1 ∨ k = 2 ∨ k = 3 ∨ k = 4 := by omega
  unfold rng at hr
  rcases this with rfl | rfl | rfl | rfl
  · rw [if_pos rfl] at hr
    obtain ⟨r1, r2, r3, -⟩ := hr
    have hd : deref (src s.K) (src s.K).length c = c := deref_self _ _ c (hS _ _ r3)
    rw [leaf_1, varP] at hl
    have hv := hM.var n c r1
    cases hq : lk V n with
    | some d =>
      rw [hq] at hl hv
      simp only [Prod.mk.injEq] at hl
      obtain ⟨⟨rfl, -⟩, rfl⟩ := hl
      refine ⟨rfl, s.M, ?_, hM.le hlo⟩
      rw [cp_succ, cpS_met hd (by omega) hn hv]
    | none =>
      rw [hq] at hl hv
      simp only at hl
      rw [cp_succ, cpS_new hd (by omega) hn hv]
      unfold cpF
      rw [if_pos r2, if_pos (hS _ _ r3)]
      unfold cpV
      simp only
      split at hl
      · rename_i ho
        split at hl
        · rename_i hm
          simp only [Prod.mk.injEq] at hl
          obtain ⟨⟨rfl, -⟩, rfl⟩ := hl
          rw [if_pos ho, if_pos hm]
          exact ⟨rfl, _, rfl, hM.newvar hR hI hlo n c _ r1⟩
        · simp at hl
      · rename_i ho
        simp only [Prod.mk.injEq] at hl
        obtain ⟨⟨rfl, -⟩, rfl⟩ := hl
        rw [if_neg ho]
        exact ⟨rfl, _, rfl, hM.newvar hR hI hlo n c _ r1⟩
  · rw [if_neg (by omega), if_neg (by omega), if_pos rfl] at hr
    obtain ⟨r1, r2, -⟩ := hr
    have hnum : number L sx = ((vl c, 0), L) := number_at (one_name (t := .mk 2 sx n re im ys) h1 (.inl rfl)) r2
    simp only [leaf_2, hnum, Prod.mk.injEq] at hl
    obtain ⟨⟨rfl, -⟩, rfl⟩ := hl
    refine ⟨rfl, s.M, ?_, hM.le hlo⟩
    rw [cp_succ, cpS_atom (.inl r1) hn]
    simp only
    rw [← r1, mkc_eta]
  · rw [if_neg (by omega), if_neg (by omega), if_neg (by omega), if_pos rfl] at hr
    rw [leaf_3] at hl
    rcases hr with ⟨r1, rfl, -⟩ | ⟨r1, r2, r3, r4, r5⟩
    · rw [if_pos r1] at hl
      simp only [Prod.mk.injEq] at hl
      obtain ⟨⟨rfl, -⟩, rfl⟩ := hl
      refine ⟨rfl, s.M, ?_, hM.le hlo⟩
      rw [cp_succ, cpS_atom (.inr (sint_small n r1).2) hn]
    · rw [if_neg (by simp [r1])] at hl
      have hq : lk s.M c = none := by
        cases hq : lk s.M c with
        | none => rfl
        | some o => have := hM.old c o hq; omega
      have hw := cpW_zero (s := { s with n := s.n + 1 }) hl
      obtain ⟨-, e2⟩ := wordsP_form hl
      rw [cp_succ, cpS_new (deref_stop0 _ _ _ (by omega)) (by omega) hn hq]
      unfold cpF
      rw [if_neg (by omega), if_neg (by omega), if_pos r2]
      simp only
      rw [hS _ _ r3]
      simp only
      rw [hw]
      simp only [if_true]
      exact ⟨by rw [e2], _, rfl, by rw [e2]; exact hM.put hR hlo c o (by omega) r5⟩
  · rw [if_neg (by omega), if_neg (by omega), if_neg (by omega), if_neg (by omega)] at hr
    rw [leaf_4] at hl
    obtain ⟨r2, r3, r3', r4, r5⟩ := hr
    have hq : lk s.M c = none := by
      cases hq : lk s.M c with
      | none => rfl
      | some o => have := hM.old c o hq; omega
    have hw := cpW_zero (s := { s with n := s.n + 1 }) hl
    obtain ⟨-, e2⟩ := wordsP_form hl
    rw [cp_succ, cpS_new (deref_stop0 _ _ _ (by omega)) (by omega) hn hq]
    unfold cpF
    rw [if_neg (by omega), if_neg (by omega), if_neg (by omega), if_pos r2]
    simp only
    rw [hS _ _ r3, hS _ _ r3']
    simp only
    rw [hw]
    simp only [if_true]
    exact ⟨by rw [e2], _, rfl, by rw [e2]; exact hM.put hR hlo c o (by omega) r5⟩
mutual
theorem cp_lay : ∀ (t : Tm) (f c : Nat) (own : Int) (s : CS) (V : List (Int × Nat)) (P : Nat → Bool) (lo hi top : Nat), hi ≤ top → good t → rng F L R t c lo hi → 100001 ≤ f + s.n → s.n + nodes t ≤ 100000 → CpRel R s.M V lo top → LayOk s.K P V → (0 ≤ own → P own.toNat = true) →
    (∀ i, i < b → P i = false) → (∀ i, i < b → s.K[i]? = F[i]?) → ∀ (o : Nat) (st' : St), lay most t own ⟨s.K, L, V⟩ = ((o, 0), st') →
    st'.L = L ∧ ∃ M' n', cp src most f c own s = ((o, 0), ⟨st'.C, M', n'⟩) ∧ n' ≤ s.n + nodes t ∧ CpRel R M' st'.V hi top
  | .mk k sx n re im xs, f, c, own, s, V, P, lo, hi, top, htop, hg, hr, hf, hn, hM, hO, hp, hbP, hG, o, st', hl => by
    obtain ⟨g1, g2⟩ := hg
    have hn1 : s.n < 100000 := by unfold nodes at hn; omega
    obtain ⟨f, rfl⟩ : ∃ f', f = f' + 1 := ⟨f - 1, by omega⟩
    unfold lay at hl
    by_cases k5 : k = 5
    · subst k5
      rw [if_pos rfl] at hl
      have hlo := rng_le _ _ _ _ hr
      have hS := hsrc s.K hG
      unfold rng at hr
      rw [if_neg (by omega), if_pos rfl] at hr
      obtain ⟨r1, a, mid, r2, r3, r4, r5, r6⟩ := hr
      rw [nodes, if_pos rfl] at hn
      obtain ⟨x1, x2, x3, x4, x5⟩ := one_zero.1 g1
      simp only [Tm.k, Tm.xs] at x4
      have x4 := x4 trivial
      rcases ho : opn most sx xs.length ⟨s.K, L, V⟩ with ⟨⟨p, e⟩, s1⟩
      rw [ho] at hl
      simp only at hl
      split at hl
      · rename_i he
        simp only [Prod.mk.injEq] at hl
        exact absurd hl.1.2 he
      · rename_i he
        simp only [ne_eq, Decidable.not_not] at he
        subst he
        obtain ⟨_, a1, o1, o2, o3, o4⟩ := opn_dir most sx xs.length ⟨s.K, L, V⟩ ho hO
        obtain ⟨rfl, f0, a2, l, f1, f5, f2, f3, f4⟩ := opn_form ho
        simp only at f0 f1 f2 f4 f5 o3 o4
        have hnum : number L sx = ((a, 0), L) := number_at (one_name (t := .mk 5 sx n re im xs) g1 (.inr rfl)) r3
        rw [hnum] at f1
        simp only [Prod.mk.injEq, and_true] at f1
        obtain ⟨rfl, hL1⟩ := f1
        rcases hq : layL most xs (s.K.length + 1) s1 with ⟨e2, s2⟩
        simp only at hl
        rw [hq] at hl
        simp only at hl
        split at hl
        · rename_i he
          simp only [Prod.mk.injEq] at hl
          exact absurd hl.1.2 he
        · rename_i he
          simp only [ne_eq, Decidable.not_not] at he
          subst he
          simp only [Prod.mk.injEq] at hl
          obtain ⟨⟨rfl, -⟩, rfl⟩ := hl
          have hbK : b ≤ s.K.length := by
            cases Nat.lt_or_ge s.K.length b with
            | inr h => exact h
            | inl h =>
              have h1 := hG s.K.length h
              rw [List.getElem?_eq_none (Nat.le_refl _), List.getElem?_eq_getElem (by omega)] at h1
              cases h1
          have hG1 : ∀ i, i < b → s1.C[i]? = F[i]? := by
            intro i hi
            rw [f2, List.append_assoc, List.getElem?_append_left (by omega)]
            exact hG i hi
          have hP : ∀ j, j < xs.length → moreN P (s.K.length + 1) xs.length (s.K.length + 1 + j) = true := fun j hj => by simp only [moreN, Bool.or_eq_true, decide_eq_true_eq]; omega
          have hlast : vl c + xs.length < F.length := by
            obtain ⟨cc, q1⟩ : ∃ cc, F[vl c + 1 + (xs.length - 1)]? = some cc := rngL_get xs (vl c + 1) (xs.length - 1) mid hi r6 (by omega)
            have := (List.getElem?_eq_some_iff.1 q1).1
            omega
          have hmh := rngL_le _ _ _ _ r6
          have hq0 : lk s.M c = none := by
            cases hq : lk s.M c with
            | none => rfl
            | some o => have := hM.old c o hq; omega
          have hS1 := hsrc s1.C hG1
          have hsl : vl c + xs.length < (src s.K).length := by
            have := hS (vl c + xs.length) _ (List.getElem?_eq_getElem hlast)
            exact (List.getElem?_eq_some_iff.1 this).1
          obtain ⟨y1, y2, y3⟩ := fArity_fun6 a xs.length x4.2
          have hfc : funC (src s.K) c = some (fun6 a xs.length, xs.length) := by
            unfold funC
            rw [hS _ _ r2]
            simp only [y3]
            rw [if_pos ⟨y1, x4.1, x4.2, hsl⟩]
          have hcpO : cpO most (fun6 a xs.length) xs.length { s with n := s.n + 1 } = ((s.K.length, 0), ⟨s1.C, s.M, s.n + 1⟩) := by
            unfold cpO
            simp only
            rw [if_pos f0, f5]
            simp
          rw [cp_succ, cpS_new (deref_stop0 _ _ _ (by omega)) (by omega) hn1 hq0]
          unfold cpF
          rw [if_neg (by omega), if_pos r1]
          simp only
          rw [hfc]
          simp only
          rw [hcpO]
          simp only [if_true, CS.met]
          have hs1 : s1 = ⟨s1.C, L, V⟩ := by rw [← f4, hL1]
          have hM1 : CpRel R (up s.M c (mkc 1 s.K.length)) V mid top := hM.put hR (by omega) c _ (by omega) r5
          rw [hs1] at hq
          obtain ⟨z1, M', n', z2, z3, z4⟩ := cpAll_lay xs f (((src s1.C).drop (vl c + 1)).take xs.length) (vl c + 1) (s.K.length + 1) ⟨s1.C, up s.M c (mkc 1 s.K.length), s.n + 1⟩ V _ mid hi top htop (g2 rfl) r6 (by simp only; omega) (by simp only; omega) hM1 (by rw [f4] at o3; exact o3) hP
            (fun i hi => by simp only [moreN, hbP i hi, Bool.false_or, decide_eq_false_iff_not]; omega) hG1
            (by
              have h2 : vl c + xs.length < (src s1.C).length := by
                have := hS1 (vl c + xs.length) _ (List.getElem?_eq_getElem hlast)
                exact (List.getElem?_eq_some_iff.1 this).1
              rw [List.length_take, List.length_drop]; omega)
            (fun j v hj hv => by
              rw [List.getElem?_take, if_pos hj, List.getElem?_drop]
              exact hS1 _ _ hv) s2 hq
          rw [z2]
          exact ⟨z1, M', n', by simp, by simp only [nodes, if_true] at z3 ⊢; omega, z4⟩
    · rw [if_neg k5] at hl
      obtain ⟨z1, M', z2, z3⟩ := leaf_copy hI hR hb hsrc g1 k5 (f := f) hr hn1 hM htop hG hl
      exact ⟨z1, M', s.n + 1, z2, by rw [nodes]; omega, z3⟩
theorem cpAll_lay : ∀ (l : List Tm) (f : Nat) (args : List Nat) (j i : Nat) (s : CS) (V : List (Int × Nat)) (P : Nat → Bool) (lo hi top : Nat), hi ≤ top → goodL l → rngL F L R l j lo hi → 100001 ≤ f + s.n → s.n + nodesL l ≤ 100000 → CpRel R s.M V lo top → LayOk s.K P V → (∀ k, k < l.length → P (i + k) = true) →
    (∀ i, i < b → P i = false) → (∀ i, i < b → s.K[i]? = F[i]?) → args.length = l.length → (∀ k v, k < l.length → F[j + k]? = some v → args[k]? = some v) → ∀ (st' : St), layL most l i ⟨s.K, L, V⟩ = (0, st') →
    st'.L = L ∧ ∃ M' n', cpAll (cp src most f) args i s = (0, ⟨st'.C, M', n'⟩) ∧ n' ≤ s.n + nodesL l ∧ CpRel R M' st'.V hi top
  | [], f, args, j, i, s, V, P, lo, hi, top, htop, _, hr, hf, hn, hM, hO, hp, hbP, hG, ha, hargs, st', hl => by
    simp only [layL, Prod.mk.injEq, true_and] at hl
    subst hl
    have : args = [] := List.length_eq_zero_iff.1 ha
    subst this
    exact ⟨rfl, s.M, s.n, rfl, by simp [nodesL], hM.le hr⟩
  | t :: r, f, args, j, i, s, V, P, lo, hi, top, htop, hg, hr, hf, hn, hM, hO, hp, hbP, hG, ha, hargs, st', hl => by
    cases args with
    | nil => simp at ha
    | cons x args =>
      obtain ⟨c, mid, r1, r2, r3⟩ := hr
      rw [nodesL] at hn
      have hx : x = c := by
        have := hargs 0 c (by simp) (by simpa using r1)
        simpa using this
      subst hx
      rcases hq : lay most t i ⟨s.K, L, V⟩ with ⟨⟨o, e⟩, s1⟩
      rw [layL_cons _ _ _ _ _ hq] at hl
      split at hl
      · rename_i he
        simp only [Prod.mk.injEq] at hl
        exact absurd hl.1 he
      · rename_i he
        simp only [ne_eq, Decidable.not_not] at he
        subst he
        have hP0 : P i = true := by simpa using hp 0 (by simp)
        obtain ⟨z1, M1, n1, z2, z3, z4⟩ := cp_lay t f x i s V P lo mid top (by have := rngL_le _ _ _ _ r3; omega) hg.1 r2 hf (by omega) hM hO (fun _ => by simpa using hP0) hbP hG o s1 hq
        have h1 := lay_dir most t i ⟨s.K, L, V⟩ o s1 P hg.1 hq hO (fun _ => by simpa using hP0)
        have ei : lessI P (i : Int) = less P i := by unfold lessI; rw [if_neg (by omega)]; simp
        have ea : s1.atI (i : Int) o = s1.at i o := by unfold St.atI; rw [if_neg (by omega)]; simp
        rw [ei, ea] at h1
        have hPr : ∀ k, k < r.length → less P i (i + 1 + k) = true := fun k hk => by
          have := hp (k + 1) (by simp; omega)
          simp only [less, Bool.and_eq_true, decide_eq_true_eq]
          exact ⟨by rw [show i + 1 + k = i + (k + 1) from by omega]; exact this, by omega⟩
        have hn1 : s.n ≤ n1 := by
          have := cp_n src most f x (i : Int) s
          rw [z2] at this
          exact this
        have hG1 : ∀ k, k < b → (s1.at i o).C[k]? = F[k]? := by
          intro k hk
          have h3 : F[k]? = some F[k] := List.getElem?_eq_getElem (by omega)
          have h2 : vw s.K P k = some F[k] := vw_of (hbP k hk) (by rw [hG k hk, h3])
          rw [(vw_in (h1.1.gr.cells _ _ h2)).2, h3]
        have hs1 : s1.at i o = ⟨(s1.at i o).C, L, s1.V⟩ := by rw [← z1]; rfl
        rw [hs1] at hl
        obtain ⟨y1, M2, n2, y2, y3, y4⟩ := cpAll_lay r f args (j + 1) (i + 1) ⟨(s1.at i o).C, M1, n1⟩ s1.V (less P i) mid hi top htop hg.2 r3 (by simp only; omega) (by simp only; omega) z4 h1.1.ok hPr
          (fun k hk => by simp only [less, hbP k hk, Bool.false_and]) hG1 (by simpa using ha) (fun k v hk hv => by
            have := hargs (k + 1) v (by simp; omega) (by rw [show j + (k + 1) = j + 1 + k from by omega]; exact hv)
            simpa using this) st' hl
        refine ⟨y1, M2, n2, ?_, by simp only [nodesL] at y3 ⊢; omega, y4⟩
        rw [cpAll_cons _ _ _ _ _ z2, if_neg (by simp)]
        exact y2
end
end
#print axioms cp_lay
end Go.Proofs.Ytceahdlcbiialaa
