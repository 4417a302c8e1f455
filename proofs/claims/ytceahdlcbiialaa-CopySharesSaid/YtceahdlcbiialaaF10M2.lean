/- CopyShares: what its steps come to. No condition. -/
import Derived.Test.YtceahdlcbiialaaF10M1
import Derived.Test.YtceahdlcbiialaaF5M29
set_option linter.unusedVariables false
set_option linter.unusedSimpArgs false
set_option linter.unusedSectionVars false
namespace Go.Proofs.Ytceahdlcbiialaa
open Go.RowKit

section
variable {F F' : List Nat} {L L' : List ByteArray} {R R' : Int → Option Nat} (hF : ∀ (i v : Nat), F[i]? = some v → F'[i]? = some v) (hL : ∀ (i : Nat) (v : ByteArray), L[i]? = some v → L'[i]? = some v) (hR : ∀ i v, R i = some v → R' i = some v)
include hF hL hR
mutual
theorem rng_mono : ∀ (t : Tm) (c lo hi : Nat), rng F L R t c lo hi → rng F' L' R' t c lo hi
  | .mk k s n re im xs, c, lo, hi, h => by
    unfold rng at h ⊢
    split at h
    · rename_i h1
      rw [if_pos h1]
      exact ⟨hR _ _ h.1, h.2.1, hF _ _ h.2.2.1, h.2.2.2⟩
    · rename_i h1
      rw [if_neg h1]
      split at h
      · rename_i h5
        rw [if_pos h5]
        obtain ⟨a1, a, mid, a2, a3, a4, a5, a6⟩ := h
        exact ⟨a1, a, mid, hF _ _ a2, a3.mono hL, a4, a5, rngL_mono xs _ _ _ a6⟩
      · rename_i h5
        rw [if_neg h5]
        split at h
        · rename_i h2
          rw [if_pos h2]
          exact ⟨h.1, h.2.1.mono hL, h.2.2⟩
        · rename_i h2
          rw [if_neg h2]
          split at h
          · rename_i h3
            rw [if_pos h3]
            exact h.imp id fun x => ⟨x.1, x.2.1, hF _ _ x.2.2.1, x.2.2.2⟩
          · rename_i h3
            rw [if_neg h3]
            exact ⟨h.1, hF _ _ h.2.1, hF _ _ h.2.2.1, h.2.2.2⟩
theorem rngL_mono : ∀ (l : List Tm) (i lo hi : Nat), rngL F L R l i lo hi → rngL F' L' R' l i lo hi
  | [], _, _, _, h => h
  | t :: r, i, lo, hi, h => by
    obtain ⟨c, mid, h1, h2, h3⟩ := h
    exact ⟨c, mid, hF _ _ h1, rng_mono t _ _ _ h2, rngL_mono r _ _ _ h3⟩
end
end
/-- A cell that stands for a term is what its references come to. -/
theorem rng_deref {F l : List Nat} {L : List ByteArray} {R : Int → Option Nat} {k : Nat} (hl : ∀ (i v : Nat), F[i]? = some v → l[i]? = some v) : ∀ (t : Tm) (c lo hi : Nat), rng F L R t c lo hi → deref l k c = c
  | .mk kk s n re im xs, c, lo, hi, h => by
    unfold rng at h
    split at h
    · exact deref_self _ _ _ (hl _ _ h.2.2.1)
    · refine deref_stop0 _ _ _ ?_
      split at h
      · omega
      · split at h
        · omega
        · split at h
          · rcases h with h | h
            · have := (sint_small n h.1).2
              rw [← h.2.1] at this
              omega
            · omega
          · omega
abbrev v0 : Tm := .mk 1 ⟨#[]⟩ 0 0 0 []
/-- f(X, X, X). -/
def shT : Tm := .mk 5 ⟨#[102]⟩ 0 0 0 [v0, v0, v0]
theorem shT_may : May shT = 0 := by kernel_rfl
theorem sh_put (C : List Nat) (L : List ByteArray) (c : Nat) (hC : C.length + 4 ≤ 10000) (hL : L.length < 4096) : ∃ a L', number L ⟨#[102]⟩ = ((a, 0), L') ∧ putP 10000 shT ⟨C, L, [(0, c)]⟩ = ((mkc 1 C.length, 0), ⟨C ++ [fun6 a 3, c, c, c], L', [(0, c)]⟩) := by
  have hnum : ∃ a L', number L ⟨#[102]⟩ = ((a, 0), L') := by
    unfold number
    rw [if_neg (by decide)]
    cases place L ⟨#[102]⟩ 0 with
    | some i => exact ⟨i, L, rfl⟩
    | none => exact ⟨L.length, _, by rw [if_neg (by omega)]⟩
  obtain ⟨a, L', hnum⟩ := hnum
  refine ⟨a, L', hnum, ?_⟩
  have hva : varAll 10000 3 (C ++ [fun6 a 3]) = (0, C ++ [fun6 a 3, mkc 0 (C.length + 1), mkc 0 (C.length + 2), mkc 0 (C.length + 3)]) := by
    simp only [varAll, List.length_append, List.length_cons, List.length_nil]
    rw [if_pos (by omega), if_pos (by omega), if_pos (by omega)]
    simp
  have ho : opn 10000 ⟨#[102]⟩ 3 ⟨C, L, [(0, c)]⟩ = ((C.length, 0), ⟨C ++ [fun6 a 3, mkc 0 (C.length + 1), mkc 0 (C.length + 2), mkc 0 (C.length + 3)], L', [(0, c)]⟩) := by
    unfold opn
    simp only [hnum]
    rw [if_neg (by simp), if_pos (by omega), hva]
    simp
  have hv : ∀ (i : Nat) (C1 : List Nat) (L1 : List ByteArray), lay 10000 v0 (i : Int) ⟨C1, L1, [(0, c)]⟩ = ((c, 0), ⟨C1, L1, [(0, c)]⟩) := fun i C1 L1 => rfl
  have hset : ∀ (l : List Nat) (k : Nat), (C ++ l).set (C.length + k) c = C ++ l.set k c := fun l k => by
    rw [List.set_append_right _ _ (by omega), Nat.add_sub_cancel_left]
  have hl3 : layL 10000 [v0, v0, v0] (C.length + 1) ⟨C ++ [fun6 a 3, mkc 0 (C.length + 1), mkc 0 (C.length + 2), mkc 0 (C.length + 3)], L', [(0, c)]⟩ = (0, ⟨C ++ [fun6 a 3, c, c, c], L', [(0, c)]⟩) := by
    rw [layL_cons _ _ _ _ _ (hv _ _ _), if_neg (by simp), St.at]
    simp only
    rw [hset, layL_cons _ _ _ _ _ (hv _ _ _), if_neg (by simp), St.at]
    simp only
    rw [show C.length + 1 + 1 = C.length + 2 from rfl, hset, layL_cons _ _ _ _ _ (hv _ _ _), if_neg (by simp), St.at, layL]
    simp only
    rw [show C.length + 2 + 1 = C.length + 3 from rfl, hset]
    rfl
  have hl : lay 10000 shT (-1) ⟨C, L, [(0, c)]⟩ = ((mkc 1 C.length, 0), ⟨C ++ [fun6 a 3, c, c, c], L', [(0, c)]⟩) := by
    rw [shT, lay, if_pos rfl]
    simp only [List.length_cons, List.length_nil]
    rw [ho]
    simp only [ne_eq, not_true_eq_false, if_false]
    rw [hl3]
    simp
  rw [← putP_lay shT_may (lay_putP shT_may (by rw [hl])), hl]
theorem shares_pure {t : Tm} (ht : May t = 0) (rt : rngd t) (hn : nodes t ≤ 300) (hdp : depthT t ≤ 400) {r1 r2 r4 : (Nat × Nat) × St} (e1 : r1 = putP 10000 t ⟨[], names0, []⟩) (e2 : r2 = putP 10000 t ⟨[], r1.2.L, []⟩) (e4 : r4 = putP 10000 shT ⟨r1.2.C, r1.2.L, [(0, r1.1.1)]⟩) :
    ∃ K5, (r1.1.2 = 0 ∧ r2.1.2 = 0 ∧ r4.1.2 = 0) ∧ (r1.1.1 < 18446744073709551616 ∧ r4.1.1 < 18446744073709551616) ∧
    ((finC (fun _ => r1.2.C) 10000 [⟨r1.1.1, -1, false⟩] 0 ⟨[], [], 0⟩).1 = (r2.1.1, 0) ∧ (finC (fun _ => r1.2.C) 10000 [⟨r1.1.1, -1, false⟩] 0 ⟨[], [], 0⟩).2.K = r2.2.C) ∧
    ((finC (fun _ => r4.2.C) 10000 [⟨r4.1.1, -1, false⟩] 0 ⟨[], [], 0⟩).1 = (mkc 1 0, 0) ∧ (finC (fun _ => r4.2.C) 10000 [⟨r4.1.1, -1, false⟩] 0 ⟨[], [], 0⟩).2.K = K5) ∧
    K5.length ≤ r2.2.C.length + 4 ∧ r2.2.C.length ≤ 10000 ∧ (rd K5 r4.2.L 500 (mkc 1 0) ⟨[], 0⟩).1 = (.mk 5 ⟨#[102]⟩ 0 0 0 [renT t, renT t, renT t], 0) := by
  have nt := (May_zero ht).1
  have gt := (May_zero ht).2
  have hn0 : names0.length = 2 := rfl
  obtain ⟨a1, a2, a3⟩ := put_fits (most := 10000) ht ⟨[], names0, []⟩ (by simp only; omega) (by simp)
  have g1 := put_rng (most := 10000) ht a1 LayOk.none
  have l1 := put_dir (most := 10000) ht a1 (st := ⟨[], names0, []⟩) LayOk.none
  have o1 := put_ok (most := 10000) ht ⟨[], names0, []⟩ stok1 a1
  rw [← e1] at a1 a2 a3 g1 l1 o1
  simp only [List.length_nil] at a2 a3 g1
  have d1 := l1.dir
  have hN := dir_names t _ d1
  obtain ⟨z1, z2, z3⟩ := lay_known 10000 t (-1) ⟨[], r1.2.L, []⟩ gt hN (by have := takes_le t (-1) []; simp only [List.length_nil]; omega)
  have b1 := lay_putP ht z1
  rw [putP_lay ht b1, ← e2] at z2
  have c1 := copy_put (src := fun _ => r1.2.C) (most := 10000) (b := 0) ht l1.ok.isInj (fun n c h => (l1.ok.vars n c h).1) (Nat.zero_le _) (fun K _ i v h => h) g1 (fun i hi => by omega) b1
  rw [← e2] at b1 c1
  simp only [List.length_nil] at z2
  obtain ⟨a, L', hnum, hp⟩ := sh_put r1.2.C r1.2.L r1.1.1 (by omega) (by omega)
  rw [hp] at e4
  subst e4
  have htk := takes_le t (-1) []
  have h2 : r2.1 = (r2.1.1, 0) := Prod.ext rfl b1
  rw [h2] at c1
  obtain ⟨F, hF⟩ : ∃ F, F = r1.2.C ++ [fun6 a 3, r1.1.1, r1.1.1, r1.1.1] := ⟨_, rfl⟩
  obtain ⟨c, hc⟩ : ∃ c, c = r1.1.1 := ⟨_, rfl⟩
  obtain ⟨d, hd⟩ : ∃ d, d = mkc 1 r1.2.C.length := ⟨_, rfl⟩
  have hL' := (number_dir hnum).2
  have hFm : ∀ (i v : Nat), r1.2.C[i]? = some v → F[i]? = some v := fun i v h => by rw [hF, List.getElem?_append_left (List.getElem?_eq_some_iff.1 h).1]; exact h
  have g4 : rng F L' (lk r1.2.V) t c 0 r1.2.C.length := by
    rw [hc]
    exact rng_mono hFm hL' (fun _ _ h => h) _ _ _ _ g1
  have hN' : allN (· ∈ L') t := by
    have := dir_mono (M' := vw r1.2.C (fun _ => false)) (N' := fun i => L'[i]?) (R' := lk r1.2.V) (fun _ _ h => h) hL' (fun _ _ h => h) t _ d1
    exact dir_names t _ this
  have hI := l1.ok.isInj
  have hR : ∀ n c, lk r1.2.V n = some c → tg c = 0 := fun n c h => (l1.ok.vars n c h).1
  have hdc : ∀ (l : List Nat), deref F l.length c = c := fun l => rng_deref (fun _ _ h => h) t c _ _ g4
  -- the first step
  obtain ⟨K4, hK4⟩ : ∃ K4, K4 = [fun6 a 3, mkc 0 1, mkc 0 2, mkc 0 3] := ⟨_, rfl⟩
  have td : tg d = 1 := by rw [hd]; exact tg_mkc 1 _ (by omega)
  have vd : vl d = r1.2.C.length := by rw [hd]; exact vl_mkc 1 _ (by omega)
  obtain ⟨y1, y2, y3⟩ := fArity_fun6 a 3 (by omega)
  have hFl : F.length = r1.2.C.length + 4 := by rw [hF]; simp
  have hfd : F[vl d]? = some (fun6 a 3) := by rw [hF, vd, List.getElem?_append_right (Nat.le_refl _)]; simp
  have hfc : funC F d = some (fun6 a 3, 3) := by
    unfold funC
    rw [hfd]
    simp only [y3]
    rw [if_pos ⟨y1, by omega, by omega, by omega⟩]
  have hargs : (F.drop (vl d + 1)).take 3 = [c, c, c] := by
    rw [hF, vd, hc, ← List.drop_drop, List.drop_left]
    rfl
  have hcpO : cpO 10000 (fun6 a 3) 3 ⟨[], [], 1⟩ = ((0, 0), ⟨K4, [], 1⟩) := by
    rw [hK4]
    unfold cpO
    simp [varAll]
  have hS : cpS (fun _ => F) 10000 d (-1) ⟨[], [], 0⟩ = .comp 0 [c, c, c] ⟨K4, [(d, mkc 1 0)], 1⟩ := by
    rw [cpS_new (deref_stop0 _ _ _ (by omega)) (by omega) (by simp) rfl]
    unfold cpF
    rw [if_neg (by omega), if_pos td]
    simp only
    rw [hfc]
    simp only
    rw [hcpO]
    simp only [if_true, hargs]
    rfl
  -- the first argument
  have hOk : LayOk K4 (moreN (fun _ => false) 1 3) [] := by
    refine ⟨(fun i hi => ?_), (fun n c h => by cases h), (fun n m c h => by cases h)⟩
    simp only [moreN, Bool.false_or, decide_eq_true_eq] at hi
    have : i = 1 ∨ i = 2 ∨ i = 3 := by omega
    rcases this with rfl | rfl | rfl <;> rw [hK4] <;> rfl
  have htk1 := takes_le t ((1 : Nat) : Int) []
  obtain ⟨w1, w2, w3⟩ := lay_known 10000 t ((1 : Nat) : Int) ⟨K4, L', []⟩ gt hN' (by rw [hK4]; simp only [List.length_cons, List.length_nil]; omega)
  rcases hq : lay 10000 t ((1 : Nat) : Int) ⟨K4, L', []⟩ with ⟨⟨o, e⟩, st⟩
  rw [hq] at w1 w2 w3
  simp only at w1 w2 w3
  subst w1
  have hM0 : CpRel (lk r1.2.V) [(d, mkc 1 0)] [] 0 r1.2.C.length := by
    refine ⟨fun n x hx => ?_, fun x o hx => ?_⟩
    · have := hR n x hx
      have hne : x ≠ d := fun e => by rw [e] at this; omega
      simp [lk, hne]
    · unfold lk at hx
      split at hx
      · rename_i he; subst he; omega
      · cases hx
  have hPo : 0 ≤ ((1 : Nat) : Int) → moreN (fun _ => false) 1 3 (((1 : Nat) : Int)).toNat = true := fun _ => by decide
  obtain ⟨-, M', n', u2, u3, u4⟩ := cp_lay (src := fun _ => F) (b := 0) hI hR (Nat.zero_le _) (fun K _ i v h => h) t 100000 c ((1 : Nat) : Int) ⟨K4, [(d, mkc 1 0)], 1⟩ [] _ 0 r1.2.C.length r1.2.C.length (Nat.le_refl _) gt g4 (by simp only; omega) (by simp only; omega) hM0 hOk hPo (fun i hi => by omega) (fun i hi => by omega) o st hq
  simp only at u3
  have hm := cp_met u2 (hdc _) (by simp)
  have k2 := cp_again (src := fun _ => F) (most := 10000) (f := 99999) (own := ((2 : Nat) : Int)) (s := ⟨(st.C.set 1 o), M', n'⟩) hm (hdc _) (by simp only; omega)
  have k3 := cp_again (src := fun _ => F) (most := 10000) (f := 99999) (own := ((3 : Nat) : Int)) (s := ⟨((st.C.set 1 o).set 2 o), M', n' + 1⟩) hm (hdc _) (by simp only; omega)
  obtain ⟨K5, hK5⟩ : ∃ K5, K5 = ((st.C.set 1 o).set 2 o).set 3 o := ⟨_, rfl⟩
  have hall : cpAll (cp (fun _ => F) 10000 100000) [c, c, c] 1 ⟨K4, [(d, mkc 1 0)], 1⟩ = (0, ⟨K5, M', n' + 1 + 1⟩) := by
    rw [cpAll_cons _ _ _ _ _ u2, if_neg (by simp), CS.at]
    simp only
    rw [cpAll_cons _ _ _ _ _ k2, if_neg (by simp), CS.at]
    simp only
    rw [cpAll_cons _ _ _ _ _ k3, if_neg (by simp), CS.at, cpAll, hK5]
  have hfin : finC (fun _ => F) 10000 [⟨d, -1, false⟩] 0 ⟨[], [], 0⟩ = ((mkc 1 0, 0), ⟨K5, M', n' + 1 + 1⟩) := by
    have e : cpX (fun _ => F) 10000 d (-1) ⟨[], [], 0⟩ = ((mkc 1 0, 0), ⟨K5, M', n' + 1 + 1⟩) := by
      rw [cpX, show (100001 : Nat) = 100000 + 1 from rfl, cp_succ, hS]
      simp only
      rw [hall]
      simp
    rw [finC, e]
    simp [finC, CS.atI]
  -- what it stands for
  have ld := lay_dir 10000 t ((1 : Nat) : Int) ⟨K4, L', []⟩ o st _ gt hq hOk hPo
  have ei : lessI (moreN (fun _ => false) 1 3) ((1 : Nat) : Int) = less (moreN (fun _ => false) 1 3) 1 := by unfold lessI; rw [if_neg (by omega)]; simp
  have ea : st.atI ((1 : Nat) : Int) o = st.at 1 o := by unfold St.atI; rw [if_neg (by omega)]; simp
  rw [ei, ea] at ld
  obtain ⟨P, hP⟩ : ∃ P, P = less (moreN (fun _ => false) 1 3) 1 := ⟨_, rfl⟩
  rw [← hP] at ld
  have p2 : P 2 = true := by rw [hP]; decide
  have p3 : less P 2 3 = true := by rw [hP]; decide
  obtain ⟨x1, x2⟩ := ld
  have xl := x1.ok
  have f2 := xl.fill 2 o p2
  have f3 := f2.1.fill 3 o p3
  have gr2 : Gr (st.at 1 o).C P L' st.V ((st.at 1 o).C.set 2 o) (less P 2) L' st.V := Gr.fill 2 o p2
  have gr3 : Gr ((st.at 1 o).C.set 2 o) (less P 2) L' st.V (((st.at 1 o).C.set 2 o).set 3 o) (less (less P 2) 3) L' st.V := Gr.fill 3 o p3
  have gr := gr2.trans gr3
  have hK5v : ∀ (i v : Nat), vw (((st.at 1 o).C.set 2 o).set 3 o) (less (less P 2) 3) i = some v → K5[i]? = some v := fun i v h => by rw [hK5]; exact (vw_in h).2
  have hstL : (st.at 1 o).L = L' := w3
  have hdo : dir (fun i => K5[i]?) (fun i => L'[i]?) (lk st.V) t o := by
    have q := x1.dir
    rw [hstL] at q
    exact dir_mono (fun i v h => hK5v i v (gr.cells i v h)) (fun _ _ h => h) (fun _ _ h => h) t o q
  have s1 : K5[1]? = some o := hK5v 1 o (gr.cells 1 o (x2 (by omega)))
  have s2 : K5[2]? = some o := hK5v 2 o (gr3.cells 2 o f2.2)
  have s3 : K5[3]? = some o := hK5v 3 o f3.2
  have s0 : K5[0]? = some (fun6 a 3) := by
    have h0 : vw K4 (moreN (fun _ => false) 1 3) 0 = some (fun6 a 3) := vw_of (by decide) (by rw [hK4]; rfl)
    exact hK5v 0 _ (gr.cells 0 _ (x1.gr.cells 0 _ h0))
  have hla : L'[a]? = some ⟨#[102]⟩ := (number_dir hnum).1
  have hdir : dir (fun i => K5[i]?) (fun i => L'[i]?) (lk st.V) (.mk 5 ⟨#[102]⟩ 0 0 0 [t, t, t]) (mkc 1 0) := by
    unfold dir
    rw [if_neg (by omega), if_pos rfl, tg_mkc 1 _ (by omega), vl_mkc 1 _ (by omega)]
    exact ⟨rfl, ⟨a, s0, hla⟩, ⟨o, s1, hdo⟩, ⟨o, s2, hdo⟩, ⟨o, s3, hdo⟩, trivial⟩
  have hmay : May (.mk 5 ⟨#[102]⟩ 0 0 0 [t, t, t]) = 0 := by
    refine May_of (c := 0 + nodes (.mk 5 ⟨#[102]⟩ 0 0 0 [t, t, t])) (may_deep _ 1 0 ⟨by simp [one, Tm.k, Tm.n, Tm.xs, Tm.s]; decide, fun _ => ⟨gt, gt, gt, trivial⟩⟩ ?_ ?_)
    · simp only [depthT, depthL, if_true]; omega
    · simp only [nodes, nodesL, if_true]; omega
  have hrg : rngd (.mk 5 ⟨#[102]⟩ 0 0 0 [t, t, t]) := ⟨by omega, by omega, by omega, fun _ => ⟨rt, rt, rt, trivial⟩⟩
  obtain ⟨V2, q2, -, -⟩ := read_dir f3.1.isInj hrg hmay hdir (l := []) (V := []) VR.none
  have hvars : varsT (.mk 5 ⟨#[102]⟩ 0 0 0 [t, t, t]) [] = varsT t [] := by
    rw [varsT, if_neg (by omega), if_pos rfl]
    simp only [varsL]
    rw [varsT_idem t _ (allV_own t []), varsT_idem t _ (allV_own t [])]
  rw [hvars, nm_comp] at q2
  simp only [nmL, mapL] at q2
  have hren : mapT (fun n => tVar ↑(noOf (varsT t []) n)) t = renT t := by
    have := renT_eq ht
    rw [nm] at this
    exact this
  rw [hren] at q2
  refine ⟨K5, ⟨a1, b1, rfl⟩, ⟨o1.1, ?_⟩, c1.2, ?_, ?_, by omega, q2⟩
  · exact mkc_lt 1 _ (by omega) (by omega)
  · simp only
    rw [← hF, ← hd, hfin]
    exact ⟨rfl, rfl⟩
  · have hk5l : K5.length = 4 + takes t ((1 : Nat) : Int) [] := by
      rw [hK5]
      simp only [List.length_set, w2, hK4, List.length_cons, List.length_nil]
    have : takes t ((1 : Nat) : Int) [] ≤ takes t (-1) [] := by
      unfold takes
      split
      · rw [if_neg (by omega)]; omega
      · omega
    omega
#print axioms shares_pure
end Go.Proofs.Ytceahdlcbiialaa
