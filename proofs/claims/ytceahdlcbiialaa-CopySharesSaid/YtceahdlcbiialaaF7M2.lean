/- Laid twice with the same variables, both read as one term with shared ones. No condition. -/
import Derived.Test.YtceahdlcbiialaaF6M4
set_option linter.unusedVariables false
set_option linter.unusedSimpArgs false
namespace Go.Proofs.Ytceahdlcbiialaa
open Go.RowKit

mutual
theorem varsT_idem : ∀ (t : Tm) (l : List Int), allV (· ∈ l) t → varsT t l = l
  | .mk k s n re im xs, l, ⟨h1, h2⟩ => by
    unfold varsT
    split
    · rename_i hk; rw [if_pos (h1 hk)]
    · split
      · rename_i hk; exact varsL_idem xs l (h2 hk)
      · rfl
theorem varsL_idem : ∀ (xs : List Tm) (l : List Int), allVL (· ∈ l) xs → varsL xs l = l
  | [], l, _ => rfl
  | t :: r, l, ⟨h1, h2⟩ => by rw [varsL, varsT_idem t l h1, varsL_idem r l h2]
end
theorem lk_keys {α β : Type} [DecidableEq α] (a : α) : ∀ V : List (α × β), (lk V a = none ↔ a ∉ V.map (·.1))
  | [] => by simp [lk]
  | (k, y) :: V => by
    unfold lk
    by_cases h : a = k
    · simp [h]
    · rw [if_neg h, lk_keys a V]
      simp [h]
theorem leaf_keys (most : Nat) {k n re im : Int} {s : ByteArray} {ys : List Tm} (k5 : k ≠ 5) (own : Int) (st : St) (h : (leaf most (.mk k s n re im []) own st).1.2 = 0) :
    (leaf most (.mk k s n re im []) own st).2.V.map (·.1) = varsT (.mk k s n re im ys) (st.V.map (·.1)) := by
  have hw : ∀ tag l, (wordsP most tag l st).2.V = st.V := by
    intro tag l
    unfold wordsP
    split <;> rfl
  unfold varsT
  by_cases k1 : k = 1
  · subst k1
    rw [if_pos rfl]
    rw [leaf_1] at h ⊢
    unfold varP at h ⊢
    cases hq : lk st.V n with
    | some d =>
      have hin : n ∈ st.V.map (·.1) := by
        by_cases hx : n ∈ st.V.map (·.1)
        · exact hx
        · rw [(lk_keys n st.V).2 hx] at hq; cases hq
      rw [if_pos hin]
    | none =>
      have hin := (lk_keys n st.V).1 hq
      rw [if_neg hin]
      rw [hq] at h
      simp only at h ⊢
      split
      · rename_i ho
        rw [if_pos ho] at h
        split
        · rw [up_absent _ _ _ hq]; simp
        · rename_i hc
          rw [if_neg hc] at h
          simp at h
      · rw [up_absent _ _ _ hq]; simp
  · rw [if_neg k1, if_neg k5]
    have e : leaf most (.mk k s n re im []) own st = if k = 2 then ((mkc 2 (number st.L s).1.1, (number st.L s).1.2), { st with L := (number st.L s).2 }) else if k = 3 then (if smallOk n then ((small n, 0), st) else wordsP most 4 [u64 n] st) else wordsP most 5 [re.toNat, im.toNat] st := by
      unfold leaf
      exact if_neg k1
    rw [e]
    split
    · rfl
    · split
      · split
        · rfl
        · rw [hw]
      · rw [hw]
mutual
theorem lay_keys (most : Nat) : ∀ (t : Tm) (own : Int) (st : St), (lay most t own st).1.2 = 0 → (lay most t own st).2.V.map (·.1) = varsT t (st.V.map (·.1))
  | .mk k s n re im xs, own, st, h => by
    unfold lay at h ⊢
    by_cases k5 : k = 5
    · rw [if_pos k5] at h ⊢
      simp only at h ⊢
      by_cases h1 : (opn most s xs.length st).1.2 = 0
      · rw [if_neg (by simp [h1])] at h ⊢
        by_cases h2 : (layL most xs ((opn most s xs.length st).1.1 + 1) (opn most s xs.length st).2).1 = 0
        · rw [if_neg (by simp [h2])]
          have := layL_keys most xs ((opn most s xs.length st).1.1 + 1) (opn most s xs.length st).2 h2
          rw [opn_V] at this
          rw [varsT, if_neg (by omega), if_pos k5]
          exact this
        · rw [if_pos h2] at h
          exact absurd h h2
      · rw [if_pos h1] at h
        exact absurd h h1
    · rw [if_neg k5] at h ⊢
      exact leaf_keys most k5 own st h
theorem layL_keys (most : Nat) : ∀ (l : List Tm) (i : Nat) (st : St), (layL most l i st).1 = 0 → (layL most l i st).2.V.map (·.1) = varsL l (st.V.map (·.1))
  | [], i, st, _ => rfl
  | t :: r, i, st, h => by
    unfold layL at h ⊢
    simp only at h ⊢
    by_cases h1 : (lay most t i st).1.2 = 0
    · rw [if_neg (by simp [h1])] at h ⊢
      have e1 := lay_keys most t i st h1
      have e2 := layL_keys most r (i + 1) ((lay most t i st).2.at i (lay most t i st).1.1) h
      rw [e2]
      simp only [St.at]
      rw [e1, varsL]
    · rw [if_pos h1] at h
      exact absurd h h1
end
theorem put_keys {most : Nat} {t : Tm} (h : May t = 0) (st : St) (he : (putP most t st).1.2 = 0) : (putP most t st).2.V.map (·.1) = varsT t (st.V.map (·.1)) := by
  have hk := lay_keys most t (-1) st
  rcases hl : lay most t (-1) st with ⟨⟨x, e⟩, s1⟩
  have hp : putP most t st = if e ≠ 0 then ((0, e), s1) else fin most [] (if (-1 : Int) < 0 then x else 0) (s1.atI (-1) x) := by
    unfold putP
    rw [if_neg (by simp [h]), fin_tm _ _ _ _ _ _ hl]
  rw [hl] at hk
  rw [hp] at he ⊢
  by_cases h0 : e = 0
  · subst h0
    simpa [fin, St.atI] using hk rfl
  · simp [h0] at he
/-! ### A term whose names are there -/
mutual
def allN (P : ByteArray → Prop) : Tm → Prop
  | .mk k s _ _ _ xs => (k = 2 → P s) ∧ (k = 5 → P s ∧ allNL P xs)
def allNL (P : ByteArray → Prop) : List Tm → Prop
  | [] => True
  | t :: r => allN P t ∧ allNL P r
end
mutual
theorem dir_names {M : Nat → Option Nat} {L : List ByteArray} {R : Int → Option Nat} : ∀ (t : Tm) (c : Nat), dir M (L[·]?) R t c → allN (· ∈ L) t
  | .mk k s n re im xs, c, h => by
    unfold dir at h
    unfold allN
    by_cases k1 : k = 1
    · exact ⟨fun h2 => by omega, fun h5 => by omega⟩
    · rw [if_neg k1] at h
      by_cases k5 : k = 5
      · rw [if_pos k5] at h
        obtain ⟨-, ⟨a, -, h2⟩, h3⟩ := h
        exact ⟨fun h2 => by omega, fun _ => ⟨List.mem_of_getElem? h2, dir_namesL xs _ h3⟩⟩
      · rw [if_neg k5] at h
        refine ⟨fun k2 => ?_, fun h => absurd h k5⟩
        rw [if_pos k2] at h
        exact List.mem_of_getElem? h.2
theorem dir_namesL {M : Nat → Option Nat} {L : List ByteArray} {R : Int → Option Nat} : ∀ (l : List Tm) (i : Nat), dirL M (L[·]?) R l i → allNL (· ∈ L) l
  | [], _, _ => trivial
  | t :: r, i, ⟨⟨c, _, h1⟩, h2⟩ => ⟨dir_names t c h1, dir_namesL r _ h2⟩
end
theorem place_mem (s : ByteArray) : ∀ (l : List ByteArray) (i : Nat), s ∈ l → ∃ j, place l s i = some j
  | x :: l, i, h => by
    unfold place
    by_cases hx : s = x
    · exact ⟨i, by rw [if_pos hx]⟩
    · rw [if_neg hx]
      rcases List.mem_cons.1 h with e | h
      · exact absurd e hx
      · exact place_mem s l (i + 1) h
theorem number_known {L : List ByteArray} {s : ByteArray} (hs : s.size ≤ 200) (h : s ∈ L) : (number L s).1.2 = 0 ∧ (number L s).2 = L := by
  obtain ⟨j, hj⟩ := place_mem s L 0 h
  unfold number
  rw [if_neg (by omega), hj]
  exact ⟨rfl, rfl⟩
mutual
theorem lay_known (most : Nat) : ∀ (t : Tm) (own : Int) (st : St), good t → allN (· ∈ st.L) t → st.C.length + takes t own st.V ≤ most →
    (lay most t own st).1.2 = 0 ∧ (lay most t own st).2.C.length = st.C.length + takes t own st.V ∧ (lay most t own st).2.L = st.L
  | .mk k s n re im xs, own, st, hg, hL, hC => by
    obtain ⟨h1, hgk⟩ := hg
    obtain ⟨n2, n5⟩ := hL
    unfold lay
    by_cases k5 : k = 5
    · subst k5
      simp only [if_true]
      have ht : takes (.mk 5 s n re im xs) own st.V = 1 + xs.length + cntL xs := by simp [takes, Tm.k, cnt]
      rw [ht] at hC ⊢
      obtain ⟨hin, hins⟩ := n5 rfl
      obtain ⟨a, b⟩ := number_known (L := st.L) (s := s) (one_name (t := .mk 5 s n re im xs) h1 (.inr rfl)) hin
      obtain ⟨c, d⟩ := varAll_fits most xs.length (st.C ++ [fun6 (number st.L s).1.1 xs.length]) (by simp; omega)
      have ho : opn most s xs.length st = ((st.C.length, 0), { st with C := (varAll most xs.length (st.C ++ [fun6 (number st.L s).1.1 xs.length])).2, L := (number st.L s).2 }) := by
        unfold opn
        rw [if_neg (by simp [a]), if_pos (by omega), if_pos c]
      rw [ho]
      simp only [ne_eq, not_true_eq_false, if_false]
      simp at d
      obtain ⟨e, f, g⟩ := layL_known most xs (st.C.length + 1) { st with C := (varAll most xs.length (st.C ++ [fun6 (number st.L s).1.1 xs.length])).2, L := (number st.L s).2 } (hgk rfl) (by simp only [b]; exact hins) (by simp only; omega)
      rw [if_neg (by simp [e])]
      simp only at f g ⊢
      exact ⟨trivial, by omega, by rw [g, b]⟩
    · rw [if_neg k5]
      have hn := nodes_pos (.mk k s n re im xs)
      have hk := one_k h1
      simp only [Tm.k] at hk
      by_cases k2 : k = 2
      · subst k2
        rw [leaf_2]
        obtain ⟨a, b⟩ := number_known (L := st.L) (s := s) (one_name (t := .mk 2 s n re im xs) h1 (.inl rfl)) (n2 rfl)
        exact ⟨a, by simp [takes, Tm.k, cnt], b⟩
      · have e : leaf most (.mk k s n re im []) own st = if k = 1 then varP most n own st else if k = 3 then (if smallOk n then ((small n, 0), st) else wordsP most 4 [u64 n] st) else wordsP most 5 [re.toNat, im.toNat] st := by
          unfold leaf
          by_cases k1 : k = 1
          · rw [if_pos k1]; exact if_pos k1
          · rw [if_neg k1]; exact (if_neg k1).trans (if_neg k2)
        have hlow : (leaf most (.mk k s n re im []) own ⟨st.C, [], st.V⟩).1.2 = 0 ∧ (leaf most (.mk k s n re im []) own ⟨st.C, [], st.V⟩).2.C.length = st.C.length + takes (.mk k s n re im xs) own st.V ∧ (leaf most (.mk k s n re im []) own ⟨st.C, [], st.V⟩).2.L.length ≤ 0 + 1 :=
          leaf_small (most := most) (own := own) (st := ⟨st.C, [], st.V⟩) h1 k5 (by simp) hC
        have hw : ∀ tag l, (wordsP most tag l st).1 = (wordsP most tag l ⟨st.C, [], st.V⟩).1 ∧ (wordsP most tag l st).2.C = (wordsP most tag l ⟨st.C, [], st.V⟩).2.C ∧ (wordsP most tag l st).2.L = st.L := by
          intro tag l
          unfold wordsP
          by_cases hp : (pushAll most l st.C).1 = 0 <;> simp [hp]
        have hv : (varP most n own st).1 = (varP most n own ⟨st.C, [], st.V⟩).1 ∧ (varP most n own st).2.C = (varP most n own ⟨st.C, [], st.V⟩).2.C ∧ (varP most n own st).2.L = st.L := by
          unfold varP
          cases lk st.V n with
          | some c => exact ⟨rfl, rfl, rfl⟩
          | none =>
            simp only
            split
            · split <;> exact ⟨rfl, rfl, rfl⟩
            · exact ⟨rfl, rfl, rfl⟩
        have e' : leaf most (.mk k s n re im []) own ⟨st.C, [], st.V⟩ = if k = 1 then varP most n own ⟨st.C, [], st.V⟩ else if k = 3 then (if smallOk n then ((small n, 0), ⟨st.C, [], st.V⟩) else wordsP most 4 [u64 n] ⟨st.C, [], st.V⟩) else wordsP most 5 [re.toNat, im.toNat] ⟨st.C, [], st.V⟩ := by
          unfold leaf
          by_cases k1 : k = 1
          · rw [if_pos k1]; exact if_pos k1
          · rw [if_neg k1]; exact (if_neg k1).trans (if_neg k2)
        rw [e'] at hlow
        rw [e]
        by_cases k1 : k = 1
        · simp only [if_pos k1] at hlow ⊢
          exact ⟨by rw [hv.1]; exact hlow.1, by rw [hv.2.1]; exact hlow.2.1, hv.2.2⟩
        · simp only [if_neg k1] at hlow ⊢
          by_cases k3 : k = 3
          · simp only [if_pos k3] at hlow ⊢
            by_cases hsm : smallOk n = true
            · simp only [if_pos hsm] at hlow ⊢
              exact ⟨hlow.1, hlow.2.1, by first | rfl | trivial⟩
            · simp only [if_neg hsm] at hlow ⊢
              exact ⟨by rw [(hw 4 [u64 n]).1]; exact hlow.1, by rw [(hw 4 [u64 n]).2.1]; exact hlow.2.1, (hw 4 [u64 n]).2.2⟩
          · simp only [if_neg k3] at hlow ⊢
            exact ⟨by rw [(hw 5 _).1]; exact hlow.1, by rw [(hw 5 _).2.1]; exact hlow.2.1, (hw 5 _).2.2⟩
theorem layL_known (most : Nat) : ∀ (l : List Tm) (i : Nat) (st : St), goodL l → allNL (· ∈ st.L) l → st.C.length + cntL l ≤ most →
    (layL most l i st).1 = 0 ∧ (layL most l i st).2.C.length = st.C.length + cntL l ∧ (layL most l i st).2.L = st.L
  | [], i, st, _, _, _ => by simp [layL, cntL]
  | t :: r, i, st, ⟨hg, hgr⟩, ⟨hL, hLr⟩, hC => by
    simp only [cntL] at hC ⊢
    have ht : takes t (i : Int) st.V = cnt t false := by
      obtain ⟨k, s, n, re, im, xs⟩ := t
      unfold takes
      split
      · rename_i h
        simp only [Tm.k] at h
        subst h
        have : ¬ ((i : Int) < 0) := by omega
        simp [this, cnt]
      · rfl
    obtain ⟨a, b, c⟩ := lay_known most t i st hg hL (by rw [ht]; omega)
    rw [ht] at b
    rw [layL]
    rw [if_neg (by simp [a])]
    obtain ⟨e, f, g⟩ := layL_known most r (i + 1) ((lay most t i st).2.at i (lay most t i st).1.1) hgr (by have e9 : ((lay most t i st).2.at i (lay most t i st).1.1).L = st.L := c; rw [e9]; exact hLr) (by simp only [St.at, List.length_set]; omega)
    simp only [St.at, List.length_set] at f g
    exact ⟨e, by simp only [St.at]; omega, by simp only [St.at]; rw [g, c]⟩
end
theorem put_known {most : Nat} {t : Tm} (h : May t = 0) (st : St) (hL : allN (· ∈ st.L) t) (hC : st.C.length + 6001 ≤ most) :
    (putP most t st).1.2 = 0 ∧ (putP most t st).2.C.length ≤ st.C.length + 6001 ∧ (putP most t st).2.L = st.L := by
  obtain ⟨hn, hg⟩ := May_zero h
  have hc := cnt_le t false
  have htk : takes t (-1) st.V ≤ 6001 := by
    unfold takes
    split
    · split
      · split <;> omega
      · omega
    · omega
  obtain ⟨a, b, c⟩ := lay_known most t (-1) st hg hL (by omega)
  rcases hl : lay most t (-1) st with ⟨⟨x, e⟩, s1⟩
  rw [hl] at a b c
  simp only at a b c
  subst a
  have hp : putP most t st = ((x, 0), s1) := by
    unfold putP
    rw [if_neg (by simp [h]), fin_tm _ _ _ _ _ _ hl]
    simp [fin, St.atI]
  rw [hp]
  exact ⟨rfl, by simp only; omega, c⟩
/-- A term laid; laid twice with the same variables; both read with one list of them. -/
theorem shared_back {t : Tm} (ht : May t = 0) (rt : rngd t) {r1 r2 r3 : (Nat × Nat) × St} (e1 : r1 = putP 1048576 t ⟨[], names0, []⟩) (e2 : r2 = putP 1048576 t ⟨r1.2.C, r1.2.L, []⟩) (e3 : r3 = putP 1048576 t ⟨r2.2.C, r2.2.L, r2.2.V⟩) :
    (r1.1.2 = 0 ∧ r2.1.2 = 0 ∧ r3.1.2 = 0) ∧ (r1.1.1 < 18446744073709551616 ∧ r2.1.1 < 18446744073709551616 ∧ r3.1.1 < 18446744073709551616) ∧ (rd r1.2.C r1.2.L 500 r1.1.1 ⟨[], 0⟩).1 = (renT t, 0) ∧ VOk r2.2.V ∧
    r3.2.V.length = (varsT t []).length ∧ ∃ V1 V2, (rd r3.2.C r3.2.L 500 r2.1.1 ⟨[], 0⟩).1 = (renT t, 0) ∧ (rd r3.2.C r3.2.L 500 r2.1.1 ⟨[], 0⟩).2.V = V1 ∧ (rd r3.2.C r3.2.L 500 r3.1.1 ⟨V1, 0⟩).1 = (renT t, 0) ∧ (rd r3.2.C r3.2.L 500 r3.1.1 ⟨V1, 0⟩).2.V = V2 ∧
      V2.length = (varsT t []).length ∧ V1.length ≤ 2000 ∧ ∀ x ∈ V1, x.2 ≤ 1000000 := by
  obtain ⟨a1, q1, a2, a3, o1, s1⟩ := one_back ht rt e1
  have nt := (May_zero ht).1
  have l1 := put_dir (most := 1048576) ht (by rw [← e1]; exact a1) (st := ⟨[], names0, []⟩) LayOk.none
  rw [← e1] at l1
  have hN := dir_names t _ l1.dir
  obtain ⟨b1, b2, b3⟩ := put_known (most := 1048576) ht ⟨r1.2.C, r1.2.L, []⟩ hN (by simp only; omega)
  have l2 := put_dir (most := 1048576) ht b1 LayOk.none
  have o2 := put_ok (most := 1048576) ht ⟨r1.2.C, r1.2.L, []⟩ ⟨s1.len, s1.most, s1.names, fun x hx => by cases hx⟩ b1
  have k2 := put_keys (most := 1048576) ht ⟨r1.2.C, r1.2.L, []⟩ b1
  rw [← e2] at b1 b2 b3 l2 o2 k2
  obtain ⟨d1, d2, d3⟩ := put_known (most := 1048576) ht ⟨r2.2.C, r2.2.L, r2.2.V⟩ (by simp only [b3]; exact hN) (by simp only at b2 ⊢; omega)
  have l3 := put_dir (most := 1048576) ht d1 l2.ok
  have o3 := put_ok (most := 1048576) ht ⟨r2.2.C, r2.2.L, r2.2.V⟩ ⟨o2.2.len, o2.2.most, o2.2.names, o2.2.vars⟩ d1
  have k3 := put_keys (most := 1048576) ht ⟨r2.2.C, r2.2.L, r2.2.V⟩ d1
  rw [← e3] at d1 d2 d3 l3 o3 k3
  simp only [List.map_nil] at k2
  simp only [k2] at k3
  rw [varsT_idem t _ (allV_own t [])] at k3
  have hd2 : dir (vw r3.2.C (fun _ => false)) (r3.2.L[·]?) (lk r3.2.V) t r2.1.1 := dir_mono l3.gr.cells l3.gr.names l3.gr.vars t r2.1.1 l2.dir
  have hd3 := l3.dir
  rw [vw_none] at hd2 hd3
  obtain ⟨V1, q2, q3, q4⟩ := read_dir l3.ok.isInj rt ht hd2 (l := []) (V := []) VR.none
  rw [renT_eq ht] at q2
  obtain ⟨V2, q5, q6, q7⟩ := read_dir l3.ok.isInj rt ht hd3 (l := varsT t []) (V := V1) q4
  rw [varsT_idem t _ (allV_own t []), renT_eq ht] at q5
  rw [varsT_idem t _ (allV_own t [])] at q7
  have hvl := varsT_len t []
  simp only [List.length_nil] at hvl
  have hrs := rd_ok r3.2.C r3.2.L 500 r2.1.1 ⟨[], 0⟩ ⟨(fun x hx => by cases hx), (by simp), (by simp)⟩
  rw [← q3] at q4
  refine ⟨⟨a1, b1, d1⟩, ⟨o1, o2.1, o3.1⟩, q1, o2.2.vars, ?_, V1, V2, q2, q3, q5, q6, q7.1, ?_, ?_⟩
  · have := congrArg List.length k3
    simpa using this
  · rw [← q3, q4.1]; omega
  · intro x hx
    rw [← q3] at hx
    exact hrs.vals x hx
#print axioms shared_back
end Go.Proofs.Ytceahdlcbiialaa
