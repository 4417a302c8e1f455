/- What is laid stands for the term. No condition. -/
import Derived.Test.YtceahdlcbiialaaF5M28
import Derived.Test.YtceahdlcbiialaaF6M2
set_option linter.unusedVariables false
set_option linter.unusedSimpArgs false
namespace Go.Proofs.Ytceahdlcbiialaa
open Go.RowKit

/-- The cells but those that are still to be written. -/
def vw (C : List Nat) (P : Nat → Bool) (i : Nat) : Option Nat := if P i = true then none else C[i]?
/-- All but one; all but some in a row; these and some in a row. -/
def less (P : Nat → Bool) (i : Nat) : Nat → Bool := fun j => P j && decide (j ≠ i)
def lessN (P : Nat → Bool) (i n : Nat) : Nat → Bool := fun j => P j && decide (j < i ∨ i + n ≤ j)
def moreN (P : Nat → Bool) (i n : Nat) : Nat → Bool := fun j => P j || decide (i ≤ j ∧ j < i + n)
structure LayOk (C : List Nat) (P : Nat → Bool) (V : List (Int × Nat)) : Prop where
  pend : ∀ i, P i = true → C[i]? = some (mkc 0 i)
  vars : ∀ n c, lk V n = some c → tg c = 0 ∧ vw C P (vl c) = some c
  inj : ∀ n m c, lk V n = some c → lk V m = some c → n = m
/-- From one to another nothing is lost. -/
structure Gr (C : List Nat) (P : Nat → Bool) (L : List ByteArray) (V : List (Int × Nat)) (C' : List Nat) (P' : Nat → Bool) (L' : List ByteArray) (V' : List (Int × Nat)) : Prop where
  cells : ∀ i v, vw C P i = some v → vw C' P' i = some v
  names : ∀ (i : Nat) (v : ByteArray), L[i]? = some v → L'[i]? = some v
  vars : ∀ n c, lk V n = some c → lk V' n = some c
theorem Gr.refl {C : List Nat} {P : Nat → Bool} {L : List ByteArray} {V : List (Int × Nat)} : Gr C P L V C P L V := ⟨fun _ _ h => h, fun _ _ h => h, fun _ _ h => h⟩
theorem Gr.trans {C C1 C2 : List Nat} {P P1 P2 : Nat → Bool} {L L1 L2 : List ByteArray} {V V1 V2 : List (Int × Nat)} (h : Gr C P L V C1 P1 L1 V1) (k : Gr C1 P1 L1 V1 C2 P2 L2 V2) : Gr C P L V C2 P2 L2 V2 :=
  ⟨fun _ _ x => k.cells _ _ (h.cells _ _ x), fun _ _ x => k.names _ _ (h.names _ _ x), fun _ _ x => k.vars _ _ (h.vars _ _ x)⟩
theorem Gr.dir {C C' : List Nat} {P P' : Nat → Bool} {L L' : List ByteArray} {V V' : List (Int × Nat)} (h : Gr C P L V C' P' L' V') {t : Tm} {c : Nat} (hd : dir (vw C P) (L[·]?) (lk V) t c) : dir (vw C' P') (L'[·]?) (lk V') t c :=
  dir_mono h.cells h.names h.vars t c hd
theorem vw_in {C : List Nat} {P : Nat → Bool} {i v : Nat} (h : vw C P i = some v) : P i = false ∧ C[i]? = some v := by
  unfold vw at h
  split at h
  · cases h
  · rename_i hp; exact ⟨by simpa using hp, h⟩
theorem vw_of {C : List Nat} {P : Nat → Bool} {i v : Nat} (h : P i = false) (hc : C[i]? = some v) : vw C P i = some v := by
  unfold vw; rw [if_neg (by simp [h])]; exact hc
section
variable {C : List Nat} {P : Nat → Bool} {L : List ByteArray} {V : List (Int × Nat)}
theorem Gr.fill (own c : Nat) (hp : P own = true) : Gr C P L V (C.set own c) (less P own) L V := by
  refine ⟨fun i v h => ?_, fun _ _ h => h, fun _ _ h => h⟩
  obtain ⟨h1, h2⟩ := vw_in h
  have hne : own ≠ i := fun e => by rw [e] at hp; rw [hp] at h1; cases h1
  refine vw_of (by simp [less, h1]) ?_
  rw [List.getElem?_set_ne hne]; exact h2
theorem LayOk.fill (h : LayOk C P V) (own c : Nat) (hp : P own = true) : LayOk (C.set own c) (less P own) V ∧ vw (C.set own c) (less P own) own = some c := by
  refine ⟨⟨fun i hi => ?_, fun n d hd => ⟨(h.vars n d hd).1, (Gr.fill (L := []) (V := V) own c hp).cells _ _ (h.vars n d hd).2⟩, h.inj⟩, ?_⟩
  · simp only [less, Bool.and_eq_true, decide_eq_true_eq] at hi
    rw [List.getElem?_set_ne (Ne.symm hi.2)]
    exact h.pend i hi.1
  · refine vw_of (by simp [less]) ?_
    have := (List.getElem?_eq_some_iff.1 (h.pend own hp)).1
    rw [List.getElem?_set_self this]
theorem Gr.push (h : LayOk C P V) (l : List Nat) : Gr C P L V (C ++ l) P L V := by
  refine ⟨fun i v hv => ?_, fun _ _ h => h, fun _ _ h => h⟩
  obtain ⟨h1, h2⟩ := vw_in hv
  exact vw_of h1 (by rw [List.getElem?_append_left (List.getElem?_eq_some_iff.1 h2).1]; exact h2)
theorem LayOk.push (h : LayOk C P V) (l : List Nat) : LayOk (C ++ l) P V :=
  ⟨fun i hi => by rw [List.getElem?_append_left (List.getElem?_eq_some_iff.1 (h.pend i hi)).1]; exact h.pend i hi, fun n d hd => ⟨(h.vars n d hd).1, (Gr.push (L := []) h l).cells _ _ (h.vars n d hd).2⟩, h.inj⟩
theorem LayOk.old (h : LayOk C P V) {i : Nat} (hi : P i = true) : i < C.length := (List.getElem?_eq_some_iff.1 (h.pend i hi)).1
/-- What stands behind the old ones. -/
theorem LayOk.vw_new (h : LayOk C P V) (l : List Nat) (j v : Nat) (hj : l[j]? = some v) : vw (C ++ l) P (C.length + j) = some v := by
  refine vw_of ?_ (by rw [List.getElem?_append_right (by omega)]; simpa using hj)
  cases hp : P (C.length + j) with
  | false => rfl
  | true => have := h.old hp; omega
theorem lk_up2 {α β : Type} [DecidableEq α] (a x : α) (b : β) : ∀ V : List (α × β), lk (up V x b) a = if a = x then some b else lk V a
  | [] => by simp [up, lk]
  | (k, y) :: V => by
    unfold up
    split
    · rename_i hx
      subst hx
      rw [lk, lk]
      split <;> rfl
    · rename_i hx
      rw [lk, lk, lk_up2 a x b V]
      by_cases ha : a = k
      · rw [if_pos ha, if_pos ha, if_neg (fun e => hx (by rw [← e, ha]))]
      · rw [if_neg ha, if_neg ha]
theorem LayOk.newvar (h : LayOk C P V) {n : Int} {p : Nat} (hn : lk V n = none) (hp : vw C P p = some (mkc 0 p)) (hf : ∀ m c, lk V m = some c → vl c ≠ p) :
    LayOk C P (up V n (mkc 0 p)) ∧ Gr C P L V C P L (up V n (mkc 0 p)) := by
  refine ⟨⟨h.pend, fun m c hm => ?_, fun m k c hm hk => ?_⟩, ⟨fun _ _ h => h, fun _ _ h => h, fun m c hm => ?_⟩⟩
  · rw [lk_up2] at hm
    split at hm
    · cases hm; exact ⟨tg_mkc 0 p (by omega), by rw [vl_mkc 0 p (by omega)]; exact hp⟩
    · exact h.vars m c hm
  · rw [lk_up2] at hm hk
    split at hm
    · rename_i e1
      split at hk
      · rename_i e2; rw [e1, e2]
      · cases hm; exact absurd (vl_mkc 0 p (by omega)) (hf k _ hk)
    · split at hk
      · cases hk; exact absurd (vl_mkc 0 p (by omega)) (hf m _ hm)
      · exact h.inj m k c hm hk
  · rw [lk_up2]
    split
    · rename_i e; rw [e, hn] at hm; cases hm
    · exact hm
end
theorem number_dir {L : List ByteArray} {s : ByteArray} {a : Nat} {L' : List ByteArray} (h : number L s = ((a, 0), L')) : L'[a]? = some s ∧ ∀ (i : Nat) (v : ByteArray), L[i]? = some v → L'[i]? = some v := by
  unfold number at h
  split at h
  · simp at h
  · cases hp : place L s 0 with
    | some i =>
      rw [hp] at h
      simp only [Prod.mk.injEq] at h
      obtain ⟨⟨rfl, -⟩, rfl⟩ := h
      exact ⟨by simpa using place_get s L 0 i hp, fun _ _ h => h⟩
    | none =>
      rw [hp] at h
      simp only at h
      split at h
      · simp at h
      · simp only [Prod.mk.injEq] at h
        obtain ⟨⟨rfl, -⟩, rfl⟩ := h
        exact ⟨by simp, fun i v hv => by rw [List.getElem?_append_left (List.getElem?_eq_some_iff.1 hv).1]; exact hv⟩
theorem pushAll_zero (most : Nat) : ∀ (l C C' : List Nat), pushAll most l C = (0, C') → C' = C ++ l
  | [], C, C', h => by simp [pushAll] at h; simp [h]
  | x :: l, C, C', h => by
    unfold pushAll at h
    split at h
    · rw [pushAll_zero most l _ C' h]; simp
    · simp at h
theorem varAll_zero (most : Nat) : ∀ (n : Nat) (C C' : List Nat), varAll most n C = (0, C') → ∃ l, C' = C ++ l ∧ l.length = n ∧ ∀ j, j < n → l[j]? = some (mkc 0 (C.length + j))
  | 0, C, C', h => by simp [varAll] at h; exact ⟨[], by simp [h], rfl, fun j hj => by omega⟩
  | n + 1, C, C', h => by
    unfold varAll at h
    split at h
    · obtain ⟨l, h1, h2, h3⟩ := varAll_zero most n _ C' h
      refine ⟨mkc 0 C.length :: l, by rw [h1]; simp, by simp [h2], fun j hj => ?_⟩
      cases j with
      | zero => rfl
      | succ j =>
        have := h3 j (by omega)
        simp only [List.length_append, List.length_singleton] at this
        rw [List.getElem?_cons_succ, this, show C.length + 1 + j = C.length + (j + 1) from by omega]
    · simp at h
/-- What laying a term leaves: P2: what is still to be written. -/
structure Laid (C : List Nat) (P : Nat → Bool) (L : List ByteArray) (V : List (Int × Nat)) (s2 : St) (P2 : Nat → Bool) (t : Tm) (c : Nat) : Prop where
  ok : LayOk s2.C P2 s2.V
  gr : Gr C P L V s2.C P2 s2.L s2.V
  dir : dir (vw s2.C P2) (s2.L[·]?) (lk s2.V) t c
def lessI (P : Nat → Bool) (own : Int) : Nat → Bool := if own < 0 then P else less P own.toNat
/-- A leaf's cell, written where it belongs. -/
theorem Laid.wr {C0 : List Nat} {P : Nat → Bool} {L0 : List ByteArray} {V0 : List (Int × Nat)} {s : St} {t : Tm} {c : Nat} (h : Laid C0 P L0 V0 s P t c) (own : Int) (hp : 0 ≤ own → P own.toNat = true) :
    Laid C0 P L0 V0 (s.atI own c) (lessI P own) t c ∧ (0 ≤ own → vw (s.atI own c).C (lessI P own) own.toNat = some c) := by
  unfold St.atI lessI
  by_cases ho : own < 0
  · rw [if_pos ho, if_pos ho]; exact ⟨h, fun h => by omega⟩
  · rw [if_neg ho, if_neg ho]
    have g : Gr s.C P s.L s.V (s.at own.toNat c).C (less P own.toNat) s.L s.V := Gr.fill _ _ (hp (by omega))
    exact ⟨⟨(h.ok.fill _ c (hp (by omega))).1, h.gr.trans g, g.dir h.dir⟩, fun _ => (h.ok.fill _ c (hp (by omega))).2⟩
theorem leaf_dir (most : Nat) {k n re im : Int} {s : ByteArray} {ys : List Tm} (h1 : one (.mk k s n re im ys) = 0) (k5 : k ≠ 5) (own : Int) (st : St) {c : Nat} {st' : St} {P : Nat → Bool} (hl : leaf most (.mk k s n re im []) own st = ((c, 0), st'))
    (h : LayOk st.C P st.V) (hp : 0 ≤ own → P own.toNat = true) : Laid st.C P st.L st.V (st'.atI own c) (lessI P own) (.mk k s n re im ys) c ∧ (0 ≤ own → vw (st'.atI own c).C (lessI P own) own.toNat = some c) := by
  have hk := one_k h1
  simp only [Tm.k] at hk
  have hw : ∀ (tag : Nat) (l : List Nat) (c : Nat) (st' : St), wordsP most tag l st = ((c, 0), st') → c = mkc tag st.C.length ∧ st' = { st with C := st.C ++ l } := by
    intro tag l c st' hq
    unfold wordsP at hq
    split at hq
    · rename_i h0
      have := pushAll_zero most l st.C _ (Prod.ext h0 rfl)
      simp only [Prod.mk.injEq] at hq
      exact ⟨hq.1.1.symm, by rw [← hq.2]; simp only [this]⟩
    · rename_i h0
      simp only [Prod.mk.injEq] at hq
      exact absurd hq.1.2 h0
  have : k = 1 ∨ k = 2 ∨ k = 3 ∨ k = 4 := by omega
  rcases this with rfl | rfl | rfl | rfl
  · rw [leaf_1, varP] at hl
    cases hq : lk st.V n with
    | some d =>
      rw [hq] at hl
      simp only [Prod.mk.injEq] at hl
      obtain ⟨⟨rfl, -⟩, rfl⟩ := hl
      refine Laid.wr ⟨h, Gr.refl, ?_⟩ own hp
      unfold dir
      rw [if_pos rfl]
      exact ⟨hq, h.vars n d hq⟩
    | none =>
      rw [hq] at hl
      simp only at hl
      split at hl
      · rename_i ho
        split at hl
        · simp only [Prod.mk.injEq] at hl
          obtain ⟨⟨rfl, -⟩, rfl⟩ := hl
          have hv := h.vw_new [mkc 0 st.C.length] 0 _ rfl
          rw [Nat.add_zero] at hv
          obtain ⟨a, b⟩ := (h.push [mkc 0 st.C.length]).newvar (L := st.L) hq hv (fun m d hd e => by
            have := (List.getElem?_eq_some_iff.1 (vw_in (h.vars m d hd).2).2).1
            omega)
          refine Laid.wr ⟨a, (Gr.push h _).trans b, ?_⟩ own hp
          unfold dir
          rw [if_pos rfl]
          simp only [lk_up2, if_pos]
          exact ⟨trivial, tg_mkc 0 _ (by omega), by rw [vl_mkc 0 _ (by omega)]; exact hv⟩
        · simp at hl
      · rename_i ho
        simp only [Prod.mk.injEq] at hl
        obtain ⟨⟨rfl, -⟩, rfl⟩ := hl
        have hpo := hp (by omega)
        obtain ⟨f1, f2⟩ := h.fill own.toNat (mkc 0 own.toNat) hpo
        obtain ⟨a, b⟩ := f1.newvar (L := st.L) hq f2 (fun m d hd e => by
            have := (vw_in (h.vars m d hd).2).1
            rw [e, hpo] at this
            cases this)
        have e1 : lessI P own = less P own.toNat := by unfold lessI; rw [if_neg ho]
        have e2 : ∀ q : St, q.atI own (mkc 0 own.toNat) = q.at own.toNat (mkc 0 own.toNat) := fun q => by unfold St.atI; rw [if_neg ho]
        rw [e1, e2]
        refine ⟨⟨a, (Gr.fill _ _ hpo).trans b, ?_⟩, fun _ => f2⟩
        unfold dir
        rw [if_pos rfl]
        simp only [St.at, lk_up2, if_pos]
        exact ⟨trivial, tg_mkc 0 _ (by omega), by rw [vl_mkc 0 _ (by omega)]; exact f2⟩
  · rw [leaf_2] at hl
    rcases hq : number st.L s with ⟨⟨a, e⟩, L'⟩
    rw [hq] at hl
    simp only [Prod.mk.injEq] at hl
    obtain ⟨⟨rfl, rfl⟩, rfl⟩ := hl
    obtain ⟨n1, n2⟩ := number_dir hq
    refine Laid.wr (s := ⟨st.C, L', st.V⟩) ⟨h, ⟨fun _ _ h => h, n2, fun _ _ h => h⟩, ?_⟩ own hp
    unfold dir
    rw [if_neg (by omega), if_neg (by omega), if_pos rfl]
    exact ⟨tg_mkc 2 a (by omega), by rw [vl_mkc 2 a (by omega)]; exact n1⟩
  · rw [leaf_3] at hl
    split at hl
    · rename_i hs
      simp only [Prod.mk.injEq] at hl
      obtain ⟨⟨rfl, -⟩, rfl⟩ := hl
      refine Laid.wr ⟨h, Gr.refl, ?_⟩ own hp
      unfold dir
      rw [if_neg (by omega), if_neg (by omega), if_neg (by omega), if_pos rfl]
      exact .inl ⟨hs, rfl⟩
    · obtain ⟨rfl, rfl⟩ := hw _ _ _ _ hl
      refine Laid.wr ⟨h.push _, Gr.push h _, ?_⟩ own hp
      unfold dir
      rw [if_neg (by omega), if_neg (by omega), if_neg (by omega), if_pos rfl, tg_mkc 4 _ (by omega), vl_mkc 4 _ (by omega)]
      exact .inr ⟨rfl, by simpa using h.vw_new [u64 n] 0 _ rfl⟩
  · rw [leaf_4] at hl
    obtain ⟨rfl, rfl⟩ := hw _ _ _ _ hl
    refine Laid.wr ⟨h.push _, Gr.push h _, ?_⟩ own hp
    unfold dir
    rw [if_neg (by omega), if_neg (by omega), if_neg (by omega), if_neg (by omega), tg_mkc 5 _ (by omega), vl_mkc 5 _ (by omega)]
    exact ⟨rfl, by simpa using h.vw_new [re.toNat, im.toNat] 0 _ rfl, h.vw_new [re.toNat, im.toNat] 1 _ rfl⟩
theorem opn_dir (most : Nat) (s : ByteArray) (n : Nat) (st : St) {p : Nat} {st' : St} {P : Nat → Bool} (ho : opn most s n st = ((p, 0), st')) (h : LayOk st.C P st.V) :
    p = st.C.length ∧ ∃ a, st'.L[a]? = some s ∧ vw st'.C (moreN P (p + 1) n) p = some (fun6 a n) ∧ LayOk st'.C (moreN P (p + 1) n) st'.V ∧ Gr st.C P st.L st.V st'.C (moreN P (p + 1) n) st'.L st'.V := by
  unfold opn at ho
  split at ho
  · rename_i h0
    simp only [Prod.mk.injEq] at ho
    exact absurd ho.1.2 h0
  · rename_i h0
    simp only [ne_eq, Decidable.not_not] at h0
    split at ho
    · split at ho
      · rename_i h2 h3
        rcases hq : number st.L s with ⟨⟨a, e⟩, L'⟩
        rw [hq] at ho h0 h3
        simp only at h0 h3
        subst h0
        rcases hva : varAll most n (st.C ++ [fun6 a n]) with ⟨e2, C'⟩
        rw [hva] at h3
        simp only at h3
        subst h3
        simp only [Prod.mk.injEq, hva] at ho
        obtain ⟨⟨rfl, -⟩, rfl⟩ := ho
        obtain ⟨l, q1, q2, q3⟩ := varAll_zero most n _ C' hva
        obtain ⟨n1, n2⟩ := number_dir hq
        subst q1
        simp only [List.length_append, List.length_singleton] at q3
        have hg : ∀ i v, vw st.C P i = some v → vw ((st.C ++ [fun6 a n]) ++ l) (moreN P (st.C.length + 1) n) i = some v := by
          intro i v hv
          obtain ⟨v1, v2⟩ := vw_in hv
          have hlt := (List.getElem?_eq_some_iff.1 v2).1
          refine vw_of (by simp only [moreN, v1, Bool.false_or, decide_eq_false_iff_not]; omega) ?_
          rw [List.append_assoc, List.getElem?_append_left hlt]
          exact v2
        refine ⟨rfl, a, n1, ?_, ⟨fun i hi => ?_, fun m c hm => ⟨(h.vars m c hm).1, hg _ _ (h.vars m c hm).2⟩, h.inj⟩, ⟨hg, n2, fun _ _ h => h⟩⟩
        · refine vw_of ?_ ?_
          · have : P st.C.length = false := by
              cases hp : P st.C.length with
              | false => rfl
              | true => have := h.old hp; omega
            simp only [moreN, this, Bool.false_or, decide_eq_false_iff_not]; omega
          · rw [List.append_assoc, List.getElem?_append_right (Nat.le_refl _)]; simp
        · simp only [moreN, Bool.or_eq_true, decide_eq_true_eq] at hi
          rcases hi with hi | hi
          · rw [List.append_assoc, List.getElem?_append_left (h.old hi)]
            exact h.pend i hi
          · have := q3 (i - (st.C.length + 1)) (by omega)
            rw [List.getElem?_append_right (by simp; omega)]
            simp only [List.length_append, List.length_singleton]
            rw [this, show st.C.length + 1 + (i - (st.C.length + 1)) = i from by omega]
      · rename_i h3
        simp only [Prod.mk.injEq] at ho
        exact absurd ho.1.2 h3
    · simp at ho
theorem Gr.congrP {C C' : List Nat} {P P' Q : Nat → Bool} {L L' : List ByteArray} {V V' : List (Int × Nat)} (h : Gr C P L V C' P' L' V') (e : P' = Q) : Gr C P L V C' Q L' V' := e ▸ h
mutual
theorem lay_dir (most : Nat) : ∀ (t : Tm) (own : Int) (st : St) (c : Nat) (st' : St) (P : Nat → Bool), good t → lay most t own st = ((c, 0), st') → LayOk st.C P st.V → (0 ≤ own → P own.toNat = true) →
    Laid st.C P st.L st.V (st'.atI own c) (lessI P own) t c ∧ (0 ≤ own → vw (st'.atI own c).C (lessI P own) own.toNat = some c)
  | .mk k s n re im xs, own, st, c, st', P, hg, hl, h, hp => by
    obtain ⟨g1, g2⟩ := hg
    unfold lay at hl
    by_cases k5 : k = 5
    · rw [if_pos k5] at hl
      rcases ho : opn most s xs.length st with ⟨⟨p, e⟩, s1⟩
      rw [ho] at hl
      simp only at hl
      split at hl
      · rename_i he
        simp only [Prod.mk.injEq] at hl
        exact absurd hl.1.2 he
      · rename_i he
        simp only [ne_eq, Decidable.not_not] at he
        subst he
        obtain ⟨rfl, a, o1, o2, o3, o4⟩ := opn_dir most s xs.length st ho h
        rcases hq : layL most xs (st.C.length + 1) s1 with ⟨e2, s2⟩
        rw [hq] at hl
        simp only at hl
        split at hl
        · rename_i he
          simp only [Prod.mk.injEq] at hl
          exact absurd hl.1.2 he
        · rename_i he
          simp only [ne_eq, Decidable.not_not] at he
          subst he
          simp only [Prod.mk.injEq] at hl
          obtain ⟨⟨rfl, -⟩, rfl⟩ := hl
          obtain ⟨q1, q2, q3⟩ := layL_dir most xs (st.C.length + 1) s1 s2 _ (g2 k5) hq o3 (fun j hj => by simp only [moreN, Bool.or_eq_true, decide_eq_true_eq]; omega)
          have eP : lessN (moreN P (st.C.length + 1) xs.length) (st.C.length + 1) xs.length = P := by
            funext i
            cases hpi : P i with
            | true =>
              have := h.old hpi
              simp [lessN, moreN, hpi]
              all_goals omega
            | false =>
              simp [lessN, moreN, hpi]
              all_goals omega
          rw [eP] at q1 q2 q3
          refine Laid.wr ⟨q1, o4.trans q2, ?_⟩ own hp
          unfold dir
          rw [if_neg (by omega), if_pos k5, tg_mkc 1 _ (by omega), vl_mkc 1 _ (by omega)]
          exact ⟨rfl, ⟨a, q2.cells _ _ o2, q2.names _ _ o1⟩, q3⟩
    · rw [if_neg k5] at hl
      exact leaf_dir most g1 k5 own st hl h hp
theorem layL_dir (most : Nat) : ∀ (l : List Tm) (i : Nat) (st st' : St) (P : Nat → Bool), goodL l → layL most l i st = (0, st') → LayOk st.C P st.V → (∀ j, j < l.length → P (i + j) = true) →
    LayOk st'.C (lessN P i l.length) st'.V ∧ Gr st.C P st.L st.V st'.C (lessN P i l.length) st'.L st'.V ∧ dirL (vw st'.C (lessN P i l.length)) (st'.L[·]?) (lk st'.V) l i
  | [], i, st, st', P, _, hl, h, _ => by
    simp only [layL, Prod.mk.injEq, true_and] at hl
    subst hl
    have e : lessN P i ([] : List Tm).length = P := by
      funext j
      cases hp : P j <;> simp [lessN, hp]
      omega
    rw [e]
    exact ⟨h, Gr.refl, trivial⟩
  | t :: r, i, st, st', P, hg, hl, h, hp => by
    rcases hq : lay most t i st with ⟨⟨c, e⟩, s1⟩
    rw [layL_cons _ _ _ _ _ hq] at hl
    split at hl
    · rename_i he
      simp only [Prod.mk.injEq] at hl
      exact absurd hl.1 he
    · rename_i he
      simp only [ne_eq, Decidable.not_not] at he
      subst he
      have hP0 : P i = true := by simpa using hp 0 (by simp)
      have h1 := lay_dir most t i st c s1 P hg.1 hq h (fun _ => by simpa using hP0)
      have ei : lessI P (i : Int) = less P i := by unfold lessI; rw [if_neg (by omega)]; simp
      have ea : s1.atI (i : Int) c = s1.at i c := by unfold St.atI; rw [if_neg (by omega)]; simp
      rw [ei, ea] at h1
      obtain ⟨q1, q2, q3⟩ := layL_dir most r (i + 1) (s1.at i c) st' (less P i) hg.2 hl h1.1.ok (fun j hj => by
        have := hp (j + 1) (by simp; omega)
        simp only [less, Bool.and_eq_true, decide_eq_true_eq]
        exact ⟨by rw [show i + 1 + j = i + (j + 1) from by omega]; exact this, by omega⟩)
      have eP : lessN (less P i) (i + 1) r.length = lessN P i (t :: r).length := by
        funext j
        simp only [lessN, less, List.length_cons, Bool.and_assoc]
        congr 1
        rw [← Bool.decide_and]
        congr 1
        apply propext
        omega
      rw [eP] at q1 q2 q3
      exact ⟨q1, h1.1.gr.trans q2, ⟨c, q2.cells _ _ (by simpa using h1.2 (by omega)), q2.dir h1.1.dir⟩, q3⟩
end
/-- What Put lays stands for the term. -/
theorem put_dir {most : Nat} {t : Tm} {st : St} (hm : May t = 0) (he : (putP most t st).1.2 = 0) (h : LayOk st.C (fun _ => false) st.V) :
    Laid st.C (fun _ => false) st.L st.V (putP most t st).2 (fun _ => false) t (putP most t st).1.1 := by
  unfold putP at he ⊢
  rw [if_neg (by simp [hm])] at he ⊢
  rcases hq : lay most t (-1) st with ⟨⟨c, e⟩, s1⟩
  rw [fin_tm _ _ _ _ _ _ hq] at he ⊢
  by_cases h0 : e = 0
  · subst h0
    have := (lay_dir most t (-1) st c s1 _ (May_zero hm).2 hq h (fun h => by omega)).1
    simpa [fin, St.atI, lessI] using this
  · simp [h0] at he
#print axioms put_dir
end Go.Proofs.Ytceahdlcbiialaa
