/- A cell that stands for a term reads as that term, its variables numbered as they are met. No condition. Terms alike; terms renamed. No condition. -/
import Derived.Test.YtceahdlcbiialaaF5M18
import Derived.Test.YtceahdlcbiialaaF5M27
set_option linter.unusedVariables false
set_option linter.unusedSimpArgs false
set_option linter.unusedSectionVars false
namespace Go.Proofs.Ytceahdlcbiialaa
open Go.RowKit

/-! ### Where a number stands in a list -/
def pos : List Int → Int → Option Nat
  | [], _ => none
  | x :: l, n => if x = n then some 0 else (pos l n).map (· + 1)
theorem pos_none (n : Int) : ∀ l : List Int, n ∉ l → pos l n = none
  | [], _ => rfl
  | x :: l, h => by
    simp only [List.mem_cons, not_or] at h
    rw [pos, if_neg (fun e => h.1 e.symm), pos_none n l h.2]
    rfl
theorem pos_mem (n : Int) : ∀ l : List Int, n ∈ l → ∃ i, pos l n = some i ∧ i < l.length
  | x :: l, h => by
    unfold pos
    split
    · exact ⟨0, rfl, by simp⟩
    · rename_i hx
      rcases List.mem_cons.1 h with e | h
      · exact absurd e.symm hx
      · obtain ⟨i, hi, hl⟩ := pos_mem n l h
        exact ⟨i + 1, by rw [hi]; rfl, by simp; omega⟩
theorem pos_append (n : Int) (r : List Int) : ∀ (l : List Int) (i : Nat), pos l n = some i → pos (l ++ r) n = some i
  | [], _, h => by cases h
  | x :: l, i, h => by
    unfold pos at h
    rw [List.cons_append, pos]
    split at h
    · rename_i hx; rw [if_pos hx]; exact h
    · rename_i hx
      rw [if_neg hx]
      cases hp : pos l n with
      | none => rw [hp] at h; cases h
      | some j => rw [hp] at h; rw [pos_append n r l j hp]; exact h
theorem pos_snoc (n : Int) : ∀ l : List Int, n ∉ l → pos (l ++ [n]) n = some l.length
  | [], _ => by simp [pos]
  | x :: l, h => by
    simp only [List.mem_cons, not_or] at h
    rw [List.cons_append, pos, if_neg (fun e => h.1 e.symm), pos_snoc n l h.2]
    rfl
theorem pos_snoc_ne (n m : Int) (hne : m ≠ n) : ∀ l : List Int, pos (l ++ [n]) m = pos l m
  | [] => by simp [pos, Ne.symm hne]
  | x :: l => by rw [List.cons_append, pos, pos, pos_snoc_ne n m hne l]
def noOf (l : List Int) (n : Int) : Nat := (pos l n).getD 0
/-- The term, each variable by its place in the list. -/
def nm (l : List Int) (t : Tm) : Tm := mapT (fun n => tVar (noOf l n : Nat)) t
def nmL (l : List Int) (xs : List Tm) : List Tm := mapL (fun n => tVar (noOf l n : Nat)) xs
mutual
theorem varsT_ext : ∀ (t : Tm) (l : List Int), ∃ r, varsT t l = l ++ r
  | .mk k s n re im xs, l => by
    unfold varsT
    split
    · split
      · exact ⟨[], by simp⟩
      · exact ⟨_, rfl⟩
    · split
      · exact varsL_ext xs l
      · exact ⟨[], by simp⟩
theorem varsL_ext : ∀ (xs : List Tm) (l : List Int), ∃ r, varsL xs l = l ++ r
  | [], l => ⟨[], by simp [varsL]⟩
  | t :: r, l => by
    obtain ⟨a, ha⟩ := varsT_ext t l
    obtain ⟨b, hb⟩ := varsL_ext r (varsT t l)
    exact ⟨a ++ b, by rw [varsL, hb, ha, List.append_assoc]⟩
end
theorem noOf_append {l : List Int} {n : Int} (r : List Int) (h : n ∈ l) : noOf (l ++ r) n = noOf l n := by
  obtain ⟨i, hi, _⟩ := pos_mem n l h
  unfold noOf
  rw [pos_append n r l i hi, hi]
mutual
theorem mapT_congr {f g : Int → Tm} {P : Int → Prop} (h : ∀ n, P n → f n = g n) : ∀ t : Tm, allV P t → mapT f t = mapT g t
  | .mk k s n re im xs, ha => by
    obtain ⟨a1, a2⟩ := ha
    unfold mapT
    split
    · rename_i h1; exact h n (a1 h1)
    · split
      · rfl
      · rename_i h5
        rw [mapL_congr h xs (a2 (by simpa using h5))]
theorem mapL_congr {f g : Int → Tm} {P : Int → Prop} (h : ∀ n, P n → f n = g n) : ∀ l : List Tm, allVL P l → mapL f l = mapL g l
  | [], _ => rfl
  | t :: r, ⟨h1, h2⟩ => by rw [mapL, mapL, mapT_congr h t h1, mapL_congr h r h2]
end
theorem nm_append {l : List Int} {t : Tm} (r : List Int) (h : allV (· ∈ l) t) : nm (l ++ r) t = nm l t :=
  mapT_congr (P := (· ∈ l)) (fun n hn => by simp only [noOf_append r hn]) t h
theorem allV_own (t : Tm) (l : List Int) : allV (· ∈ varsT t l) t := allV_vars _ t l fun _ h => h
theorem allVL_own (xs : List Tm) (l : List Int) : allVL (· ∈ varsL xs l) xs := allVL_vars _ xs l fun _ h => h

/-! ### Numbers in range -/
mutual
def rngd : Tm → Prop
  | .mk k _ n re im xs => (-9223372036854775808 ≤ n ∧ n ≤ 9223372036854775807) ∧ 0 ≤ re ∧ 0 ≤ im ∧ (k = 5 → rngdL xs)
def rngdL : List Tm → Prop
  | [] => True
  | t :: r => rngd t ∧ rngdL r
end
theorem rngdL_of : ∀ l : List Tm, (∀ t ∈ l, rngd t) → rngdL l
  | [], _ => trivial
  | t :: r, h => ⟨h t (List.mem_cons_self ..), rngdL_of r fun x hx => h x (List.mem_cons_of_mem _ hx)⟩
theorem TmC.rngd {w : World} {S : Blk} {cs : List Value} {t : Tm} (h : TmC w S cs t) : rngd t := by
  refine Tm.ind (P := fun t => ∀ cs, TmC w S cs t → Ytceahdlcbiialaa.rngd t) ?_ t cs h
  intro k s n re im xs ih cs h
  obtain ⟨A, cap, rfl, ⟨hk, hs, hn, hr, hi, hl⟩, hA⟩ := h.form
  simp only [Tm.n, Tm.re, Tm.im, Tm.xs] at hn hr hi hA
  refine ⟨hn, hr.1, hi.1, fun _ => rngdL_of _ fun x hx => ?_⟩
  obtain ⟨i, hi⟩ := List.getElem?_of_mem hx
  obtain ⟨g, o, A', cap', _, _, _, _, _, _, _, _, hT⟩ := hA i x hi
  exact ih x hx _ hT

/-! ### A cell stands for a term -/
mutual
/-- M: the cells; N: the names; R: the variables' cells. -/
def dir (M : Nat → Option Nat) (N : Nat → Option ByteArray) (R : Int → Option Nat) : Tm → Nat → Prop
  | .mk k s n re im xs, c =>
    if k = 1 then R n = some c ∧ tg c = 0 ∧ M (vl c) = some c
    else if k = 5 then tg c = 1 ∧ (∃ a, M (vl c) = some (fun6 a xs.length) ∧ N a = some s) ∧ dirL M N R xs (vl c + 1)
    else if k = 2 then tg c = 2 ∧ N (vl c) = some s
    else if k = 3 then (smallOk n = true ∧ c = small n) ∨ (tg c = 4 ∧ M (vl c) = some (u64 n))
    else tg c = 5 ∧ M (vl c) = some re.toNat ∧ M (vl c + 1) = some im.toNat
def dirL (M : Nat → Option Nat) (N : Nat → Option ByteArray) (R : Int → Option Nat) : List Tm → Nat → Prop
  | [], _ => True
  | t :: r, i => (∃ c, M i = some c ∧ dir M N R t c) ∧ dirL M N R r (i + 1)
end
section
variable {M M' : Nat → Option Nat} {N N' : Nat → Option ByteArray} {R R' : Int → Option Nat} (hM : ∀ i v, M i = some v → M' i = some v) (hN : ∀ i v, N i = some v → N' i = some v) (hR : ∀ i v, R i = some v → R' i = some v)
include hM hN hR
mutual
theorem dir_mono : ∀ (t : Tm) (c : Nat), dir M N R t c → dir M' N' R' t c
  | .mk k s n re im xs, c, h => by
    unfold dir at h ⊢
    split at h
    · rename_i h1
      rw [if_pos h1]
      exact ⟨hR _ _ h.1, h.2.1, hM _ _ h.2.2⟩
    · rename_i h1
      rw [if_neg h1]
      split at h
      · rename_i h5
        obtain ⟨a1, ⟨a, a2, a3⟩, a4⟩ := h
        rw [if_pos h5]
        exact ⟨a1, ⟨a, hM _ _ a2, hN _ _ a3⟩, dirL_mono xs _ a4⟩
      · rename_i h5
        rw [if_neg h5]
        split at h
        · rename_i h2
          rw [if_pos h2]
          exact ⟨h.1, hN _ _ h.2⟩
        · rename_i h2
          rw [if_neg h2]
          split at h
          · rename_i h3
            rw [if_pos h3]
            exact h.imp id fun x => ⟨x.1, hM _ _ x.2⟩
          · rename_i h3
            rw [if_neg h3]
            exact ⟨h.1, hM _ _ h.2.1, hM _ _ h.2.2⟩
theorem dirL_mono : ∀ (l : List Tm) (i : Nat), dirL M N R l i → dirL M' N' R' l i
  | [], _, _ => trivial
  | t :: r, i, h => by
    obtain ⟨⟨c, h1, h2⟩, h3⟩ := h
    exact ⟨⟨c, hM _ _ h1, dir_mono t c h2⟩, dirL_mono r _ h3⟩
end
end
theorem dirL_get {M : Nat → Option Nat} {N : Nat → Option ByteArray} {R : Int → Option Nat} : ∀ (l : List Tm) (i j : Nat) (x : Tm), dirL M N R l i → l[j]? = some x → ∃ c, M (i + j) = some c ∧ dir M N R x c
  | t :: r, i, 0, x, h, hx => by simp at hx; subst hx; exact h.1
  | t :: r, i, j + 1, x, h, hx => by
    have := dirL_get r (i + 1) j x h.2 (by simpa using hx)
    rwa [show i + 1 + j = i + (j + 1) from by omega] at this
theorem deref_self (l : List Nat) (k c : Nat) (h : l[vl c]? = some c) : deref l k c = c := by
  cases k with
  | zero => rfl
  | succ k =>
    rw [deref]
    split
    · rw [h]; simp
    · rfl
theorem sint_small (n : Int) (h : smallOk n = true) : sint (small n) = n ∧ tg (small n) = 3 := by
  unfold smallOk at h
  simp only [Bool.and_eq_true, decide_eq_true_eq] at h
  constructor
  · unfold sint small wrap64
    omega
  · unfold tg small
    omega
theorem wrap_u64 (n : Int) (h : -9223372036854775808 ≤ n ∧ n ≤ 9223372036854775807) : wrap64 (u64 n : Int) = n := by
  unfold u64 wrap64
  omega
theorem fArity_fun6 (a n : Nat) (h : n ≤ 20) : tg (fun6 a n) = 6 ∧ fAtom (fun6 a n) = a ∧ fArity (fun6 a n) = n := by
  have h1 : tg (fun6 a n) = 6 := tg_mkc 6 _ (by omega)
  have h2 : vl (fun6 a n) = a * 256 + n := vl_mkc 6 _ (by omega)
  refine ⟨h1, ?_, ?_⟩
  · unfold fAtom; rw [if_pos h1, h2]; omega
  · unfold fArity; rw [if_pos h1, h2]; omega

/-! ### .. and reads as it -/
/-- The variables that were met have the numbers that their places in the list say. -/
def VR (R : Int → Option Nat) (l : List Int) (V : List (Nat × Nat)) : Prop := V.length = l.length ∧ ∀ n c, R n = some c → lk V (vl c) = pos l n
def Inj (R : Int → Option Nat) : Prop := ∀ n m c d, R n = some c → R m = some d → vl c = vl d → n = m
theorem up_absent {α β : Type} [DecidableEq α] (a : α) (b : β) : ∀ V : List (α × β), lk V a = none → up V a b = V ++ [(a, b)]
  | [], _ => rfl
  | (x, y) :: V, h => by
    unfold lk at h
    split at h
    · cases h
    · rename_i hne
      rw [up, if_neg hne, up_absent a b V h]
      rfl
theorem lk_append {α β : Type} [DecidableEq α] (a x : α) (b : β) : ∀ V : List (α × β), lk (V ++ [(x, b)]) a = match lk V a with | some y => some y | none => if a = x then some b else none
  | [] => by simp [lk]
  | (k, y) :: V => by
    rw [List.cons_append, lk, lk]
    by_cases h : a = k
    · simp [h]
    · rw [if_neg h, if_neg h, lk_append a x b V]
theorem VR.new {R : Int → Option Nat} {l : List Int} {V : List (Nat × Nat)} (hI : Inj R) (h : VR R l V) {n : Int} {c : Nat} (hc : R n = some c) (hn : n ∉ l) : lk V (vl c) = none ∧ VR R (l ++ [n]) (up V (vl c) V.length) := by
  have h1 : lk V (vl c) = none := by rw [h.2 n c hc, pos_none n l hn]
  refine ⟨h1, ?_⟩
  rw [up_absent _ _ _ h1]
  refine ⟨by simp [h.1], fun m d hd => ?_⟩
  rw [lk_append]
  by_cases hm : m = n
  · subst hm
    rw [hc] at hd
    cases hd
    rw [h1, pos_snoc m l hn, h.1]
    simp
  · rw [pos_snoc_ne n m hm, h.2 m d hd]
    cases hp : pos l m with
    | some i => rfl
    | none =>
      have : vl d ≠ vl c := fun e => hm (hI m n d c hd hc e)
      simp [this]
theorem mayL_ok : ∀ (l : List Tm) (d c c' : Nat) (t : Tm) (r : List Tm), l = t :: r → mayL l d (c, 0) = (c', 0) → ∃ c1, may t d (c, 0) = (c1, 0) ∧ mayL r d (c1, 0) = (c', 0) := by
  rintro l d c c' t r rfl h
  simp only [mayL] at h
  rcases hm : may t d (c, 0) with ⟨c1, e1⟩
  rw [hm] at h
  by_cases he : e1 = 0
  · subst he; exact ⟨c1, rfl, h⟩
  · rw [mayL_err _ _ _ _ he] at h
    simp only [Prod.mk.injEq] at h
    exact absurd h.2 he
section
variable {C : List Nat} {L : List ByteArray} {R : Int → Option Nat} (hI : Inj R)
include hI
mutual
theorem rd_dir : ∀ (t : Tm) (d cn cn' : Nat) (l : List Int) (V : List (Nat × Nat)) (c : Nat), rngd t → may t d (cn, 0) = (cn', 0) → dir (C[·]?) (L[·]?) R t c → VR R l V →
    ∃ V', rd C L (501 - d) c ⟨V, cn⟩ = ((nm (varsT t l) t, 0), ⟨V', cn'⟩) ∧ VR R (varsT t l) V'
  | .mk k s n re im xs, d, cn, cn', l, V, c, hr, hm, hd, hV => by
    rw [may_eq, if_neg (by simp)] at hm
    split at hm
    · simp at hm
    · rename_i hb
      have hf : 501 - d = (500 - d) + 1 := by omega
      rw [hf, rd, if_neg (by simp only; omega)]
      split at hm
      · rename_i h1
        simp only [Prod.mk.injEq] at hm
        exact absurd hm.2 h1
      · rename_i h1
        simp only [ne_eq, Decidable.not_not] at h1
        obtain ⟨o1, o2, o3, o4, o5⟩ := one_zero.1 h1
        simp only [Tm.k, Tm.n, Tm.xs, Tm.s] at o1 o2 o3 o4 o5
        obtain ⟨r1, r2, r3, r4⟩ := hr
        unfold dir at hd
        by_cases k1 : k = 1
        · rw [if_pos k1] at hd
          rw [if_neg (by omega)] at hm
          obtain ⟨d1, d2, d3⟩ := hd
          cases hm
          rw [deref_self C _ c d3, rdOne, if_pos d2, rdVar, if_pos d3]
          have hv : varsT (.mk k s n re im xs) l = if n ∈ l then l else l ++ [n] := by rw [varsT, if_pos k1]
          have hnm : ∀ q, nm q (.mk k s n re im xs) = tVar (noOf q n : Nat) := fun q => by rw [nm, mapT, if_pos k1]
          rw [hnm, hv]
          by_cases hn : n ∈ l
          · obtain ⟨i, hi, _⟩ := pos_mem n l hn
            have hlk : lk V (vl c) = some i := by rw [hV.2 n c d1, hi]
            simp only [hlk, if_pos hn]
            refine ⟨V, ?_, hV⟩
            simp [noOf, hi]
          · obtain ⟨e1, e2⟩ := hV.new hI d1 hn
            simp only [e1, if_neg hn]
            refine ⟨_, ?_, e2⟩
            simp [noOf, pos_snoc n l hn, hV.1]
        · rw [if_neg k1] at hd
          by_cases k5 : k = 5
          · rw [if_pos k5] at hd hm
            obtain ⟨d1, ⟨a, d2, d3⟩, d4⟩ := hd
            obtain ⟨o6, o7⟩ := o4 k5
            rw [deref_stop0 C _ c (by omega), rdOne, if_neg (by omega), if_pos d1, rdComp]
            obtain ⟨f1, f2, f3⟩ := fArity_fun6 a xs.length o7
            have hlast : vl c + xs.length < C.length := by
              obtain ⟨cc, q1, q2⟩ := dirL_get xs (vl c + 1) (xs.length - 1) _ d4 (List.getElem?_eq_getElem (by omega))
              have := (List.getElem?_eq_some_iff.1 q1).1
              omega
            have hfun : funAt C L c = some (s, xs.length) := by
              unfold funAt
              simp only [d2, f1, f2, f3, d3, ne_eq, not_true_eq_false, if_false]
              rw [if_pos ⟨o6, o7, hlast⟩]
            rw [hfun]
            simp only
            obtain ⟨V', e1, e2⟩ := rdAll_dir xs (d + 1) (cn + 1) cn' l V (vl c + 1) (r4 k5) hm d4 hV
            have hf2 : 501 - (d + 1) = 500 - d := by omega
            rw [hf2] at e1
            rw [e1]
            have hv : varsT (.mk k s n re im xs) l = varsL xs l := by rw [varsT, if_neg k1, if_pos k5]
            have hnm : nm (varsL xs l) (.mk k s n re im xs) = tComp s (nmL (varsL xs l) xs) := by
              rw [nm, mapT, if_neg k1, if_neg (by simp [k5])]; rfl
            rw [hv, hnm]
            exact ⟨V', by simp, e2⟩
          · rw [if_neg k5] at hd hm
            cases hm
            have hv : varsT (.mk k s n re im xs) l = l := by rw [varsT, if_neg k1, if_neg k5]
            have hnm : nm l (.mk k s n re im xs) = .mk k (if k = 2 ∨ k = 5 then s else ⟨#[]⟩) (if k = 1 ∨ k = 3 then n else 0) (if k = 4 then re else 0) (if k = 4 then im else 0) [] := by
              rw [nm, mapT, if_neg k1, if_pos k5, plain_leaf h1 k5]
            rw [hv, hnm]
            refine ⟨V, ?_, hV⟩
            by_cases k2 : k = 2
            · rw [if_pos k2] at hd
              subst k2
              rw [deref_stop0 C _ c (by omega), rdOne, if_neg (by omega), if_neg (by omega), if_pos hd.1]
              simp [hd.2, tAtom]
            · rw [if_neg k2] at hd
              by_cases k3 : k = 3
              · rw [if_pos k3] at hd
                subst k3
                rcases hd with ⟨g1, rfl⟩ | ⟨g1, g2⟩
                · obtain ⟨s1, s2⟩ := sint_small n g1
                  rw [deref_stop0 C _ _ (by omega), rdOne, if_neg (by omega), if_neg (by omega), if_neg (by omega), if_pos s2, s1]
                  simp [tInt]
                · rw [deref_stop0 C _ c (by omega), rdOne, if_neg (by omega), if_neg (by omega), if_neg (by omega), if_neg (by omega), if_pos g1]
                  simp only [g2, wrap_u64 n r1]
                  simp [tInt]
              · rw [if_neg k3] at hd
                have k4 : k = 4 := by omega
                subst k4
                obtain ⟨g1, g2, g3⟩ := hd
                rw [deref_stop0 C _ c (by omega), rdOne, if_neg (by omega), if_neg (by omega), if_neg (by omega), if_neg (by omega), if_neg (by omega), if_pos g1]
                simp only [g2, g3]
                simp [tCpx, Int.toNat_of_nonneg r2, Int.toNat_of_nonneg r3]
theorem rdAll_dir : ∀ (xs : List Tm) (d cn cn' : Nat) (l : List Int) (V : List (Nat × Nat)) (i : Nat), rngdL xs → mayL xs d (cn, 0) = (cn', 0) → dirL (C[·]?) (L[·]?) R xs i → VR R l V →
    ∃ V', rdAll (rd C L (501 - d)) ((C.drop i).take xs.length) ⟨V, cn⟩ = ((nmL (varsL xs l) xs, 0), ⟨V', cn'⟩) ∧ VR R (varsL xs l) V'
  | [], d, cn, cn', l, V, i, _, hm, _, hV => by
    simp only [mayL, Prod.mk.injEq, and_true] at hm
    subst hm
    exact ⟨V, rfl, hV⟩
  | t :: r, d, cn, cn', l, V, i, hr, hm, hd, hV => by
    obtain ⟨c1, m1, m2⟩ := mayL_ok _ d cn cn' t r rfl hm
    obtain ⟨⟨c, d1, d2⟩, d3⟩ := hd
    obtain ⟨V1, e1, e2⟩ := rd_dir t d cn c1 l V c hr.1 m1 d2 hV
    obtain ⟨V2, e3, e4⟩ := rdAll_dir r d c1 cn' (varsT t l) V1 (i + 1) hr.2 m2 d3 e2
    have hlt := (List.getElem?_eq_some_iff.1 d1).1
    have e : C[i] = c := (List.getElem?_eq_some_iff.1 d1).2
    rw [List.drop_eq_getElem_cons hlt, e, List.length_cons, List.take_succ_cons, rdAll, e1]
    simp only [ne_eq, not_true_eq_false, if_false, e3]
    refine ⟨V2, ?_, e4⟩
    obtain ⟨q, hq⟩ := varsL_ext r (varsT t l)
    have hs : nm (varsT t l) t = nm (varsL r (varsT t l)) t := by rw [hq, nm_append q (allV_own t l)]
    have e9 : nmL (varsL (t :: r) l) (t :: r) = nm (varsL r (varsT t l)) t :: nmL (varsL r (varsT t l)) r := rfl
    rw [e9, hs]
end
end
#print axioms rd_dir
end Go.Proofs.Ytceahdlcbiialaa
set_option linter.unusedVariables false
set_option linter.unusedSimpArgs false
namespace Go.Proofs.Ytceahdlcbiialaa
open Go.RowKit

mutual
/-- The reference's Like. -/
def likeT : Tm → Tm → Bool
  | .mk k s n re im xs, .mk k' s' n' re' im' xs' =>
    if k ≠ k' then false else if k = 1 ∨ k = 3 then decide (n = n') else if k = 2 then decide (s = s') else if k = 4 then decide (re = re') && decide (im = im')
    else if s ≠ s' ∨ xs.length ≠ xs'.length then false else likeL xs xs'
def likeL : List Tm → List Tm → Bool
  | t :: r, t' :: r' => if likeT t t' = true then likeL r r' else false
  | _, _ => true
end
mutual
theorem like_refl : ∀ t : Tm, likeT t t = true
  | .mk k s n re im xs => by
    unfold likeT
    rw [if_neg (by simp)]
    split
    · simp
    · split
      · simp
      · split
        · simp
        · rw [if_neg (by simp)]
          exact likeL_refl xs
theorem likeL_refl : ∀ l : List Tm, likeL l l = true
  | [] => by unfold likeL; rfl
  | t :: r => by unfold likeL; rw [if_pos (like_refl t)]; exact likeL_refl r
end
def SameT (a b : Tm) : Bool := decide (May a = 0) && (decide (May b = 0) && likeT a b)
/-- The reference's Rename. -/
def renT (t : Tm) : Tm := if May t ≠ 0 then tNone else nm (varsT t []) t
def VariantT (a b : Tm) : Bool := decide (May a = 0) && (decide (May b = 0) && likeT (renT a) (renT b))
theorem nm_leaf {k n re im : Int} {s : ByteArray} {xs : List Tm} (h1 : one (.mk k s n re im xs) = 0) (k1 : k ≠ 1) (k5 : k ≠ 5) (l : List Int) :
    nm l (.mk k s n re im xs) = .mk k (if k = 2 ∨ k = 5 then s else ⟨#[]⟩) (if k = 1 ∨ k = 3 then n else 0) (if k = 4 then re else 0) (if k = 4 then im else 0) [] := by
  rw [nm, mapT, if_neg k1, if_pos k5, plain_leaf h1 k5]
theorem nm_var {n re im : Int} {s : ByteArray} {xs : List Tm} (l : List Int) : nm l (.mk 1 s n re im xs) = tVar (noOf l n : Nat) := by rw [nm, mapT, if_pos rfl]
theorem nm_comp {n re im : Int} {s : ByteArray} {xs : List Tm} (l : List Int) : nm l (.mk 5 s n re im xs) = .mk 5 s 0 0 0 (nmL l xs) := by rw [nm, mapT, if_neg (by omega), if_neg (by simp)]; rfl
theorem nmL_length (l : List Int) (xs : List Tm) : (nmL l xs).length = xs.length := by rw [nmL, mapL_map]; simp
theorem one_comp {n re im n' re' im' : Int} {s : ByteArray} {xs xs' : List Tm} (h : one (.mk 5 s n re im xs) = 0) (hl : xs'.length = xs.length) : one (.mk 5 s n' re' im' xs') = 0 := by
  obtain ⟨x1, x2, x3, x4, x5⟩ := one_zero.1 h
  simp only [Tm.k, Tm.xs, Tm.s, Tm.n] at x1 x2 x3 x4 x5
  exact one_zero.2 ⟨x1, x2, fun h => by simp [Tm.k] at h, fun _ => by simp only [Tm.xs, hl]; first | exact x4 rfl | exact x4 trivial, fun _ => by first | exact x5 (.inr rfl) | exact x5 (.inr trivial)⟩
theorem one_var (n : Nat) : one (tVar (n : Int)) = 0 := one_zero.2 ⟨by simp [tVar, Tm.k], by simp [tVar, Tm.k], fun _ => by simp [tVar, Tm.n], fun h => by simp [tVar, Tm.k] at h, fun h => by simp [tVar, Tm.k] at h⟩
mutual
theorem may_nm (l : List Int) : ∀ (t : Tm) (d c e : Nat), good t → may (nm l t) d (c, e) = may t d (c, e)
  | .mk k s n re im xs, d, c, e, ⟨h1, h2⟩ => by
    by_cases he : e = 0
    case neg => rw [may_err _ _ _ _ he, may_err _ _ _ _ he]
    subst he
    by_cases k1 : k = 1
    · subst k1
      have h3 := one_var (noOf l n)
      rw [nm_var, tVar, may_leaf h3 (by omega), may_leaf h1 (by omega)]
    · by_cases k5 : k = 5
      · subst k5
        have h3 : one (.mk 5 s 0 0 0 (nmL l xs)) = 0 := one_comp h1 (nmL_length l xs)
        rw [nm_comp, may_eq, may_eq, h3]
        simp only [h1, mayL_nm l xs (d + 1) (c + 1) 0 (h2 rfl)]
      · rw [nm_leaf h1 k1 k5, may_leaf (one_plain h1 k5) k5, may_leaf h1 k5]
theorem mayL_nm (l : List Int) : ∀ (xs : List Tm) (d c e : Nat), goodL xs → mayL (nmL l xs) d (c, e) = mayL xs d (c, e)
  | [], d, c, e, _ => rfl
  | t :: r, d, c, e, ⟨h1, h2⟩ => by
    simp only [nmL, mapL, mayL]
    have := may_nm l t d c e h1
    rw [nm] at this
    rw [this]
    rcases may t d (c, e) with ⟨c1, e1⟩
    exact mayL_nm l r d c1 e1 h2
end
theorem May_nm (l : List Int) {t : Tm} (h : May t = 0) : May (nm l t) = 0 := by
  unfold May
  rw [may_nm l t 1 0 0 (May_zero h).2]
  exact h
theorem good_nm (l : List Int) {t : Tm} (h : May t = 0) : good (nm l t) := (May_zero (May_nm l h)).2
/-- The first numbers. -/
def rg (n : Nat) : List Int := (List.range n).map fun (i : Nat) => (i : Int)
theorem rg_succ (n : Nat) : rg (n + 1) = rg n ++ [(n : Int)] := by simp [rg, List.range_succ]
theorem mem_rg (n : Nat) (i : Int) : i ∈ rg n ↔ 0 ≤ i ∧ i < n := by
  simp only [rg, List.mem_map, List.mem_range]
  constructor
  · rintro ⟨j, hj, rfl⟩; omega
  · rintro ⟨h1, h2⟩; exact ⟨i.toNat, by omega, by omega⟩
theorem pos_rg : ∀ (n i : Nat), i < n → pos (rg n) i = some i
  | n + 1, i, h => by
    rw [rg_succ]
    by_cases hi : i = n
    · subst hi
      rw [pos_snoc _ _ (by rw [mem_rg]; omega)]
      simp [rg]
    · rw [pos_snoc_ne _ _ (by omega), pos_rg n i (by omega)]
mutual
/-- The variables of a renamed term are the first numbers. -/
theorem vars_nm : ∀ (t : Tm) (l q : List Int), good t → varsT (nm (varsT t l ++ q) t) (rg l.length) = rg (varsT t l).length
  | .mk k s n re im xs, l, q, ⟨h1, h2⟩ => by
    by_cases k1 : k = 1
    · subst k1
      have hv : varsT (.mk 1 s n re im xs) l = if n ∈ l then l else l ++ [n] := by rw [varsT, if_pos rfl]
      rw [nm_var, hv, tVar, varsT, if_pos rfl]
      by_cases hn : n ∈ l
      · rw [if_pos hn]
        obtain ⟨i, hi, hl⟩ := pos_mem n l hn
        rw [noOf_append q hn, noOf, hi]
        rw [if_pos ((mem_rg _ _).2 ⟨by simp, by simp; omega⟩)]
      · rw [if_neg hn, noOf_append q (by simp), noOf, pos_snoc n l hn]
        simp only [Option.getD_some]
        rw [if_neg (fun h => by have := ((mem_rg _ _).1 h).2; omega), List.length_append, List.length_singleton, rg_succ]
    · by_cases k5 : k = 5
      · subst k5
        have hv : varsT (.mk 5 s n re im xs) l = varsL xs l := by rw [varsT, if_neg (by omega), if_pos rfl]
        rw [nm_comp, hv, varsT, if_neg (by omega), if_pos rfl]
        exact varsL_nm xs l q (h2 rfl)
      · have hv : varsT (.mk k s n re im xs) l = l := by rw [varsT, if_neg k1, if_neg k5]
        rw [nm_leaf h1 k1 k5, hv, varsT, if_neg k1, if_neg k5]
theorem varsL_nm : ∀ (xs : List Tm) (l q : List Int), goodL xs → varsL (nmL (varsL xs l ++ q) xs) (rg l.length) = rg (varsL xs l).length
  | [], l, q, _ => rfl
  | t :: r, l, q, ⟨h1, h2⟩ => by
    obtain ⟨u, hu⟩ := varsL_ext r (varsT t l)
    have e : varsL (t :: r) l = varsL r (varsT t l) := rfl
    rw [e, nmL, mapL, varsL]
    have a := vars_nm t l (u ++ q) h1
    rw [← List.append_assoc, ← hu] at a
    rw [nm] at a
    rw [a]
    exact varsL_nm r (varsT t l) q h2
end
mutual
/-- Renamed once is renamed. -/
theorem nm_nm (m : Nat) (l : List Int) (hl : l.length ≤ m) : ∀ t : Tm, good t → allV (· ∈ l) t → nm (rg m) (nm l t) = nm l t
  | .mk k s n re im xs, ⟨h1, h2⟩, ⟨a1, a2⟩ => by
    by_cases k1 : k = 1
    · subst k1
      obtain ⟨i, hi, hlt⟩ := pos_mem n l (a1 rfl)
      rw [nm_var, noOf, hi, tVar, nm_var, noOf]
      simp only [Option.getD_some]
      rw [pos_rg m i (by omega)]
      rfl
    · by_cases k5 : k = 5
      · subst k5
        rw [nm_comp, nm_comp, nmL_nm m l hl xs (h2 rfl) (a2 rfl)]
      · rw [nm_leaf h1 k1 k5, nm_leaf (one_plain h1 k5) k1 k5]
        have hk := one_k h1
        simp only [Tm.k] at hk
        have : k = 2 ∨ k = 3 ∨ k = 4 := by omega
        rcases this with rfl | rfl | rfl <;> simp
theorem nmL_nm (m : Nat) (l : List Int) (hl : l.length ≤ m) : ∀ xs : List Tm, goodL xs → allVL (· ∈ l) xs → nmL (rg m) (nmL l xs) = nmL l xs
  | [], _, _ => rfl
  | t :: r, ⟨h1, h2⟩, ⟨a1, a2⟩ => by
    have e1 := nm_nm m l hl t h1 a1
    have e2 := nmL_nm m l hl r h2 a2
    simp only [nmL, mapL, nm] at e1 e2 ⊢
    rw [e1, e2]
end
/-- What is told of a term is a variant of it. -/
theorem ren_ren {t : Tm} (h : May t = 0) : renT (renT t) = renT t ∧ May (renT t) = 0 := by
  have e : renT t = nm (varsT t []) t := by unfold renT; rw [if_neg (by simp [h])]
  have hm : May (nm (varsT t []) t) = 0 := May_nm _ h
  have hg := (May_zero h).2
  refine ⟨?_, by rw [e]; exact hm⟩
  rw [e]
  have e2 : renT (nm (varsT t []) t) = nm (varsT (nm (varsT t []) t) []) (nm (varsT t []) t) := by unfold renT; rw [if_neg (by simp [hm])]
  rw [e2]
  have hv := vars_nm t [] [] hg
  simp only [List.append_nil, List.length_nil] at hv
  have h0 : rg 0 = [] := rfl
  rw [h0] at hv
  rw [hv]
  exact nm_nm _ _ (Nat.le_refl _) t hg (allV_own t [])
theorem variant_ren {t : Tm} (h : May t = 0) : VariantT (renT t) t = true := by
  obtain ⟨h1, h2⟩ := ren_ren h
  unfold VariantT
  rw [h1]
  simp [h2, h, like_refl]
theorem same_ren {t : Tm} (h : May t = 0) : SameT (renT t) (renT t) = true := by
  obtain ⟨h1, h2⟩ := ren_ren h
  unfold SameT
  simp [h2, like_refl]
#print axioms variant_ren
end Go.Proofs.Ytceahdlcbiialaa
