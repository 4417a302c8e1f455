/- Cells copied from heap to heap. No condition. The copier: what it has, what it looks at. -/
import Derived.Test.YtceahdlcbiialaaF5M18
import Derived.Test.YtceahdlcbiialaaF5M22
set_option linter.unusedVariables false
set_option linter.unusedSimpArgs false
namespace Go.Proofs.Ytceahdlcbiialaa
open Go.RowKit

/-- A structure's functor, where all of it is there. -/
def funC (C : List Nat) (d : Nat) : Option (Nat × Nat) := match C[vl d]? with
  | none => none
  | some f => if tg f = 6 ∧ 1 ≤ fArity f ∧ fArity f ≤ 20 ∧ vl d + fArity f < C.length then some (f, fArity f) else none
/-- What there is while cells are copied: the cells there; what stands for a cell; how many were seen. -/
structure CS where
  K : List Nat
  M : List (Nat × Nat)
  n : Nat
def CS.met (s : CS) (d o : Nat) : CS := { s with M := up s.M d o }
def CS.at (s : CS) (i c : Nat) : CS := { s with K := s.K.set i c }
def CS.atI (s : CS) (i : Int) (c : Nat) : CS := if i < 0 then s else s.at i.toNat c
/-- A number's words. -/
def cpW (most tag : Nat) (l : List Nat) (s : CS) : (Nat × Nat) × CS :=
  if (pushAll most l s.K).1 = 0 then ((mkc tag s.K.length, 0), { s with K := (pushAll most l s.K).2 }) else ((0, (pushAll most l s.K).1), { s with K := (pushAll most l s.K).2 })
def cpV (most : Nat) (own : Int) (s : CS) : (Nat × Nat) × CS :=
  if own < 0 then (if s.K.length < most then ((mkc 0 s.K.length, 0), { s with K := s.K ++ [mkc 0 s.K.length] }) else ((0, 4), s)) else ((mkc 0 own.toNat, 0), s)
/-- A compound's functor, its arguments' cells: where, what is wrong. -/
def cpO (most f n : Nat) (s : CS) : (Nat × Nat) × CS :=
  if s.K.length < most then
    (if (varAll most n (s.K ++ [f])).1 = 0 then ((s.K.length, 0), { s with K := (varAll most n (s.K ++ [f])).2 }) else ((0, (varAll most n (s.K ++ [f])).1), { s with K := (varAll most n (s.K ++ [f])).2 }))
  else ((0, 4), s)
/-- Several, each where it belongs. -/
def cpAll (g : Nat → Int → CS → (Nat × Nat) × CS) : List Nat → Nat → CS → Nat × CS
  | [], _, s => (0, s)
  | c :: r, i, s => if (g c i s).1.2 ≠ 0 then ((g c i s).1.2, (g c i s).2) else cpAll g r (i + 1) ((g c i s).2.at i (g c i s).1.1)
/-- What was not met, its arguments aside: what stands for it, its arguments. -/
inductive Fresh where
  | leaf (o : Nat) (s : CS)
  | comp (at' : Nat) (args : List Nat) (s : CS)
  | bad (e : Nat) (s : CS)
def cpF (src : List Nat → List Nat) (most : Nat) (d : Nat) (own : Int) (s : CS) : Fresh :=
  if tg d = 0 then (if (src s.K)[vl d]? = some d then (if (cpV most own s).1.2 = 0 then .leaf (cpV most own s).1.1 (cpV most own s).2 else .bad (cpV most own s).1.2 (cpV most own s).2) else .bad 2 s)
  else if tg d = 1 then (match funC (src s.K) d with
    | none => .bad 2 s
    | some (f, n) => if (cpO most f n s).1.2 = 0 then .comp (cpO most f n s).1.1 (((src (cpO most f n s).2.K).drop (vl d + 1)).take n) (cpO most f n s).2 else .bad (cpO most f n s).1.2 (cpO most f n s).2)
  else if tg d = 4 then (match (src s.K)[vl d]? with
    | some x => if (cpW most 4 [x] s).1.2 = 0 then .leaf (cpW most 4 [x] s).1.1 (cpW most 4 [x] s).2 else .bad (cpW most 4 [x] s).1.2 (cpW most 4 [x] s).2
    | none => .bad 2 s)
  else if tg d = 5 then (match (src s.K)[vl d]?, (src s.K)[vl d + 1]? with
    | some x, some y => if (cpW most 5 [x, y] s).1.2 = 0 then .leaf (cpW most 5 [x, y] s).1.1 (cpW most 5 [x, y] s).2 else .bad (cpW most 5 [x, y] s).1.2 (cpW most 5 [x, y] s).2
    | _, _ => .bad 2 s)
  else .bad 2 s
/-- A cell's copy, its arguments aside. -/
def cpS (src : List Nat → List Nat) (most : Nat) (c : Nat) (own : Int) (s : CS) : Fresh :=
  if 100000 ≤ s.n then .bad 3 s else
  let d := deref (src s.K) (src s.K).length c
  let s1 : CS := { s with n := s.n + 1 }
  if tg d = 2 ∨ tg d = 3 then .leaf d s1 else
  match lk s.M d with
  | some o => .leaf o s1
  | none => match cpF src most d own s1 with
    | .leaf o s2 => .leaf o (s2.met d o)
    | .comp at' args s2 => .comp at' args (s2.met d (mkc 1 at'))
    | .bad e s2 => .bad e s2
/-- A cell's copy. -/
def cp (src : List Nat → List Nat) (most : Nat) : Nat → Nat → Int → CS → (Nat × Nat) × CS
  | 0, _, _, s => ((0, 3), s)
  | f + 1, c, own, s => match cpS src most c own s with
    | .bad e s1 => ((0, e), s1)
    | .leaf o s1 => ((o, 0), s1)
    | .comp at' args s1 => if (cpAll (cp src most f) args (at' + 1) s1).1 ≠ 0 then ((0, (cpAll (cp src most f) args (at' + 1) s1).1), (cpAll (cp src most f) args (at' + 1) s1).2) else ((mkc 1 at', 0), (cpAll (cp src most f) args (at' + 1) s1).2)
/-- How many were seen grows. -/
theorem cpV_n (most : Nat) (own : Int) (s : CS) : (cpV most own s).2.n = s.n := by unfold cpV; split <;> (try split) <;> rfl
theorem cpW_n (most tag : Nat) (l : List Nat) (s : CS) : (cpW most tag l s).2.n = s.n := by unfold cpW; split <;> rfl
theorem cpO_n (most f n : Nat) (s : CS) : (cpO most f n s).2.n = s.n := by unfold cpO; split <;> (try split) <;> rfl
def Fresh.s : Fresh → CS
  | .leaf _ s => s
  | .comp _ _ s => s
  | .bad _ s => s
theorem cpF_n (src : List Nat → List Nat) (most d : Nat) (own : Int) (s : CS) : (cpF src most d own s).s.n = s.n := by
  unfold cpF
  repeat' split
  all_goals first | rfl | exact cpV_n _ _ _ | exact cpO_n _ _ _ _ | exact cpW_n _ _ _ _
theorem cpS_n (src : List Nat → List Nat) (most c : Nat) (own : Int) (s : CS) : ((∃ s1, cpS src most c own s = .bad 3 s1) ∧ 100000 ≤ s.n) ∨ (cpS src most c own s).s.n = s.n + 1 := by
  unfold cpS
  split
  · rename_i h; exact .inl ⟨⟨_, rfl⟩, h⟩
  · right
    simp only
    split
    · rfl
    · split
      · rfl
      · have := cpF_n src most (deref (src s.K) (src s.K).length c) own { s with n := s.n + 1 }
        cases hq : cpF src most (deref (src s.K) (src s.K).length c) own { s with n := s.n + 1 } <;> rw [hq] at this <;> exact this
theorem cpAll_n {g : Nat → Int → CS → (Nat × Nat) × CS} (hg : ∀ c i s, s.n ≤ (g c i s).2.n) : ∀ (l : List Nat) (i : Nat) (s : CS), s.n ≤ (cpAll g l i s).2.n
  | [], _, s => Nat.le_refl _
  | c :: r, i, s => by
    have h1 := hg c i s
    unfold cpAll
    split
    · exact h1
    · exact Nat.le_trans h1 (cpAll_n hg r (i + 1) ((g c i s).2.at i (g c i s).1.1))
theorem cp_n (src : List Nat → List Nat) (most : Nat) : ∀ (f c : Nat) (own : Int) (s : CS), s.n ≤ (cp src most f c own s).2.n
  | 0, _, _, s => Nat.le_refl _
  | f + 1, c, own, s => by
    have h := cpS_n src most c own s
    unfold cp
    cases hq : cpS src most c own s with
    | bad e s1 =>
      rw [hq] at h
      rcases h with ⟨⟨s2, h1⟩, h2⟩ | h
      · unfold cpS at hq
        rw [if_pos h2] at hq
        cases hq
        exact Nat.le_refl _
      · simp only [Fresh.s] at h; simp only; omega
    | leaf o s1 =>
      rw [hq] at h
      rcases h with ⟨⟨s2, h1⟩, h2⟩ | h
      · cases h1
      · simp only [Fresh.s] at h; simp only; omega
    | comp at' args s1 =>
      rw [hq] at h
      rcases h with ⟨⟨s2, h1⟩, h2⟩ | h
      · cases h1
      · simp only [Fresh.s] at h
        have := cpAll_n (cp_n src most f) args (at' + 1) s1
        simp only
        split <;> simp only <;> omega
theorem cpAll_congr {g g' : Nat → Int → CS → (Nat × Nat) × CS} {n0 : Nat} (hg : ∀ c i s, s.n ≤ (g c i s).2.n) (h : ∀ c i s, n0 ≤ s.n → g' c i s = g c i s) : ∀ (l : List Nat) (i : Nat) (s : CS), n0 ≤ s.n → cpAll g' l i s = cpAll g l i s
  | [], _, _, _ => rfl
  | c :: r, i, s, hn => by
    have h1 := hg c i s
    unfold cpAll
    rw [h c i s hn, cpAll_congr hg h r (i + 1) ((g c i s).2.at i (g c i s).1.1) (by simp only [CS.at]; omega)]
/-- Enough is enough. -/
theorem cp_fuel (src : List Nat → List Nat) (most : Nat) : ∀ (f f' c : Nat) (own : Int) (s : CS), 100001 ≤ f + s.n → f ≤ f' → cp src most f' c own s = cp src most f c own s
  | 0, 0, c, own, s, _, _ => rfl
  | 0, f' + 1, c, own, s, h1, _ => by
    unfold cp
    have : cpS src most c own s = .bad 3 s := by unfold cpS; rw [if_pos (by omega)]
    rw [this]
  | f + 1, 0, c, own, s, _, h3 => by omega
  | f + 1, f' + 1, c, own, s, h1, h3 => by
    have h := cpS_n src most c own s
    unfold cp
    cases hq : cpS src most c own s with
    | bad e s1 => rfl
    | leaf o s1 => rfl
    | comp at' args s1 =>
      rw [hq] at h
      rcases h with ⟨⟨s2, h4⟩, _⟩ | h
      · cases h4
      · simp only [Fresh.s] at h
        have e : cpAll (cp src most f') args (at' + 1) s1 = cpAll (cp src most f) args (at' + 1) s1 :=
          cpAll_congr (n0 := s.n + 1) (cp_n src most f) (fun c i s3 hn => cp_fuel src most f f' c i s3 (by omega) (by omega)) args (at' + 1) s1 (by omega)
        simp only [e]
/-! ### The stack -/
/-- What is still to be copied: a cell; a cell that does already. -/
structure Ct where
  c : Nat
  i : Int
  done : Bool
/-- A cell's copy, with visits enough. -/
def cpX (src : List Nat → List Nat) (most : Nat) (c : Nat) (own : Int) (s : CS) : (Nat × Nat) × CS := cp src most 100001 c own s
def finC (src : List Nat → List Nat) (most : Nat) : List Ct → Nat → CS → (Nat × Nat) × CS
  | [], f, s => ((f, 0), s)
  | ⟨c, i, true⟩ :: r, f, s => finC src most r (if i < 0 then c else f) (s.atI i c)
  | ⟨c, i, false⟩ :: r, f, s => if (cpX src most c i s).1.2 ≠ 0 then ((0, (cpX src most c i s).1.2), (cpX src most c i s).2) else finC src most r (if i < 0 then (cpX src most c i s).1.1 else f) ((cpX src most c i s).2.atI i (cpX src most c i s).1.1)
/-- The arguments, from a place on. -/
def cts (args : List Nat) (i : Nat) : List Ct := args.zipIdx i |>.map fun p => ⟨p.1, (p.2 : Int), false⟩
theorem cts_cons (c : Nat) (args : List Nat) (i : Nat) : cts (c :: args) i = ⟨c, (i : Int), false⟩ :: cts args (i + 1) := rfl
theorem finC_kids (src : List Nat → List Nat) (most : Nat) (r : List Ct) (f : Nat) : ∀ (args : List Nat) (i : Nat) (s : CS), finC src most (cts args i ++ r) f s =
    if (cpAll (cpX src most) args i s).1 ≠ 0 then ((0, (cpAll (cpX src most) args i s).1), (cpAll (cpX src most) args i s).2) else finC src most r f (cpAll (cpX src most) args i s).2
  | [], i, s => by simp [cts, cpAll]
  | c :: args, i, s => by
    rw [cts_cons, List.cons_append, finC, cpAll]
    by_cases h : (cpX src most c (i : Int) s).1.2 = 0
    · have h2 : ¬ ((i : Int) < 0) := by omega
      have e1 : (cpX src most c (i : Int) s).2.atI (i : Int) (cpX src most c (i : Int) s).1.1 = (cpX src most c (i : Int) s).2.at i (cpX src most c (i : Int) s).1.1 := by simp [CS.atI, h2]
      simp only [h, ne_eq, not_true_eq_false, if_false, if_neg h2, e1]
      exact finC_kids src most r f args (i + 1) _
    · simp [h]
/-- One step of the stack. -/
theorem finC_step (src : List Nat → List Nat) (most : Nat) (c : Nat) (i : Int) (r : List Ct) (f : Nat) (s : CS) : finC src most (⟨c, i, false⟩ :: r) f s = match cpS src most c i s with
    | .bad e s1 => if e ≠ 0 then ((0, e), s1) else finC src most r (if i < 0 then 0 else f) (s1.atI i 0)
    | .leaf o s1 => finC src most r (if i < 0 then o else f) (s1.atI i o)
    | .comp at' args s1 => finC src most (cts args (at' + 1) ++ ⟨mkc 1 at', i, true⟩ :: r) f s1 := by
  rw [finC, cpX]
  have h := cpS_n src most c i s
  have e : cp src most 100001 c i s = match cpS src most c i s with
    | .bad e s1 => ((0, e), s1)
    | .leaf o s1 => ((o, 0), s1)
    | .comp at' args s1 => if (cpAll (cp src most 100000) args (at' + 1) s1).1 ≠ 0 then ((0, (cpAll (cp src most 100000) args (at' + 1) s1).1), (cpAll (cp src most 100000) args (at' + 1) s1).2) else ((mkc 1 at', 0), (cpAll (cp src most 100000) args (at' + 1) s1).2) := by
    rw [show (100001 : Nat) = 100000 + 1 from rfl, cp]
  rw [e]
  cases hq : cpS src most c i s with
  | bad e s1 => rfl
  | leaf o s1 => simp
  | comp at' args s1 =>
    rw [hq] at h
    rcases h with ⟨⟨s2, h4⟩, _⟩ | h
    · cases h4
    · simp only [Fresh.s] at h
      have e2 : cpAll (cpX src most) args (at' + 1) s1 = cpAll (cp src most 100000) args (at' + 1) s1 :=
        cpAll_congr (n0 := 1) (cp_n src most 100000) (fun c i s3 hn => cp_fuel src most 100000 100001 c i s3 (by omega) (by omega)) args (at' + 1) s1 (by omega)
      simp only
      rw [finC_kids, e2]
      by_cases hz : (cpAll (cp src most 100000) args (at' + 1) s1).1 = 0
      · simp [hz, finC]
      · simp [hz]
#print axioms finC_step
end Go.Proofs.Ytceahdlcbiialaa
set_option linter.unusedVariables false
set_option linter.unusedSimpArgs false
namespace Go.Proofs.Ytceahdlcbiialaa
open Go.RowKit

/-- Where cells are copied to, where from: another heap, or the same one. -/
structure Src where
  th : Nat
  fh : Nat
  most : Nat
  mf : Nat
  R : Asn
  src : List Nat → List Nat
  rd : ∀ {w : World} {S : Blk} {Γ : List Asn} {K : List Nat}, Ok w S (HeapA th most K :: R :: Γ) → HeapR w 1 0 fh mf (src K)
  ext : ∀ (K l : List Nat) (i x : Nat), (src K)[i]? = some x → (src (K ++ l))[i]? = some x
theorem Ok.empI {w : World} {S : Blk} {Γ : List Asn} (h : Ok w S Γ) : Ok w S (Asn.emp :: Γ) :=
  ⟨h.old, fun _ => False, fun _ h => h.elim, fun _ h => h, h.sat.anti fun b hb => hb.elim id False.elim⟩
/-- From another heap. -/
def Src.other (th fh most mf : Nat) (F : List Nat) : Src := ⟨th, fh, most, mf, HeapA fh mf F, fun _ => F, fun h => h.p1.heapAR, fun _ _ _ _ h => h⟩
/-- On its own heap. -/
def Src.own (h most : Nat) : Src := ⟨h, h, most, most, Asn.emp, fun K => K, fun h => h.heapAR, fun K l i x h => by rw [List.getElem?_append_left (List.getElem?_eq_some_iff.1 h).1]; exact h⟩
abbrev encU (n : Nat) : Value := .int .u64 (n : Int)
abbrev MetA (m : Nat) (M : List (Nat × Nat)) : Asn := MapA m encU encU M
abbrev CopG (X : Src) (p m : Nat) (s : CS) (v : Value) (Γ : List Asn) : List Asn :=
  HeapA X.th X.most s.K :: X.R :: Pt p #[.pointer (some ⟨X.fh, 0, none⟩), .pointer (some ⟨X.th, 0, none⟩), .map (some m), .int .i64 (s.n : Int), v] 151 :: MetA m s.M :: Γ
section
variable {w : World} {S : Blk} {Γ : List Asn} {X : Src} {p m : Nat} {s : CS} {v : Value}
theorem Ok.copPt (hO : Ok w S (CopG X p m s v Γ)) : (w.cell? ⟨p, 0, none⟩ = some (.pointer (some ⟨X.fh, 0, none⟩)) ∧ w.cell? ⟨p, 1, none⟩ = some (.pointer (some ⟨X.th, 0, none⟩)) ∧ w.cell? ⟨p, 2, none⟩ = some (.map (some m)) ∧ w.cell? ⟨p, 3, none⟩ = some (.int .i64 (s.n : Int)) ∧ w.cell? ⟨p, 4, none⟩ = some v) ∧
    (w.frozen? ⟨p, 3, none⟩ = false ∧ w.frozen? ⟨p, 4, none⟩ = false) ∧ p < w.heap.size :=
  ⟨⟨hO.p2.ptCell 0 _ rfl, hO.p2.ptCell 1 _ rfl, hO.p2.ptCell 2 _ rfl, hO.p2.ptCell 3 _ rfl, hO.p2.ptCell 4 _ rfl⟩, ⟨hO.p2.ptFree 3, hO.p2.ptFree 4⟩, hO.p2.ptLt⟩
set_option maxRecDepth 100000 in
set_option maxHeartbeats 1000000 in
theorem there_spec (hO : Ok w S (CopG X p m s v Γ)) (c : Nat) (hc : c < 18446744073709551616) (k : Nat) (h1 : 1 ≤ k) (hk : k ≤ 300) {k' : Int} (ek : k' = k) :
    Calls Try.prog 166 #[.pointer (some ⟨p, 0, none⟩), .int .u64 (c : Int), .int .i64 k'] w fun e w' => e = .returned (.bool (decide (vl c + k ≤ (X.src s.K).length))) ∧ w' = w := by
  subst ek
  have hR := X.rd hO
  have hC : (X.src s.K).length ≤ 1048576 := Nat.le_trans hR.2.2.2.1 hR.2.2.1
  have hvl := vl_lt c hc
  have hlen := len_spec hR
  have hval := value_spec c hc w
  obtain ⟨⟨k0, -⟩, -, -⟩ := hO.copPt
  generalize (X.src s.K).length = n at hC hlen ⊢
  have HL := Lib.hid hlen
  have HV := Lib.hid hval
  have e8 : IntKind.u64.wrap (n : Int) = (n : Int) := IntWalk.u64_in _ ⟨by omega, by omega⟩
  have e9 : IntKind.u64.wrap (k : Int) = (k : Int) := IntWalk.u64_in _ ⟨by omega, by omega⟩
  clear hlen hval hO hR
  by_cases hlt : vl c < n
  · have e10 : IntKind.u64.wrap ((n : Int) - (vl c : Int)) = (n : Int) - (vl c : Int) := IntWalk.u64_in _ ⟨by omega, by omega⟩
    have hd : decide ((k : Int) ≤ (n : Int) - (vl c : Int)) = decide (vl c + k ≤ n) := by
      by_cases hq : vl c + k ≤ n
      · rw [decide_eq_true hq, decide_eq_true]; omega
      · rw [decide_eq_false hq, decide_eq_false]; omega
    go_enter Try.func166, Try.ntmps166
    go_wp2_with (first | (go_at_call 31; refine HL.out.mono ?_; rintro e w' ⟨rfl, hww⟩; subst w') | (go_at_call 111; refine HV.out.mono ?_; rintro e w' ⟨rfl, hww⟩; subst w'))
    go_ret
    exact ⟨by rw [← hd]; rfl, rfl⟩
  · have hd : decide (vl c + k ≤ n) = false := by rw [decide_eq_false]; omega
    rw [hd]
    clear hd
    go_enter Try.func166, Try.ntmps166
    go_wp2_with (first | (go_at_call 31; refine HL.out.mono ?_; rintro e w' ⟨rfl, hww⟩; subst w') | (go_at_call 111; refine HV.out.mono ?_; rintro e w' ⟨rfl, hww⟩; subst w'))
    go_ret
    exact ⟨rfl, rfl⟩
set_option maxRecDepth 100000 in
set_option maxHeartbeats 1000000 in
theorem word_spec (hO : Ok w S (CopG X p m s v Γ)) (c i x : Nat) (hc : c < 18446744073709551616) (hx : (X.src s.K)[vl c + i]? = some x) {i' : Int} (ei : i' = i) :
    Calls Try.prog 167 #[.pointer (some ⟨p, 0, none⟩), .int .u64 (c : Int), .int .i64 i'] w fun e w' => e = .returned (.int .u64 (x : Int)) ∧ w' = w.drewN 1 := by
  subst ei
  have hR := X.rd hO
  have hlt := (List.getElem?_eq_some_iff.1 hx).1
  have hC : (X.src s.K).length ≤ 1048576 := Nat.le_trans hR.2.2.2.1 hR.2.2.1
  have hvl := vl_lt c hc
  have hval := value_spec c hc
  have hg := get_in (hR.drewN 1) (i' := ((vl c : Int) + (i : Int))) (vl c + i) x (by omega) hx
  obtain ⟨⟨k0, -⟩, -, -⟩ := hO.copPt
  have hC2 : vl c + i ≤ 1048576 := by omega
  have e8 : IntKind.i64.wrap (vl c : Int) = (vl c : Int) := IntWalk.i64_in _ ⟨by omega, by omega⟩
  have e9 : IntKind.i64.wrap ((vl c : Int) + (i : Int)) = (vl c : Int) + (i : Int) := IntWalk.i64_in _ ⟨by omega, by omega⟩
  have HV := Lib.hid hval
  have HG := Lib.hid hg
  clear hval hg hx hO hR hlt hC
  go_enter Try.func167, Try.ntmps167
  go_wp2_with fail
  go_region_held3 (fun Y => Y.cell? ⟨p, 0, none⟩ = some (.pointer (some ⟨X.fh, 0, none⟩))) (go_keep) (first | (go_at_call 111; refine (HV.out _).mono ?_; rintro e w' ⟨rfl, hww⟩; subst w') | (go_at_call 36; refine HG.out.mono ?_; rintro e w' ⟨rfl, hww⟩; subst w'))
  clear e8 e9
  go_wp2
  go_ret
  exact ⟨rfl, rfl⟩
set_option maxRecDepth 100000 in
set_option maxHeartbeats 400000 in
theorem cref_spec (n : Nat) (hn : n ≤ 1048577) (w : World) {n' : Int} (en : n' = n) : Calls Try.prog 171 #[.int .i64 n'] w fun e w' => e = .returned (.int .u64 (mkc 0 n : Nat)) ∧ w' = w := by
  subst en
  have e8 : IntKind.u64.wrap (n : Int) = (n : Int) := IntWalk.u64_in _ ⟨by omega, by omega⟩
  have hmk := make_spec (t' := 0) (n' := (n : Int)) 0 n rfl rfl (by omega) (by omega) w
  have HM := Lib.hid hmk
  clear hmk
  go_enter Try.func171, Try.ntmps171
  go_wp2_with (go_at_call 118; refine HM.out.mono ?_; rintro e w' ⟨rfl, hww⟩; subst w')
  go_ret
  exact ⟨rfl, rfl⟩
end
#print axioms word_spec
end Go.Proofs.Ytceahdlcbiialaa
