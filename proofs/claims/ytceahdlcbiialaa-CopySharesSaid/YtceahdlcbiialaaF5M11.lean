/- Terms laid in cells, one after the other. No condition. The functions of the layer: words, references, variables. -/
import Derived.Test.YtceahdlcbiialaaF5M4
import Derived.Test.YtceahdlcbiialaaF5M10
import Derived.Test.YtceahdlcbiialaaF5M7
import Derived.Test.YtceahdlcbiialaaF5M9
set_option linter.unusedVariables false
set_option linter.unusedSimpArgs false
namespace Go.Proofs.Ytceahdlcbiialaa

/-- What there is while terms are laid: the cells, the names, the variables' cells. -/
structure St where
  C : List Nat
  L : List ByteArray
  V : List (Int × Nat)
/-- Words, pushed: what is wrong, the cells. -/
def pushAll (most : Nat) : List Nat → List Nat → Nat × List Nat
  | [], C => (0, C)
  | x :: r, C => if C.length < most then pushAll most r (C ++ [x]) else (4, C)
/-- Variables, pushed. -/
def varAll (most : Nat) : Nat → List Nat → Nat × List Nat
  | 0, C => (0, C)
  | n + 1, C => if C.length < most then varAll most n (C ++ [mkc 0 C.length]) else (4, C)
def wordsP (most tag : Nat) (l : List Nat) (s : St) : (Nat × Nat) × St :=
  if (pushAll most l s.C).1 = 0 then ((mkc tag s.C.length, 0), { s with C := (pushAll most l s.C).2 }) else ((0, (pushAll most l s.C).1), { s with C := (pushAll most l s.C).2 })
def varP (most : Nat) (n own : Int) (s : St) : (Nat × Nat) × St :=
  match lk s.V n with
  | some c => ((c, 0), s)
  | none => if own < 0 then (if s.C.length < most then ((mkc 0 s.C.length, 0), { s with C := s.C ++ [mkc 0 s.C.length], V := up s.V n (mkc 0 s.C.length) }) else ((0, 4), s))
    else ((mkc 0 own.toNat, 0), { s with V := up s.V n (mkc 0 own.toNat) })
/-- The cell of a term that is no compound. -/
def leaf (most : Nat) (t : Tm) (own : Int) (s : St) : (Nat × Nat) × St :=
  if t.k = 1 then varP most t.n own s
  else if t.k = 2 then ((mkc 2 (number s.L t.s).1.1, (number s.L t.s).1.2), { s with L := (number s.L t.s).2 })
  else if t.k = 3 then (if smallOk t.n then ((small t.n, 0), s) else wordsP most 4 [u64 t.n] s)
  else wordsP most 5 [t.re.toNat, t.im.toNat] s
/-- A compound's functor and its arguments' cells: where, what is wrong. -/
def opn (most : Nat) (name : ByteArray) (n : Nat) (s : St) : (Nat × Nat) × St :=
  if (number s.L name).1.2 ≠ 0 then ((0, (number s.L name).1.2), { s with L := (number s.L name).2 })
  else if s.C.length < most then
    if (varAll most n (s.C ++ [fun6 (number s.L name).1.1 n])).1 = 0 then ((s.C.length, 0), { s with C := (varAll most n (s.C ++ [fun6 (number s.L name).1.1 n])).2, L := (number s.L name).2 })
    else ((0, (varAll most n (s.C ++ [fun6 (number s.L name).1.1 n])).1), { s with C := (varAll most n (s.C ++ [fun6 (number s.L name).1.1 n])).2, L := (number s.L name).2 })
  else ((0, 4), { s with L := (number s.L name).2 })
def St.at (s : St) (i c : Nat) : St := { s with C := s.C.set i c }
mutual
/-- A term laid: its cell, what is wrong. -/
def lay (most : Nat) : Tm → Int → St → (Nat × Nat) × St
  | .mk k s n re im xs, own, st =>
    if k = 5 then
      let o := opn most s xs.length st
      if o.1.2 ≠ 0 then ((0, o.1.2), o.2) else
      let q := layL most xs (o.1.1 + 1) o.2
      if q.1 ≠ 0 then ((0, q.1), q.2) else ((mkc 1 o.1.1, 0), q.2)
    else leaf most (.mk k s n re im []) own st
def layL (most : Nat) : List Tm → Nat → St → Nat × St
  | [], _, st => (0, st)
  | t :: r, i, st =>
    let o := lay most t i st
    if o.1.2 ≠ 0 then (o.1.2, o.2) else layL most r (i + 1) (o.2.at i o.1.1)
end
/-- What is to be laid: a term; a cell. -/
inductive Td where
  | tm (t : Tm) (i : Int)
  | cl (c : Nat) (i : Int)
def St.atI (s : St) (i : Int) (c : Nat) : St := if i < 0 then s else s.at i.toNat c
/-- All of a stack laid. -/
def fin (most : Nat) : List Td → Nat → St → (Nat × Nat) × St
  | [], f, s => ((f, 0), s)
  | .tm t i :: r, f, s => if (lay most t i s).1.2 ≠ 0 then ((0, (lay most t i s).1.2), (lay most t i s).2) else fin most r (if i < 0 then (lay most t i s).1.1 else f) ((lay most t i s).2.atI i (lay most t i s).1.1)
  | .cl c i :: r, f, s => fin most r (if i < 0 then c else f) (s.atI i c)
theorem fin_tm (most : Nat) (t : Tm) (i : Int) (r : List Td) (f : Nat) (s : St) {c e : Nat} {s1 : St} (h : lay most t i s = ((c, e), s1)) : fin most (.tm t i :: r) f s = if e ≠ 0 then ((0, e), s1) else fin most r (if i < 0 then c else f) (s1.atI i c) := by
  rw [fin, h]
theorem layL_cons (most : Nat) (t : Tm) (r : List Tm) (i : Nat) (s : St) {c e : Nat} {s1 : St} (h : lay most t i s = ((c, e), s1)) : layL most (t :: r) i s = if e ≠ 0 then (e, s1) else layL most r (i + 1) (s1.at i c) := by
  rw [layL, h]
def tds (xs : List Tm) (i : Nat) : List Td := xs.zipIdx i |>.map fun p => .tm p.1 (p.2 : Int)
theorem fin_kids (most : Nat) (r : List Td) (f : Nat) : ∀ (xs : List Tm) (i : Nat) (s : St), fin most (tds xs i ++ r) f s = if (layL most xs i s).1 ≠ 0 then ((0, (layL most xs i s).1), (layL most xs i s).2) else fin most r f (layL most xs i s).2
  | [], i, s => by simp [tds, layL]
  | t :: xs, i, s => by
    have e : tds (t :: xs) i = .tm t (i : Int) :: tds xs (i + 1) := rfl
    rw [e, List.cons_append]
    rcases h : lay most t i s with ⟨⟨c, e1⟩, s1⟩
    rw [fin_tm _ _ _ _ _ _ h, layL_cons _ _ _ _ _ h]
    by_cases h : e1 = 0
    · subst h
      have h2 : ¬ ((i : Int) < 0) := by omega
      have h3 : s1.atI (i : Int) c = s1.at i c := by simp [St.atI, h2]
      rw [if_neg (by simp), if_neg h2, h3, fin_kids most r f xs (i + 1) _, if_neg (show ¬ (0 ≠ 0) from by simp)]
    · simp [h]
theorem fin_leaf (most : Nat) (k : Int) (s : ByteArray) (n re im : Int) (xs : List Tm) (i : Int) (r : List Td) (f : Nat) (st : St) (h : k ≠ 5) : fin most (.tm (.mk k s n re im xs) i :: r) f st =
    if (leaf most (.mk k s n re im []) i st).1.2 ≠ 0 then ((0, (leaf most (.mk k s n re im []) i st).1.2), (leaf most (.mk k s n re im []) i st).2)
    else fin most r (if i < 0 then (leaf most (.mk k s n re im []) i st).1.1 else f) ((leaf most (.mk k s n re im []) i st).2.atI i (leaf most (.mk k s n re im []) i st).1.1) := by
  have e : lay most (.mk k s n re im xs) i st = leaf most (.mk k s n re im []) i st := by unfold lay; rw [if_neg h]
  rw [fin, e]
theorem fin_comp (most : Nat) (s : ByteArray) (n re im : Int) (xs : List Tm) (i : Int) (r : List Td) (f : Nat) (st : St) : fin most (.tm (.mk 5 s n re im xs) i :: r) f st =
    if (opn most s xs.length st).1.2 ≠ 0 then ((0, (opn most s xs.length st).1.2), (opn most s xs.length st).2)
    else fin most (tds xs ((opn most s xs.length st).1.1 + 1) ++ .cl (mkc 1 (opn most s xs.length st).1.1) i :: r) f (opn most s xs.length st).2 := by
  rw [fin_kids]
  have e : lay most (.mk 5 s n re im xs) i st = if (opn most s xs.length st).1.2 ≠ 0 then ((0, (opn most s xs.length st).1.2), (opn most s xs.length st).2) else if (layL most xs ((opn most s xs.length st).1.1 + 1) (opn most s xs.length st).2).1 ≠ 0 then ((0, (layL most xs ((opn most s xs.length st).1.1 + 1) (opn most s xs.length st).2).1), (layL most xs ((opn most s xs.length st).1.1 + 1) (opn most s xs.length st).2).2) else ((mkc 1 (opn most s xs.length st).1.1, 0), (layL most xs ((opn most s xs.length st).1.1 + 1) (opn most s xs.length st).2).2) := by
    rw [lay, if_pos rfl]
  rw [show fin most (.tm (.mk 5 s n re im xs) i :: r) f st = if (lay most (.mk 5 s n re im xs) i st).1.2 ≠ 0 then ((0, (lay most (.mk 5 s n re im xs) i st).1.2), (lay most (.mk 5 s n re im xs) i st).2) else fin most r (if i < 0 then (lay most (.mk 5 s n re im xs) i st).1.1 else f) ((lay most (.mk 5 s n re im xs) i st).2.atI i (lay most (.mk 5 s n re im xs) i st).1.1) from by rw [fin]]
  rw [e]
  rcases opn most s xs.length st with ⟨⟨c, e1⟩, s1⟩
  simp only
  by_cases h : e1 = 0
  · subst h
    simp only [ne_eq, not_true_eq_false, if_false]
    rcases layL most xs (c + 1) s1 with ⟨e2, s2⟩
    simp only
    by_cases h2 : e2 = 0
    · subst h2
      simp [fin]
    · simp [h2]
  · simp [h]
end Go.Proofs.Ytceahdlcbiialaa
set_option linter.unusedVariables false
set_option linter.unusedSimpArgs false
namespace Go.Proofs.Ytceahdlcbiialaa
open Go.RowKit

abbrev VarsA (m : Nat) (V : List (Int × Nat)) : Asn := MapA m (Value.int .i64) (fun c : Nat => Value.int .u64 (c : Int)) V
abbrev LayG (p h a m most : Nat) (st : St) (v : Value) (Γ : List Asn) : List Asn := HeapA h most st.C :: AtomsA a st.L :: VarsA m st.V :: Pt p #[.pointer (some ⟨h, 0, none⟩), .pointer (some ⟨a, 0, none⟩), .map (some m), v] 130 :: Γ
theorem pushAll_drop (most : Nat) (l : List Nat) (j x : Nat) (C : List Nat) (hx : l[j]? = some x) : pushAll most (l.drop j) C = if C.length < most then pushAll most (l.drop (j + 1)) (C ++ [x]) else (4, C) := by
  have hlt := (List.getElem?_eq_some_iff.1 hx).1
  have e : l[j] = x := (List.getElem?_eq_some_iff.1 hx).2
  rw [List.drop_eq_getElem_cons hlt, e, pushAll]

set_option maxRecDepth 100000 in
set_option maxHeartbeats 2000000 in
theorem words_spec {w : World} {S : Blk} {Γ : List Asn} {p h a m most : Nat} {st : St} {v : Value} {A : Option Addr} {cap : Nat} (hO : Ok w S (LayG p h a m most st v Γ)) (tag : Nat) (ht : tag ≤ 5) {l : List Nat} (hl : ∀ x ∈ l, x < 18446744073709551616)
    (hA : ∀ (i x : Nat), l[i]? = some x → ∃ ad, A = some ad ∧ S ad.block ∧ (ad.add i).block = ad.block ∧ w.cell? (ad.add i) = some (.int .u64 x)) (hlen : l.length ≤ 2) :
    Calls Try.prog 122 #[.pointer (some ⟨p, 0, none⟩), .int .i64 (tag : Int), .slice A l.length cap] w fun e w' =>
      e = .returned (.tuple #[.int .u64 (wordsP most tag l st).1.1, .int .i64 (wordsP most tag l st).1.2]) ∧ To w S w' S (LayG p h a m most (wordsP most tag l st).2 v Γ) := by
  obtain ⟨C, L, V⟩ := st
  have hW := hO.heapAR
  have hC : C.length ≤ 1048576 := Nat.le_trans hW.2.2.2.1 hW.2.2.1
  have hp0 : w.cell? ⟨p, 0, none⟩ = some (.pointer (some ⟨h, 0, none⟩)) := hO.p3.ptCell 0 _ rfl
  have HW := Lib.hid hW; clear hW
  have H := Lib.hid hO; clear hO
  have HA := Lib.hid hA; clear hA
  have HLX := Lib.hid hl; clear hl
  obtain ⟨r, hr⟩ : ∃ r, r = pushAll most l C := ⟨_, rfl⟩
  have hv : wordsP most tag l ⟨C, L, V⟩ = if r.1 = 0 then ((mkc tag C.length, 0), ⟨r.2, L, V⟩) else ((0, r.1), ⟨r.2, L, V⟩) := by rw [hr]; rfl
  have HR := Lib.hid hr; clear hr
  have HV := Lib.hid hv; clear hv
  go_enter Try.func122, Try.ntmps122
  go_wp2_with (go_at_call 31; refine (len_spec HW.out).mono ?_; rintro e w' ⟨rfl, hww⟩; subst w')
  go_loopw [22] (fun i wr => ∃ (j : Nat) (C' : List Nat), i = .int .i64 j ∧ j ≤ l.length ∧ To w S wr S (LayG p h a m most ⟨C', L, V⟩ v Γ) ∧ pushAll most (l.drop j) C' = r) (fun i _ => l.length - (intOf i).toNat)
  case atStart => exact ⟨0, C, rfl, Nat.zero_le _, H.out.to, HR.out.symm⟩
  case round =>
    obtain ⟨j, C', rfl, hj, hT, hq⟩ := hrel
    by_cases hlt : j < l.length
    · have hx : l[j]? = some l[j] := List.getElem?_eq_getElem hlt
      rw [pushAll_drop _ _ _ _ _ hx] at hq
      obtain ⟨ad, rfl, hS, hb, hcell⟩ := HA.out j _ hx
      have hc := hT.cell (a := ad.add j) (by rw [hb]; exact hS) hcell
      have hp0 : wr.cell? ⟨p, 0, none⟩ = some (.pointer (some ⟨h, 0, none⟩)) := hT.ok.p3.ptCell 0 _ rfl
      have hxb : l[j] < 18446744073709551616 := HLX.out _ (List.getElem_mem _)
      clear hx
      generalize l[j] = x at hq hc hxb hcell
      clear hcell
      have hr' := hT.ok.heapAR
      by_cases hf : C'.length < most
      · rw [if_pos hf] at hq
        have HT := Lib.hid hT; clear hT
        have HQ := Lib.hid hq; clear hq hr'
        go_wp2_with (go_at_call 44; refine (push_ok HT.out.ok x rfl hxb hf).mono ?_; rintro e w' ⟨rfl, h2⟩)
        have H2 := Lib.hid (HT.out.trans h2); clear h2
        go_roundw
        case rel => exact ⟨j + 1, _, by go_num, by omega, H2.out, HQ.out⟩
        case measure => simp [intOf]; omega
      · have hm : C'.length = most := by have h9 : C'.length ≤ most := hr'.2.2.2.1; omega
        rw [if_neg hf] at hq
        have HT := Lib.hid hT; clear hT
        have HQ := Lib.hid hq; clear hq
        have HR' := Lib.hid hr'; clear hr'
        have HM := Lib.hid hm; clear hm hf
        go_wp2_with (go_at_call 44; refine (push_full HR'.out x HM.out).mono ?_; rintro e w' ⟨rfl, n, rfl⟩)
        go_ret2
        rw [HV.out, ← HQ.out, if_neg (by simp)]
        exact ⟨rfl, HT.out.drewN _⟩
    · have hje : j = l.length := by omega
      have hq' : r = (0, C') := by rw [← hq, hje]; simp [pushAll]
      have HQ := Lib.hid hq'; clear hq hq'
      have HT := Lib.hid hT; clear hT
      go_wp2_with (go_at_call 118; refine (make_spec tag C.length rfl (by simp) (by omega) (by omega) _).mono ?_; rintro e w' ⟨rfl, rfl⟩)
      go_ret2
      rw [HV.out, HQ.out, if_pos rfl]
      exact ⟨rfl, HT.out⟩

set_option maxRecDepth 100000 in
set_option maxHeartbeats 400000 in
theorem ref_spec {n' : Int} (n : Nat) (en : n' = n) (hn : n ≤ 1048576) (w : World) :
    Calls Try.prog 158 #[.int .i64 n'] w fun e w' => e = .returned (.int .u64 (mkc 0 n : Nat)) ∧ w' = w := by
  subst en
  go_enter Try.func158, Try.ntmps158
  go_wp2_with (go_at_call 118; refine (make_spec 0 n rfl (by simp) (by omega) (by omega) _).mono ?_; rintro e w' ⟨rfl, rfl⟩)
  go_ret
  exact ⟨rfl, rfl⟩

theorem zero34 (w : World) : (zeroValue 34).run Try.prog w = .ok (.int .u64 0) w := by kernel_rfl
set_option maxRecDepth 100000 in
set_option maxHeartbeats 2000000 in
theorem variable_spec {w : World} {S : Blk} {Γ : List Asn} {p h a m most : Nat} {st : St} {v : Value} {t : Tm} {A : Option Addr} {cap : Nat} (hO : Ok w S (LayG p h a m most st v Γ)) (hT : TmC w S [.int .i64 t.k, .string t.s, .int .i64 t.n, .int .u64 t.re, .int .u64 t.im, .slice A t.xs.length cap] t)
    (own : Int) (ho1 : -1 ≤ own) (ho2 : own ≤ 1048576) (ld : Bool) (cc : Int) :
    Calls Try.prog 120 #[.pointer (some ⟨p, 0, none⟩), .agg #[.int .i64 t.k, .string t.s, .int .i64 t.n, .int .u64 t.re, .int .u64 t.im, .slice A t.xs.length cap, .int .i64 own, .bool ld, .int .u64 cc]] w fun e w' =>
      e = .returned (.tuple #[.int .u64 (varP most t.n own st).1.1, .int .i64 (varP most t.n own st).1.2]) ∧ To w S w' S (LayG p h a m most (varP most t.n own st).2 v Γ) := by
  obtain ⟨C, L, V⟩ := st
  obtain ⟨k, s, n, re, im, xs⟩ := t
  simp only [Tm.k, Tm.s, Tm.n, Tm.re, Tm.im, Tm.xs] at *
  clear hT
  have hp0 : w.cell? ⟨p, 0, none⟩ = some (.pointer (some ⟨h, 0, none⟩)) := hO.p3.ptCell 0 _ rfl
  have hp2 : w.cell? ⟨p, 2, none⟩ = some (.map (some m)) := hO.p3.ptCell 2 _ rfl
  have hplt := hO.p3.ptLt
  have hal := hO.to.allocPt #[.int .i64 k, .string s, .int .i64 n, .int .u64 re, .int .u64 im, .slice A xs.length cap, .int .i64 own, .bool ld, .int .u64 cc] 127
  have hlk := fun q => hal.ok.p3.look (P := Try.prog) (key_int .i64) Try.underlying52 Try.underlying2 zero34 n true q
  unfold varP
  cases hq : lk V n with
  | some c =>
    simp only [hq]
    rw [hq] at hlk
    have hlk' : ∀ q, (Instr.lookup 52 (.map (some m)) (.int .i64 n) true).run Try.prog ((w.alloc (.cells #[.int .i64 k, .string s, .int .i64 n, .int .u64 re, .int .u64 im, .slice A xs.length cap, .int .i64 own, .bool ld, .int .u64 cc] 127)).drewN q) = .ok (.tuple #[.int .u64 (c : Nat), .bool true]) ((w.alloc (.cells #[.int .i64 k, .string s, .int .i64 n, .int .u64 re, .int .u64 im, .slice A xs.length cap, .int .i64 own, .bool ld, .int .u64 cc] 127)).drewN q) := hlk
    have H := Lib.hid hal; clear hO hlk hq hal
    go_enter Try.func120, Try.ntmps120
    go_wp2
    go_quiet (fail)
    go_wp2
    go_ret2
    exact ⟨rfl, (H.out.drewN _).drop⟩
  | none =>
    simp only [hq]
    rw [hq] at hlk
    have hlk' : ∀ q, (Instr.lookup 52 (.map (some m)) (.int .i64 n) true).run Try.prog ((w.alloc (.cells #[.int .i64 k, .string s, .int .i64 n, .int .u64 re, .int .u64 im, .slice A xs.length cap, .int .i64 own, .bool ld, .int .u64 cc] 127)).drewN q) = .ok (.tuple #[.int .u64 0, .bool false]) ((w.alloc (.cells #[.int .i64 k, .string s, .int .i64 n, .int .u64 re, .int .u64 im, .slice A xs.length cap, .int .i64 own, .bool ld, .int .u64 cc] 127)).drewN q) := hlk
    have H := Lib.hid hal; clear hO hlk hq hal
    by_cases hown : own < 0
    · by_cases hf : C.length < most
      · rw [if_pos hown, if_pos hf]
        have hm := H.out.ok.p1.heapAR.2.2.1
        have HC : C.length ≤ 1048576 := by omega
        go_enter Try.func120, Try.ntmps120
        go_wp2
        go_quiet (fail)
        go_wp2_with (go_at_call 82; refine (var_ok (H.out.drewN _).ok.p1 hf).mono ?_; rintro e w' ⟨rfl, h2⟩)
        have h3 := ((H.out.drewN nq).p1.trans h2).p3
        obtain ⟨w1, hr, hT⟩ := h3.drew.ok.mapPut (P := Try.prog) (key_int .i64) Try.underlying52 Try.underlying2 n (mkc 0 C.length)
        have hrun : (Instr.mapUpdate 52 (.map (some m)) (.int .i64 n) (.int .u64 ((mkc 0 C.length : Nat) : Int))).run Try.prog w'.drew = .ok () w1 := hr
        have f0 : w'.cell? ⟨p, 2, none⟩ = some (.map (some m)) := h3.ok.p4.ptCell 2 _ rfl
        have f1 : w'.cell? ⟨w.heap.size, 2, none⟩ = some (.int .i64 n) := h3.ok.p2.ptCell 2 _ rfl
        have f2 : w'.cell? ⟨p, 0, none⟩ = some (.pointer (some ⟨h, 0, none⟩)) := h3.ok.p4.ptCell 0 _ rfl
        have hT2 := h3.drew.trans hT
        have k0 : w1.cell? ⟨p, 2, none⟩ = some (.map (some m)) := hT2.ok.p4.ptCell 2 _ rfl
        have k1 : w1.cell? ⟨w.heap.size, 2, none⟩ = some (.int .i64 n) := hT2.ok.p2.ptCell 2 _ rfl
        have HT := Lib.hid hT2; clear h3 hT hT2 hr h2 hlk'
        go_wp2_with fail
        go_region_held3 (fun W => W.cell? ⟨p, 2, none⟩ = some (.map (some m)) ∧ W.cell? ⟨w.heap.size, 2, none⟩ = some (.int .i64 n)) (go_keep) (first | (go_at_call 158; refine (ref_spec C.length rfl HC _).mono ?_; rintro e w' ⟨rfl, rfl⟩))
        go_wp2_with (go_at_call 158; refine (ref_spec C.length rfl HC _).mono ?_; rintro e w' ⟨rfl, rfl⟩)
        go_ret2
        exact ⟨rfl, HT.out.p2.drop.p2.p2⟩
      · rw [if_pos hown, if_neg hf]
        have hr' := H.out.ok.p1.heapAR
        have hm : C.length = most := by have h9 : C.length ≤ most := hr'.2.2.2.1; omega
        have HR' := Lib.hid hr'; clear hr'
        have HM := Lib.hid hm; clear hm hf
        go_enter Try.func120, Try.ntmps120
        go_wp2
        go_quiet (fail)
        go_wp2_with (go_at_call 82; refine (var_full (HR'.out.drewN _) HM.out).mono ?_; rintro e w' ⟨rfl, q2, rfl⟩)
        go_ret2
        exact ⟨rfl, (H.out.drewN _).drop⟩
    · obtain ⟨o, rfl⟩ : ∃ o : Nat, own = o := ⟨own.toNat, by omega⟩
      have ho : o ≤ 1048576 := by omega
      rw [if_neg hown, Int.toNat_natCast]
      clear hown
      go_enter Try.func120, Try.ntmps120
      go_wp2
      go_quiet (fail)
      have h3 := (H.out.drewN nq).p3
      generalize (w.alloc (.cells #[.int .i64 k, .string s, .int .i64 n, .int .u64 re, .int .u64 im, .slice A xs.length cap, .int .i64 (o : Int), .bool ld, .int .u64 cc] 127)).drewN nq = W at h3 ⊢
      have g0 : W.cell? ⟨p, 2, none⟩ = some (.map (some m)) := h3.ok.p4.ptCell 2 _ rfl
      have g1 : W.cell? ⟨w.heap.size, 2, none⟩ = some (.int .i64 n) := h3.ok.p1.ptCell 2 _ rfl
      have g2 : W.cell? ⟨w.heap.size, 6, none⟩ = some (.int .i64 (o : Int)) := h3.ok.p1.ptCell 6 _ rfl
      obtain ⟨w1, hr, hT⟩ := h3.drew.ok.mapPut (P := Try.prog) (key_int .i64) Try.underlying52 Try.underlying2 n (mkc 0 o)
      have hrun : (Instr.mapUpdate 52 (.map (some m)) (.int .i64 n) (.int .u64 ((mkc 0 o : Nat) : Int))).run Try.prog W.drew = .ok () w1 := hr
      have hT2 := h3.drew.trans hT
      have k0 : w1.cell? ⟨p, 2, none⟩ = some (.map (some m)) := hT2.ok.p4.ptCell 2 _ rfl
      have k1 : w1.cell? ⟨w.heap.size, 2, none⟩ = some (.int .i64 n) := hT2.ok.p1.ptCell 2 _ rfl
      have HT := Lib.hid hT2; clear h3 hT hT2 hr hlk'
      go_wp2_with fail
      go_region_held3 (fun W => W.cell? ⟨p, 2, none⟩ = some (.map (some m)) ∧ W.cell? ⟨w.heap.size, 2, none⟩ = some (.int .i64 n)) (go_keep) (first | (go_at_call 158; refine (ref_spec o rfl ho _).mono ?_; rintro e w' ⟨rfl, rfl⟩))
      go_wp2_with (go_at_call 158; refine (ref_spec o rfl ho _).mono ?_; rintro e w' ⟨rfl, rfl⟩)
      go_ret2
      trace_state
      exact ⟨rfl, HT.out.p1.drop.p2.p2⟩
end Go.Proofs.Ytceahdlcbiialaa
