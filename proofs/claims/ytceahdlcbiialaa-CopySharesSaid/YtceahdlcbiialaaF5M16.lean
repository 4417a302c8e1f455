/- How many cells a term takes: the law's own count. A term that May lets by is laid; how many cells it takes. No condition. StoreSmall: the walk. -/
import Derived.Test.YtceahdlcbiialaaF5M15
import Derived.Test.YtceahdlcbiialaaF5M6
set_option linter.unusedVariables false
set_option linter.unusedSimpArgs false
namespace Go.Proofs.Ytceahdlcbiialaa
open Go.RowKit

mutual
def cnt : Tm → Bool → Nat
  | .mk k s n re im xs, top => if k = 3 then (if smallOk n then 0 else 1) else if k = 4 then 2 else if k = 1 then (if top then 1 else 0) else if k = 5 then 1 + xs.length + cntL xs else 0
def cntL : List Tm → Nat
  | [] => 0
  | t :: r => cnt t false + cntL r
end
theorem cntL_drop (l : List Tm) (k : Nat) (t : Tm) (hk : l[k]? = some t) : cntL (l.drop k) = cnt t false + cntL (l.drop (k + 1)) := by
  have hlt := (List.getElem?_eq_some_iff.1 hk).1
  have e : l[k] = t := (List.getElem?_eq_some_iff.1 hk).2
  rw [List.drop_eq_getElem_cons hlt, e, cntL]
def CntS (t : Tm) : Prop := ∀ (w : World) (S : Blk) (Γ : List Asn) (cs : List Value) (bn bw : Nat) (top : Bool) (c : Nat), Ok w S (Pt bn #[.int .i64 (c : Int)] 3 :: Γ) → TmC w S cs t → S bw → w.cell? ⟨bw, 0, none⟩ = some (.func (.func 29) #[] #[.pointer (some ⟨bn, 0, none⟩), .pointer (some ⟨bw, 0, none⟩)]) →
    c + cnt t top ≤ 1000000 → Calls Try.prog 29 #[.agg cs.toArray, .bool top, .pointer (some ⟨bn, 0, none⟩), .pointer (some ⟨bw, 0, none⟩)] w fun e w' => e = .returned (.tuple #[]) ∧ To w S w' S (Pt bn #[.int .i64 ((c + cnt t top : Nat) : Int)] 3 :: Γ)

set_option maxRecDepth 100000 in
set_option maxHeartbeats 4000000 in
theorem cnt_spec (t : Tm) : CntS t := by
  refine Tm.ind (P := CntS) ?_ t
  intro k s n re im xs ih w S Γ cs bn bw top c hO hT hS hf hc
  obtain ⟨A, cap, rfl, hrg, hA⟩ := hT.form
  simp only [Ranged, Tm.k, Tm.s, Tm.n, Tm.re, Tm.im, Tm.xs] at *
  obtain ⟨hk, hsz, hn, hre, him, hxl⟩ := hrg
  have hq0 : w.cell? ⟨bn, 0, none⟩ = some (.int .i64 (c : Int)) := hO.ptCell 0 _ rfl
  have hf0 := hO.ptFree 0
  have hplt := hO.ptLt
  have hwlt := hO.old bw hS
  have IH := Lib.hid ih; clear ih
  have HA := Lib.hid hA; clear hA
  have HO := Lib.hid hO.to
  by_cases k3 : k = 3
  · subst k3
    by_cases hs : smallOk n = true
    · have hv : cnt (.mk 3 s n re im xs) top = 0 := by simp [cnt, hs]
      rw [hv, Nat.add_zero]
      have HS := Lib.hid hs; clear hs hv hc
      go_enter Try.func29, Try.ntmps29
      go_wp2_with (go_at_call 30; refine (rsmall_yes n HS.out _).mono ?_; rintro e w' ⟨rfl, hww⟩; subst w')
      go_end0
      exact ⟨rfl, HO.out.alloc _⟩
    · have hs' : smallOk n = false := by simpa using hs
      have hv : cnt (.mk 3 s n re im xs) top = 1 := by simp [cnt, hs']
      rw [hv] at hc ⊢
      have HS := Lib.hid hs'; clear hs hs' hv
      go_enter Try.func29, Try.ntmps29
      go_wp2_with (go_at_call 30; refine (rsmall_no n HS.out _).mono ?_; rintro e w' ⟨rfl, hww⟩; subst w')
      go_end0
      exact ⟨rfl, (HO.out.ptSet 0 (.int .i64 ((c : Int) + 1))).alloc _⟩
  have b3 : (k == 3) = false := beq_eq_false_iff_ne.2 k3
  by_cases k4 : k = 4
  · subst k4
    have hv : cnt (.mk 4 s n re im xs) top = 2 := by simp [cnt]
    rw [hv] at hc ⊢
    clear hv
    go_enter Try.func29, Try.ntmps29
    go_wp2
    go_end0
    exact ⟨rfl, (HO.out.ptSet 0 (.int .i64 ((c : Int) + 2))).alloc _⟩
  have b4 : (k == 4) = false := beq_eq_false_iff_ne.2 k4
  by_cases k1 : k = 1
  · subst k1
    cases top with
    | true =>
      have hv : cnt (.mk 1 s n re im xs) true = 1 := by simp [cnt]
      rw [hv] at hc ⊢
      clear hv
      go_enter Try.func29, Try.ntmps29
      go_wp2
      go_end0
      exact ⟨rfl, (HO.out.ptSet 0 (.int .i64 ((c : Int) + 1))).alloc _⟩
    | false =>
      have hv : cnt (.mk 1 s n re im xs) false = 0 := by simp [cnt]
      rw [hv] at hc ⊢
      clear hv
      go_enter Try.func29, Try.ntmps29
      go_wp2
      go_end0
      exact ⟨rfl, HO.out.alloc _⟩
  have b1 : (k == 1) = false := beq_eq_false_iff_ne.2 k1
  by_cases k5 : k = 5
  · subst k5
    have hv : cnt (.mk 5 s n re im xs) top = 1 + xs.length + cntL xs := by simp [cnt]
    rw [hv] at hc ⊢
    clear hv b1 b3 b4 k1 k3 k4
    have HO2 := Lib.hid ((HO.out.ptSet 0 (.int .i64 ((c : Int) + (1 + xs.length)))).alloc (.cells #[.int .i64 5, .string s, .int .i64 n, .int .u64 re, .int .u64 im, .slice A xs.length cap] 25))
    go_enter Try.func29, Try.ntmps29
    go_wp2
    clear hq0 hf0
    go_loopw [44] (fun i wr => ∃ (j c' : Nat), i = .int .i64 j ∧ j ≤ xs.length ∧ To w S wr S (Pt bn #[.int .i64 (c' : Int)] 3 :: Γ) ∧ c + (1 + xs.length + cntL xs) = c' + cntL (xs.drop j)) (fun i _ => xs.length - (intOf i).toNat)
    case atStart => exact ⟨0, c + 1 + xs.length, rfl, Nat.zero_le _, by have := HO2.out; simpa [Int.add_assoc] using this, by simp; omega⟩
    case round =>
      obtain ⟨j, c', rfl, hj, hTo, hq⟩ := hrel
      by_cases hlt : j < xs.length
      · have hx : xs[j]? = some xs[j] := List.getElem?_eq_getElem hlt
        rw [cntL_drop _ _ _ hx] at hq
        have IX : CntS xs[j] := IH.out _ (List.getElem_mem _)
        obtain ⟨gb, go, A', cap', rfl, hS', g0, g1, g2, g3, g4, g5, hxT⟩ := HA.out j _ hx
        have f0 := hTo.cell (a := ⟨gb, _, none⟩) hS' g0
        have f1 := hTo.cell (a := ⟨gb, _, none⟩) hS' g1
        have f2 := hTo.cell (a := ⟨gb, _, none⟩) hS' g2
        have f3 := hTo.cell (a := ⟨gb, _, none⟩) hS' g3
        have f4 := hTo.cell (a := ⟨gb, _, none⟩) hS' g4
        have f5 := hTo.cell (a := ⟨gb, _, none⟩) hS' g5
        have f6 := hTo.cell (a := ⟨bw, 0, none⟩) hS hf
        have f7 : bw < wr.heap.size := hTo.ok.old bw hS
        clear g0 g1 g2 g3 g4 g5 hx
        have HX := Lib.hid hxT; clear hxT
        have HTo := Lib.hid hTo; clear hTo
        have HQ := Lib.hid hq; clear hq
        have hal := HTo.out.alloc (.cells #[.int .i64 xs[j].k, .string xs[j].s, .int .i64 xs[j].n, .int .u64 xs[j].re, .int .u64 xs[j].im, .slice A' xs[j].xs.length cap'] 25)
        have hcall := IX _ S Γ _ bn bw false c' hal.ok (HX.out.to hal) hS (hal.cell (a := ⟨bw, 0, none⟩) hS hf) (by have := HQ.out; omega)
        have HCALL := Lib.hid hcall; clear hcall
        have HAL := Lib.hid hal; clear hal
        go_wp2_with (go_at_call 29; refine HCALL.out.mono ?_; rintro e w3 ⟨rfl, h3⟩)
        have H3 := Lib.hid (HAL.out.trans h3); clear h3 f0 f1 f2 f3 f4 f5 f6
        go_roundw
        case rel => exact ⟨j + 1, _, by go_num, by omega, H3.out, by rw [HQ.out]; omega⟩
        case measure => simp [intOf]; omega
      · have hje : j = xs.length := by omega
        have hq' : c + (1 + xs.length + cntL xs) = c' := by rw [hq, hje]; simp [cntL]
        have HQ := Lib.hid hq'; clear hq hq'
        have HTo := Lib.hid hTo; clear hTo
        go_wp2
        go_end0
        exact ⟨rfl, by rw [HQ.out]; exact HTo.out⟩
  · have hv : cnt (.mk k s n re im xs) top = 0 := by simp [cnt, k1, k3, k4, k5]
    have b5 : (k == 5) = false := beq_eq_false_iff_ne.2 k5
    rw [hv, Nat.add_zero]
    clear hv hc
    go_enter Try.func29, Try.ntmps29
    go_wp2
    go_end0
    exact ⟨rfl, HO.out.alloc _⟩
#print axioms cnt_spec
end Go.Proofs.Ytceahdlcbiialaa
set_option linter.unusedVariables false
set_option linter.unusedSimpArgs false
namespace Go.Proofs.Ytceahdlcbiialaa

theorem pushAll_fits (most : Nat) : ∀ (l C : List Nat), C.length + l.length ≤ most → pushAll most l C = (0, C ++ l)
  | [], C, _ => by simp [pushAll]
  | x :: l, C, h => by
    simp only [List.length_cons] at h
    rw [pushAll, if_pos (by omega), pushAll_fits most l _ (by simp; omega)]
    simp
theorem varAll_fits (most : Nat) : ∀ (n : Nat) (C : List Nat), C.length + n ≤ most → (varAll most n C).1 = 0 ∧ (varAll most n C).2.length = C.length + n
  | 0, C, _ => by simp [varAll]
  | n + 1, C, h => by
    rw [varAll, if_pos (by omega)]
    have := varAll_fits most n (C ++ [mkc 0 C.length]) (by simp; omega)
    simp at this ⊢
    omega
theorem number_fits (l : List ByteArray) (s : ByteArray) (hs : s.size ≤ 200) (hl : l.length < 4096) : (number l s).1.2 = 0 ∧ (number l s).2.length ≤ l.length + 1 := by
  unfold number
  rw [if_neg (by omega)]
  split
  · simp
  · rw [if_neg (by omega)]; simp
theorem one_name {t : Tm} (h : one t = 0) (hk : t.k = 2 ∨ t.k = 5) : t.s.size ≤ 200 := by
  unfold one at h
  split at h
  · cases h
  · split at h
    · cases h
    · omega
/-- What a term is counted: an argument; at the top where its variable has not been met. -/
def takes (t : Tm) (own : Int) (V : List (Int × Nat)) : Nat := if t.k = 1 then (if own < 0 then (match lk V t.n with | none => 1 | some _ => 0) else 0) else cnt t false
theorem leaf_1 (most : Nat) (s : ByteArray) (n re im : Int) (own : Int) (st : St) : leaf most (.mk 1 s n re im []) own st = varP most n own st := rfl
theorem leaf_2 (most : Nat) (s : ByteArray) (n re im : Int) (own : Int) (st : St) : leaf most (.mk 2 s n re im []) own st = ((mkc 2 (number st.L s).1.1, (number st.L s).1.2), { st with L := (number st.L s).2 }) := rfl
theorem leaf_3 (most : Nat) (s : ByteArray) (n re im : Int) (own : Int) (st : St) : leaf most (.mk 3 s n re im []) own st = (if smallOk n then ((small n, 0), st) else wordsP most 4 [u64 n] st) := rfl
theorem leaf_4 (most : Nat) (s : ByteArray) (n re im : Int) (own : Int) (st : St) : leaf most (.mk 4 s n re im []) own st = wordsP most 5 [re.toNat, im.toNat] st := rfl
theorem leaf_small {most : Nat} {k : Int} {s : ByteArray} {n re im : Int} {ys : List Tm} {own : Int} {st : St} (h1 : one (.mk k s n re im ys) = 0) (h5 : k ≠ 5) (hL : st.L.length + 1 ≤ 4096) (hC : st.C.length + takes (.mk k s n re im ys) own st.V ≤ most) :
    (leaf most (.mk k s n re im []) own st).1.2 = 0 ∧ (leaf most (.mk k s n re im []) own st).2.C.length = st.C.length + takes (.mk k s n re im ys) own st.V ∧ (leaf most (.mk k s n re im []) own st).2.L.length ≤ st.L.length + 1 := by
  have hk := one_k h1
  simp only [Tm.k] at hk
  by_cases k1 : k = 1
  · subst k1
    rw [leaf_1]
    simp only [takes, Tm.k, Tm.n, if_true] at hC ⊢
    obtain ⟨o, hl⟩ : ∃ o, lk st.V n = o := ⟨_, rfl⟩
    simp only [hl] at hC ⊢
    unfold varP
    simp only [hl]
    cases o with
    | none =>
      by_cases ho : own < 0
      · simp only [ho, if_true] at hC ⊢
        rw [if_pos (by omega)]
        simp
      · simp [ho]
    | some c => simp
  · have ht : takes (.mk k s n re im ys) own st.V = cnt (.mk k s n re im ys) false := by simp [takes, Tm.k, k1]
    rw [ht] at hC ⊢
    by_cases k2 : k = 2
    · subst k2
      rw [leaf_2]
      obtain ⟨a, b⟩ := number_fits st.L s (one_name (t := .mk 2 s n re im ys) h1 (.inl rfl)) (by omega)
      exact ⟨a, by simp [cnt], b⟩
    · by_cases k3 : k = 3
      · subst k3
        rw [leaf_3]
        by_cases hs : smallOk n = true
        · simp [hs, cnt]
        · simp only [cnt, hs, if_true] at hC ⊢
          have hp := pushAll_fits most [u64 n] st.C (by simpa using hC)
          simp [wordsP, hp, hs]
      · have k4 : k = 4 := by omega
        subst k4
        rw [leaf_4]
        simp only [cnt] at hC ⊢
        have hp := pushAll_fits most [re.toNat, im.toNat] st.C (by simpa using hC)
        simp [wordsP, hp]
mutual
theorem lay_small (most : Nat) : ∀ (t : Tm) (own : Int) (st : St), good t → st.L.length + nodes t ≤ 4096 → st.C.length + takes t own st.V ≤ most →
    (lay most t own st).1.2 = 0 ∧ (lay most t own st).2.C.length = st.C.length + takes t own st.V ∧ (lay most t own st).2.L.length ≤ st.L.length + nodes t
  | .mk k s n re im xs, own, st, hg, hL, hC => by
    obtain ⟨h1, hgk⟩ := hg
    unfold lay
    by_cases k5 : k = 5
    · subst k5
      simp only [if_true]
      have ht : takes (.mk 5 s n re im xs) own st.V = 1 + xs.length + cntL xs := by simp [takes, Tm.k, cnt]
      rw [ht] at hC ⊢
      simp only [nodes, if_true] at hL ⊢
      obtain ⟨a, b⟩ := number_fits st.L s (one_name (t := .mk 5 s n re im xs) h1 (.inr rfl)) (by omega)
      obtain ⟨c, d⟩ := varAll_fits most xs.length (st.C ++ [fun6 (number st.L s).1.1 xs.length]) (by simp; omega)
      have ho : opn most s xs.length st = ((st.C.length, 0), { st with C := (varAll most xs.length (st.C ++ [fun6 (number st.L s).1.1 xs.length])).2, L := (number st.L s).2 }) := by
        unfold opn
        rw [if_neg (by simp [a]), if_pos (by omega), if_pos c]
      rw [ho]
      simp only [ne_eq, not_true_eq_false, if_false]
      simp at d
      obtain ⟨e, f, g⟩ := layL_small most xs (st.C.length + 1) { st with C := (varAll most xs.length (st.C ++ [fun6 (number st.L s).1.1 xs.length])).2, L := (number st.L s).2 } (hgk rfl) (by simp only; omega) (by simp only; omega)
      rw [if_neg (by simp [e])]
      simp only at f g ⊢
      exact ⟨trivial, by omega, by omega⟩
    · rw [if_neg k5]
      have hn := nodes_pos (.mk k s n re im xs)
      obtain ⟨a, b, c⟩ := leaf_small (most := most) (own := own) (st := st) h1 k5 (by omega) hC
      exact ⟨a, b, by omega⟩
theorem layL_small (most : Nat) : ∀ (l : List Tm) (i : Nat) (st : St), goodL l → st.L.length + nodesL l ≤ 4096 → st.C.length + cntL l ≤ most →
    (layL most l i st).1 = 0 ∧ (layL most l i st).2.C.length = st.C.length + cntL l ∧ (layL most l i st).2.L.length ≤ st.L.length + nodesL l
  | [], i, st, _, _, _ => by simp [layL, cntL, nodesL]
  | t :: r, i, st, ⟨hg, hgr⟩, hL, hC => by
    simp only [nodesL, cntL] at hL hC ⊢
    have ht : takes t (i : Int) st.V = cnt t false := by
      obtain ⟨k, s, n, re, im, xs⟩ := t
      unfold takes
      split
      · rename_i h
        simp only [Tm.k] at h
        subst h
        have : ¬ ((i : Int) < 0) := by omega
        simp [this, cnt]
      · rfl
    obtain ⟨a, b, c⟩ := lay_small most t i st hg (by omega) (by rw [ht]; omega)
    rw [ht] at b
    rw [layL]
    rw [if_neg (by simp [a])]
    obtain ⟨e, f, g⟩ := layL_small most r (i + 1) ((lay most t i st).2.at i (lay most t i st).1.1) hgr (by simp only [St.at]; omega) (by simp only [St.at, List.length_set]; omega)
    simp only [St.at, List.length_set] at f g
    exact ⟨e, by simp only [St.at]; omega, by simp only [St.at]; omega⟩
end
mutual
theorem cnt_le : ∀ (t : Tm) (b : Bool), cnt t b + 1 ≤ 3 * nodes t
  | .mk k s n re im xs, b => by
    have hx := cntL_le xs
    by_cases k5 : k = 5
    · subst k5
      simp [cnt, nodes]
      omega
    · have hn : nodes (.mk k s n re im xs) = 1 := by simp [nodes, k5]
      rw [hn]
      unfold cnt
      simp only [if_neg k5]
      repeat' split
      all_goals omega
theorem cntL_le : ∀ l : List Tm, cntL l + l.length ≤ 3 * nodesL l
  | [] => by simp [cntL, nodesL]
  | t :: r => by
    have h1 := cnt_le t false
    have h2 := cntL_le r
    simp only [cntL, nodesL, List.length_cons]
    omega
end
/-- What Put leaves of a term that May lets by, on an empty heap. -/
theorem put_small {t : Tm} (h : May t = 0) : (putP 1048576 t ⟨[], names0, []⟩).1.2 = 0 ∧ (putP 1048576 t ⟨[], names0, []⟩).2.C.length = cnt t true ∧ cnt t true ≤ 6000 := by
  obtain ⟨hn, hg⟩ := May_zero h
  have hc := cnt_le t true
  have htk : takes t (-1) [] = cnt t true := by
    obtain ⟨k, s, n, re, im, xs⟩ := t
    unfold takes
    by_cases k1 : k = 1
    · subst k1
      simp [Tm.k, lk, cnt]
    · simp [Tm.k, k1, cnt]
  have hnl : names0.length = 2 := rfl
  obtain ⟨a, b, c⟩ := lay_small 1048576 t (-1) ⟨[], names0, []⟩ hg (by simp only; omega) (by simp only [List.length_nil]; rw [htk]; omega)
  rcases hl : lay 1048576 t (-1) ⟨[], names0, []⟩ with ⟨⟨x, e⟩, s1⟩
  rw [hl] at a b
  simp only at a b
  subst a
  have hp : putP 1048576 t ⟨[], names0, []⟩ = ((x, 0), s1) := by
    unfold putP
    rw [if_neg (by simp [h]), fin_tm _ _ _ _ _ _ hl]
    simp [fin, St.atI]
  rw [hp]
  exact ⟨rfl, by simp only; rw [b, htk]; simp, by omega⟩
end Go.Proofs.Ytceahdlcbiialaa
set_option linter.unusedVariables false
set_option linter.unusedSimpArgs false
namespace Go.Proofs.Ytceahdlcbiialaa
open Go.RowKit

@[local go_sem] theorem run_store_fn {P : Program} {w : World} {a : Addr} {m : Mode} (fn : Fn) (first captured : Array Value) : (store a (.func fn first captured) m).run P w = stored P w a (.func fn first captured) m := run_store P w a _ m rfl
/-- One term in a block of its own. -/
theorem kids_one {w : World} {S : Blk} {g : Nat} {t : Tm} {A : Option Addr} {cap : Nat} (hS : S g) (hg : w.heap[g]? = some (.cells #[.int .i64 t.k, .string t.s, .int .i64 t.n, .int .u64 t.re, .int .u64 t.im, .slice A t.xs.length cap] 25 (0, 0)))
    (hT : TmC w S [.int .i64 t.k, .string t.s, .int .i64 t.n, .int .u64 t.re, .int .u64 t.im, .slice A t.xs.length cap] t) : Kids w S (some ⟨g, 0, none⟩) [t] := by
  intro i x hx
  have hlt := (List.getElem?_eq_some_iff.1 hx).1
  simp at hlt
  subst hlt
  simp at hx
  subst hx
  refine ⟨g, 0, A, cap, rfl, hS, ?_, ?_, ?_, ?_, ?_, ?_, hT⟩ <;> simp [World.cell?, hg]

theorem Ok.six {w : World} {S : Blk} {Γ : List Asn} {b : Nat} {t : Tm} {A : Option Addr} {cap : Nat} (h : Ok w S (Pt b #[.int .i64 t.k, .string t.s, .int .i64 t.n, .int .u64 t.re, .int .u64 t.im, .slice A t.xs.length cap] 25 :: Γ)) : w.cell? ⟨b, 0, none⟩ = some (.int .i64 t.k) ∧ w.cell? ⟨b, 1, none⟩ = some (.string t.s) ∧ w.cell? ⟨b, 2, none⟩ = some (.int .i64 t.n) ∧
    w.cell? ⟨b, 3, none⟩ = some (.int .u64 t.re) ∧ w.cell? ⟨b, 4, none⟩ = some (.int .u64 t.im) ∧ w.cell? ⟨b, 5, none⟩ = some (.slice A t.xs.length cap) ∧ b < w.heap.size :=
  ⟨h.ptCell 0 _ rfl, h.ptCell 1 _ rfl, h.ptCell 2 _ rfl, h.ptCell 3 _ rfl, h.ptCell 4 _ rfl, h.ptCell 5 _ rfl, h.ptLt⟩

set_option maxRecDepth 100000 in
set_option maxHeartbeats 4000000 in
theorem small_spec {w : World} {S : Blk} {Γ : List Asn} {cs : List Value} {t : Tm} (hO : Ok w S Γ) (hT : TmC w S cs t) : Calls Try.prog 3 #[.agg cs.toArray] w fun e w' => e = .returned (.bool true) ∧ To w S w' S Γ := by
  obtain ⟨A, cap, rfl⟩ := hT.form0
  have h1 := hO.to.allocPt #[.int .i64 t.k, .string t.s, .int .i64 t.n, .int .u64 t.re, .int .u64 t.im, .slice A t.xs.length cap] 25
  have h2 := h1.allocPt #[.int .i64 t.k, .string t.s, .int .i64 t.n, .int .u64 t.re, .int .u64 t.im, .slice A t.xs.length cap] 25
  have hg := h2.ok.ptHeap
  have h3 := h2.trans h2.ok.seal1
  simp only [World.size_alloc] at h3 hg
  obtain ⟨S1, hS1⟩ : ∃ S1 : Blk, S1 = fun x => S x ∨ x = w.heap.size + 1 := ⟨_, rfl⟩
  rw [← hS1] at h3
  have hsb : S1 (w.heap.size + 1) := by rw [hS1]; exact .inr rfl
  clear hS1 h1 h2
  have hT3 := hT.to h3
  have hL := Light_spec (cap := 1) (kids_one hsb hg hT3) (by simp)
  have HL := Lib.hid hL; clear hL hg
  have H3 := Lib.hid h3; clear h3
  have HT3 := Lib.hid hT3; clear hT3 hT hO
  generalize hlv : Light [t] 0 4000 = lv at HL
  clear hlv
  cases lv with
  | false =>
    go_enter Try.func3, Try.ntmps3
    go_wp2_with (first | (go_at_call 23; refine HL.out.mono ?_; rintro e w1 ⟨rfl, hB⟩; have H4 := Lib.hid (H3.out.below hB); clear hB) | (go_at_call 25; refine (awake7_spec H4.out.ok).mono ?_; rintro e w2 ⟨rfl, h5⟩))
    go_ret
    exact ⟨rfl, (H4.out.trans h5).plain.drop⟩
  | true =>
    by_cases hm : May t = 0
    case neg =>
      have hmb : ((May t : Int) != 0) = true := by simp [bne]; omega
      clear hm
      go_enter Try.func3, Try.ntmps3
      go_wp2_with (first | (go_at_call 23; refine HL.out.mono ?_; rintro e w1 ⟨rfl, hB⟩; have h4 := H3.out.below hB; obtain ⟨m0, m1, m2, m3, m4, m5, m6⟩ := h4.ok.six; have HT4 := Lib.hid (HT3.out.to (H3.out.ok.below hB)); have H4 := Lib.hid h4; clear h4 hB) | (go_at_call 24; refine (May_spec H4.out.ok HT4.out).mono ?_; rintro e w2 ⟨rfl, h5⟩; have H5 := Lib.hid (H4.out.trans h5); clear h5) | (go_at_call 25; refine (awake7_spec H5.out.ok).mono ?_; rintro e w3 ⟨rfl, h6⟩))
      go_ret
      exact ⟨rfl, (H5.out.trans h6).plain.drop⟩
    case pos =>
      obtain ⟨p1, p2, p3⟩ := put_small hm
      generalize hr : putP 1048576 t ⟨[], names0, []⟩ = r at p1 p2
      obtain ⟨⟨rc, re⟩, rs⟩ := r
      simp only at p1 p2
      subst p1
      have HRR := Lib.hid hr; clear hr
      have HM := Lib.hid hm; clear hm
      go_enter Try.func3, Try.ntmps3
      go_wp2_with (first | (go_at_call 23; refine HL.out.mono ?_; rintro e w1 ⟨rfl, hB⟩; have h4 := H3.out.below hB; obtain ⟨m0, m1, m2, m3, m4, m5, m6⟩ := h4.ok.six; have HT4 := Lib.hid (HT3.out.to (H3.out.ok.below hB)); have H4 := Lib.hid h4; clear h4 hB) | (go_at_call 24; refine (May_spec H4.out.ok HT4.out).mono ?_; rw [HM.out]; rintro e w2 ⟨rfl, h5⟩; have HT5 := Lib.hid (HT4.out.to h5); have H5 := Lib.hid (H4.out.trans h5); clear h5) | (go_at_call 26; refine (new_spec H5.out.ok 1048576 1048576 rfl (Nat.le_refl _)).mono ?_; rintro e w3 ⟨hp, rfl, h6⟩; have HT6 := Lib.hid (HT5.out.to h6); have H6 := Lib.hid (H5.out.trans h6); clear h6) | (go_at_call 27; refine (anew_spec H6.out.ok).mono ?_; rintro e w4 ⟨ap, rfl, h7⟩; have h7' := H6.out.trans h7; obtain ⟨u0, u1, u2, u3, u4, u5, u6⟩ := h7'.ok.p2.six; have HT7 := Lib.hid (HT6.out.to h7); have H7 := Lib.hid h7'; clear h7 h7'))
      have hput := put_nil H7.out.ok.p1 HT7.out
      rw [HRR.out] at hput
      have HP := Lib.hid hput; clear hput
      refine HP.out.mono ?_
      rintro e w5 ⟨rfl, h8⟩
      have h8' := H7.out.trans h8
      obtain ⟨v0, v1, v2, v3, v4, v5, v6⟩ := h8'.ok.p2.six
      have HT8 := Lib.hid (HT7.out.to h8)
      have H8 := Lib.hid h8'; clear h8 h8'
      clear m0 m1 m2 m3 m4 m5 u0 u1 u2 u3 u4 u5
      have h9 := (H8.out.ok.to.allocPt #[.int .i64 ((0 : Nat) : Int)] 3).allocPt #[.func (.func 29) #[] #[.pointer (some ⟨w5.heap.size, 0, none⟩), .pointer (some ⟨w5.heap.size + 1, 0, none⟩)]] 37
      have hfc := h9.ok.ptCell 0 _ rfl
      have ha := h9.trans h9.ok.seal1
      simp only [World.size_alloc] at ha hfc
      clear h9
      have hcn := cnt_spec t _ _ _ _ w5.heap.size (w5.heap.size + 1) true 0 ha.ok (HT8.out.to ha) (.inr rfl) hfc (by omega)
      have HCN := Lib.hid hcn; clear hcn hfc
      have H10 := Lib.hid (H8.out.trans ha); clear ha
      go_wp2_with fail
      refine HCN.out.mono ?_
      rintro e w6 ⟨rfl, h11⟩
      have hd := H10.out.trans h11 |>.drew
      clear h11
      have hnc : w6.drew.cell? ⟨w5.heap.size, 0, none⟩ = some (.int .i64 (rs.C.length : Int)) := by
        have := hd.ok.ptCell 0 _ rfl
        rw [this, p2, Nat.zero_add]
        rfl
      have hlen := len_spec hd.ok.p1.heapAR
      have haw := (awake7_spec hd.ok).mono (R' := fun e w' => e = .returned (.bool true) ∧ Hid (To w S w' S Γ) ∧ w'.cell? ⟨w5.heap.size, 0, none⟩ = some (.int .i64 (rs.C.length : Int)))
        (fun e w' ⟨k1, k2⟩ => ⟨k1, Lib.hid ((hd.trans k2).plain.drop.drop.drop.drop), by
          have := k2.ok.ptCell 0 _ rfl
          rw [this, p2, Nat.zero_add]
          rfl⟩)
      have HLEN := Lib.hid hlen; clear hlen
      have HAW := Lib.hid haw; clear haw hd
      clear v0 v1 v2 v3 v4 v5 p2
      go_wp2_with fail
      go_region_held3 (fun X => X.cell? ⟨w5.heap.size, 0, none⟩ = some (.int .i64 (rs.C.length : Int))) (go_keep) (first | (go_at_call 31; refine HLEN.out.mono ?_; rintro e w7 ⟨rfl, hww⟩; subst w7) | (go_at_call 25; refine HAW.out.mono ?_; rintro e w8 ⟨rfl, HF, hcell⟩))
      go_wp2
      go_ret
      exact ⟨rfl, HF.out⟩
#print axioms small_spec
end Go.Proofs.Ytceahdlcbiialaa
