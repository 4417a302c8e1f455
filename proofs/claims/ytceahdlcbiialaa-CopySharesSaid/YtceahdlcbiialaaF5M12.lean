/- The functions of the layer: compounds. -/
import Derived.Test.YtceahdlcbiialaaF5M5
import Derived.Test.YtceahdlcbiialaaF5M11
set_option linter.unusedVariables false
set_option linter.unusedSimpArgs false
namespace Go.Proofs.Ytceahdlcbiialaa
open Go.RowKit
attribute [local go_sem] Oper.semAt_some

/-- What is to be laid, in memory. -/
inductive Ti where
  | tm (t : Tm) (A : Option Addr) (cap : Nat) (i : Int)
  | cl (c : Nat) (i : Int)
def Ti.v : Ti → List Value
  | .tm t A cap i => [.int .i64 t.k, .string t.s, .int .i64 t.n, .int .u64 t.re, .int .u64 t.im, .slice A t.xs.length cap, .int .i64 i, .bool false, .int .u64 0]
  | .cl c i => [.int .i64 0, .string ⟨#[]⟩, .int .i64 0, .int .u64 0, .int .u64 0, .slice none 0 0, .int .i64 i, .bool true, .int .u64 (c : Int)]
def Ti.td : Ti → Td
  | .tm t _ _ i => .tm t i
  | .cl c i => .cl c i
def Ti.ok (w : World) (S : Blk) : Ti → Prop
  | .tm t A cap i => TmC w S [.int .i64 t.k, .string t.s, .int .i64 t.n, .int .u64 t.re, .int .u64 t.im, .slice A t.xs.length cap] t ∧ -1 ≤ i ∧ i ≤ 1048576
  | .cl c i => c < 18446744073709551616 ∧ -1 ≤ i ∧ i ≤ 1048576
def tiV : List Ti → List Value
  | [] => []
  | i :: l => tiV l ++ i.v
theorem tiV_length : ∀ l : List Ti, (tiV l).length = l.length * 9
  | [] => rfl
  | i :: l => by
    have : i.v.length = 9 := by cases i <;> rfl
    simp [tiV, tiV_length l, this]; omega
theorem info127 : (Try.prog.info? 127).map (fun i => (i.zero, i.size, i.bytes)) = some (some (.agg #[.int .i64 0, .string ⟨#[]⟩, .int .i64 0, .int .u64 0, .int .u64 0, .slice none 0 0, .int .i64 0, .bool false, .int .u64 0]), 9, 96) := by kernel_rfl

theorem varAll_le (most : Nat) : ∀ (n : Nat) (C : List Nat), C.length ≤ (varAll most n C).2.length
  | 0, C => by simp [varAll]
  | n + 1, C => by
    unfold varAll
    split
    · have := varAll_le most n (C ++ [mkc 0 C.length])
      simp at this; omega
    · simp

theorem number_lt {l : List ByteArray} (h : Names l) (s : ByteArray) {n e : Nat} {l' : List ByteArray} (hn : number l s = ((n, e), l')) : n < 4096 := by
  unfold number at hn
  split at hn
  · cases hn; omega
  · cases hp : place l s 0 with
    | some i =>
      rw [hp] at hn
      simp only [Prod.mk.injEq] at hn
      have := (place_lt s l 0 i hp).2
      have := h.1
      omega
    | none =>
      rw [hp] at hn
      simp only at hn
      have := h.1
      split at hn
      · cases hn; omega
      · rename_i h4
        simp only [Prod.mk.injEq] at hn
        omega

/-- The stack with k of the arguments on it. -/
def CompI (w : World) (S : Blk) (p h a m : Nat) (xs : List Tm) (at1 : Nat) (stk : List Ti) (k : Nat) : Asn :=
  Ex fun l : List Ti => Ex fun v : Value => Two (Fact (l.map Ti.td = (tds xs at1).drop (xs.length - k) ∧ ∀ i ∈ l, i.ok w S)) (Two (Pt p #[.pointer (some ⟨h, 0, none⟩), .pointer (some ⟨a, 0, none⟩), .map (some m), v] 130) (Row v 127 9 (l ++ stk).length (tiV (l ++ stk))))
theorem Ok.compI {w0 w : World} {S0 S : Blk} {p h a m at1 k : Nat} {xs : List Tm} {stk : List Ti} {Γ : List Asn} : Ok w S (CompI w0 S0 p h a m xs at1 stk k :: Γ) ↔ ∃ (l : List Ti) (v : Value), (l.map Ti.td = (tds xs at1).drop (xs.length - k) ∧ ∀ i ∈ l, i.ok w0 S0) ∧
    Ok w S (Pt p #[.pointer (some ⟨h, 0, none⟩), .pointer (some ⟨a, 0, none⟩), .map (some m), v] 130 :: Row v 127 9 (l ++ stk).length (tiV (l ++ stk)) :: Γ) := by
  unfold CompI
  rw [Ok.ex]
  refine exists_congr fun l => ?_
  rw [Ok.ex]
  refine exists_congr fun v => ?_
  rw [Ok.two, Ok.fact, Ok.two]
theorem tds_length (xs : List Tm) (i : Nat) : (tds xs i).length = xs.length := by simp [tds]
theorem tds_get (xs : List Tm) (i j : Nat) (x : Tm) (h : xs[j]? = some x) : (tds xs i)[j]? = some (.tm x ((i + j : Nat) : Int)) := by
  simp [tds, List.getElem?_zipIdx, h]

/-- What compound leaves: oo: what 'opn' answers. -/
def CompQ (w : World) (S : Blk) (Γ : List Asn) (p h a m most : Nat) (xs : List Tm) (own : Int) (stk : List Ti) (oo : (Nat × Nat) × St) (e : Ending) (w' : World) : Prop :=
  ∃ (v' : Value) (l : List Ti) (c : Nat), e = .returned (.tuple #[.int .u64 (c : Int), .int .i64 oo.1.2]) ∧
    (oo.1.2 = 0 → c = mkc 1 oo.1.1 ∧ l.map Ti.td = tds xs (oo.1.1 + 1) ++ .cl (mkc 1 oo.1.1) own :: stk.map Ti.td) ∧ (∀ i ∈ l, i ∈ stk ∨ i.ok w S) ∧
    To w S w' S (LayG p h a m most oo.2 v' (Row v' 127 9 l.length (tiV l) :: Γ))

theorem varAll_len (most : Nat) : ∀ (n : Nat) (C C' : List Nat), varAll most n C = (0, C') → C'.length = C.length + n
  | 0, C, C', h => by simp only [varAll, Prod.mk.injEq, true_and] at h; rw [h]; rfl
  | n + 1, C, C', h => by
    unfold varAll at h
    split at h
    · have := varAll_len most n _ _ h
      simp at this
      omega
    · cases h

set_option maxRecDepth 100000 in
set_option maxHeartbeats 8000000 in
theorem compound_spec {w : World} {S : Blk} {Γ : List Asn} {p h a m most : Nat} {st : St} {v : Value} {s : ByteArray} {n re im : Int} {xs : List Tm} {A : Option Addr} {cap : Nat} {stk : List Ti}
    (hO : Ok w S (LayG p h a m most st v (Row v 127 9 stk.length (tiV stk) :: Γ))) (hT : TmC w S [.int .i64 5, .string s, .int .i64 n, .int .u64 re, .int .u64 im, .slice A xs.length cap] (.mk 5 s n re im xs))
    (own : Int) (ho1 : -1 ≤ own) (ho2 : own ≤ 1048576) (hx1 : 1 ≤ xs.length) (hx2 : xs.length ≤ 20) (hstk : stk.length ≤ 100000) :
    Calls Try.prog 123 #[.pointer (some ⟨p, 0, none⟩), .agg #[.int .i64 5, .string s, .int .i64 n, .int .u64 re, .int .u64 im, .slice A xs.length cap, .int .i64 own, .bool false, .int .u64 0]] w (CompQ w S Γ p h a m most xs own stk (opn most s xs.length st)) := by
  obtain ⟨C, L, V⟩ := st
  obtain ⟨_, _, e0, hrg, hA⟩ := hT.form
  simp only [Tm.k, Tm.s, Tm.n, Tm.re, Tm.im, Tm.xs, List.cons.injEq, Value.slice.injEq, and_true, true_and] at e0
  obtain ⟨rfl, rfl⟩ := e0
  clear hT
  simp only [Ranged, Tm.k, Tm.s, Tm.n, Tm.re, Tm.im, Tm.xs] at *
  obtain ⟨hk, hsz, hn, hre, him, hxl⟩ := hrg
  have hnam := (hO.p1.atomsAR).2
  rcases hnm : number L s with ⟨⟨nb, ne⟩, L2⟩
  have hnb := number_lt hnam s hnm
  have HNM := Lib.hid hnm
  generalize hoo : opn most s xs.length ⟨C, L, V⟩ = oo
  have HOO := Lib.hid hoo; clear hoo hnam
  refine callsIn_wide.1 (callsIn_of_wp_marks (n := 5) Try.func123 rfl trivial (wpIn_wide.2 ?_) rfl)
  simp only [Try.ntmps123, List.size_toArray, List.length_cons, List.length_nil, Nat.reduceAdd, Nat.reduceSub, Array.replicate_succ, Array.replicate_zero, List.push_toArray, List.append_toArray, List.nil_append, List.cons_append]
  have H := Lib.hid hO
  have HA := Lib.hid hA; clear hA
  go_wp2_with fail
  have hplt := hO.p3.ptLt
  have n1 : ¬ p = w.heap.size := by omega
  have n2 : ¬ p = w.heap.size + 1 := by omega
  have n3 : ¬ p = w.heap.size + 1 + 1 := by omega
  clear hplt
  have hse := hO.belowSeal (w' := (((w.alloc (.cells #[.pointer (some ⟨p, 0, none⟩)] 125)).alloc (.cells #[.int .i64 5, .string s, .int .i64 n, .int .u64 re, .int .u64 im, .slice A xs.length cap, .int .i64 own, .bool false, .int .u64 0] 127)).alloc (.cells #[.int .i64 5, .string s, .int .i64 n, .int .u64 re, .int .u64 im, .slice A xs.length cap] 25))) ((((Below.refl _ _).alloc (Nat.le_refl _) _).alloc (by simp) _).alloc (by simp; omega) _)
  clear hO
  obtain ⟨S1, hS1⟩ : ∃ S1, S1 = keepNew S w.heap.size (w.heap.size + 1 + 1 + 1) := ⟨_, rfl⟩
  simp only [World.size_alloc] at hse
  rw [← hS1] at hse
  have b0 : (((w.alloc (.cells #[.pointer (some ⟨p, 0, none⟩)] 125)).alloc (.cells #[.int .i64 5, .string s, .int .i64 n, .int .u64 re, .int .u64 im, .slice A xs.length cap, .int .i64 own, .bool false, .int .u64 0] 127)).alloc (.cells #[.int .i64 5, .string s, .int .i64 n, .int .u64 re, .int .u64 im, .slice A xs.length cap] 25)).cell? ⟨w.heap.size, 0, none⟩ = some (.pointer (some ⟨p, 0, none⟩)) := by simp [go_sem]
  have b1 : (((w.alloc (.cells #[.pointer (some ⟨p, 0, none⟩)] 125)).alloc (.cells #[.int .i64 5, .string s, .int .i64 n, .int .u64 re, .int .u64 im, .slice A xs.length cap, .int .i64 own, .bool false, .int .u64 0] 127)).alloc (.cells #[.int .i64 5, .string s, .int .i64 n, .int .u64 re, .int .u64 im, .slice A xs.length cap] 25)).cell? ⟨w.heap.size + 1, 6, none⟩ = some (.int .i64 own) := by simp [go_sem]
  have b2 : (((w.alloc (.cells #[.pointer (some ⟨p, 0, none⟩)] 125)).alloc (.cells #[.int .i64 5, .string s, .int .i64 n, .int .u64 re, .int .u64 im, .slice A xs.length cap, .int .i64 own, .bool false, .int .u64 0] 127)).alloc (.cells #[.int .i64 5, .string s, .int .i64 n, .int .u64 re, .int .u64 im, .slice A xs.length cap] 25)).cell? ⟨w.heap.size + 1 + 1, 1, none⟩ = some (.string s) := by simp [go_sem]
  have b3 : (((w.alloc (.cells #[.pointer (some ⟨p, 0, none⟩)] 125)).alloc (.cells #[.int .i64 5, .string s, .int .i64 n, .int .u64 re, .int .u64 im, .slice A xs.length cap, .int .i64 own, .bool false, .int .u64 0] 127)).alloc (.cells #[.int .i64 5, .string s, .int .i64 n, .int .u64 re, .int .u64 im, .slice A xs.length cap] 25)).cell? ⟨w.heap.size + 1 + 1, 5, none⟩ = some (.slice A xs.length cap) := by simp [go_sem]
  have hz3 : (((w.alloc (.cells #[.pointer (some ⟨p, 0, none⟩)] 125)).alloc (.cells #[.int .i64 5, .string s, .int .i64 n, .int .u64 re, .int .u64 im, .slice A xs.length cap, .int .i64 own, .bool false, .int .u64 0] 127)).alloc (.cells #[.int .i64 5, .string s, .int .i64 n, .int .u64 re, .int .u64 im, .slice A xs.length cap] 25)).heap.size = w.heap.size + 1 + 1 + 1 := by simp
  generalize (((w.alloc (.cells #[.pointer (some ⟨p, 0, none⟩)] 125)).alloc (.cells #[.int .i64 5, .string s, .int .i64 n, .int .u64 re, .int .u64 im, .slice A xs.length cap, .int .i64 own, .bool false, .int .u64 0] 127)).alloc (.cells #[.int .i64 5, .string s, .int .i64 n, .int .u64 re, .int .u64 im, .slice A xs.length cap] 25)) = W3 at hse b0 b1 b2 b3 hz3 ⊢
  have s0 : S1 w.heap.size := by rw [hS1]; exact .inr ⟨by omega, by omega⟩
  have s1 : S1 (w.heap.size + 1) := by rw [hS1]; exact .inr ⟨by omega, by omega⟩
  have s2 : S1 (w.heap.size + 1 + 1) := by rw [hS1]; exact .inr ⟨by omega, by omega⟩
  have HS : ∀ b, S b → S1 b := by rw [hS1]; exact fun _ h => .inl h
  clear hS1
  have HSE := Lib.hid hse
  have c1 : W3.cell? ⟨p, 1, none⟩ = some (.pointer (some ⟨a, 0, none⟩)) := hse.ok.p3.ptCell 1 _ rfl
  clear hse
  -- what the boxes hold in whatever world comes
  have HB : Hid (∀ (W : World) (S' : Blk) (Γ' : List Asn), To W3 S1 W S' Γ' → W.cell? ⟨w.heap.size, 0, none⟩ = some (.pointer (some ⟨p, 0, none⟩)) ∧ W.cell? ⟨w.heap.size + 1, 6, none⟩ = some (.int .i64 own) ∧ W.cell? ⟨w.heap.size + 1 + 1, 5, none⟩ = some (.slice A xs.length cap)) :=
    Lib.hid fun W S' Γ' h => ⟨h.cell (a := ⟨w.heap.size, 0, none⟩) s0 b0, h.cell (a := ⟨w.heap.size + 1, 6, none⟩) s1 b1, h.cell (a := ⟨w.heap.size + 1 + 1, 5, none⟩) s2 b3⟩
  have hnum0 := number_spec (HSE.out.ok.to.drew.p1).ok s (by omega)
  simp only [hnm] at hnum0
  clear hnm
  have hnum := hnum0.mono (R' := fun e w' => e = .returned (.tuple #[.int .i64 nb, .int .i64 ne]) ∧ Hid (To W3 S1 w' S1 (AtomsA a L2 :: HeapA h most C :: VarsA m V :: Pt p #[.pointer (some ⟨h, 0, none⟩), .pointer (some ⟨a, 0, none⟩), .map (some m), v] 130 :: Row v 127 9 stk.length (tiV stk) :: Γ)) ∧
      w'.cell? ⟨w.heap.size, 0, none⟩ = some (.pointer (some ⟨p, 0, none⟩)) ∧ w'.cell? ⟨w.heap.size + 1 + 1, 1, none⟩ = some (.string s) ∧ w'.cell? ⟨p, 1, none⟩ = some (.pointer (some ⟨a, 0, none⟩)) ∧ w'.cell? ⟨p, 0, none⟩ = some (.pointer (some ⟨h, 0, none⟩)) ∧ w'.cell? ⟨w.heap.size + 1 + 1, 5, none⟩ = some (.slice A xs.length cap) ∧ w'.cell? ⟨w.heap.size + 1, 6, none⟩ = some (.int .i64 own))
    (fun e w' ⟨h1, h2⟩ => by
      have h3 := (HSE.out.ok.to.drew).trans h2
      obtain ⟨q0, q1, q2⟩ := HB.out w' _ _ h3
      exact ⟨h1, Lib.hid h3, q0, h3.cell (a := ⟨w.heap.size + 1 + 1, 1, none⟩) s2 b2, h3.ok.p3.ptCell 1 _ rfl, h3.ok.p3.ptCell 0 _ rfl, q2, q1⟩)
  have HN := Lib.hid hnum; clear hnum hnum0
  go_region_held3 (fun W => W.cell? ⟨w.heap.size, 0, none⟩ = some (.pointer (some ⟨p, 0, none⟩)) ∧ W.cell? ⟨p, 1, none⟩ = some (.pointer (some ⟨a, 0, none⟩)) ∧ W.cell? ⟨w.heap.size + 1 + 1, 1, none⟩ = some (.string s)) (go_keep) (first | (go_at_call 46; refine HN.out.mono ?_; rintro e w' ⟨rfl, H2, d0, d1, d2, d3, d4, d5⟩))
  clear HN c1 b0 b1 b2 b3
  by_cases hne : ne = 0
  case neg =>
    have hne' : ((ne : Int) != 0) = true := by simp [bne]; omega
    have eo : oo = ((0, ne), ⟨C, L2, V⟩) := by rw [← HOO.out]; simp [opn, HNM.out, hne]
    have EO := Lib.hid eo; clear eo
    have HNE := Lib.hid hne; clear hne
    go_wp2_with fail
    refine bodyM_ret (results_tmp2 rfl _ _ _) ?_
    rw [EO.out]
    exact ⟨v, stk, 0, rfl, fun h => absurd h HNE.out, fun i hi => .inl hi, ((HSE.out.trans H2.out).plain.p1)⟩
  subst hne
  by_cases hf : C.length < most
  case neg =>
    have eo : oo = ((0, 4), ⟨C, L2, V⟩) := by rw [← HOO.out]; simp [opn, HNM.out, hf]
    have hr' := H2.out.ok.p1.heapAR
    have hm : C.length = most := by have h9 : C.length ≤ most := hr'.2.2.2.1; omega
    have hpush := (push_full hr' (fun6 nb xs.length : Nat) hm).mono (R' := fun e w2 => e = .returned (.tuple #[.int .i64 0, .int .i64 4]) ∧ Hid (To W3 S1 w2 S1 (LayG p h a m most ⟨C, L2, V⟩ v (Row v 127 9 stk.length (tiV stk) :: Γ))))
      (fun e w2 ⟨h1, q, h2⟩ => ⟨h1, Lib.hid (h2 ▸ H2.out.p1.drewN q)⟩)
    have HP := Lib.hid hpush; clear hpush hf hm hr'
    have EO := Lib.hid eo; clear eo
    go_wp2_with (first | (go_at_call 159; refine (functor_spec nb xs.length hnb hx1 hx2 _).mono ?_; rintro e w'' ⟨rfl, hww⟩; subst w'') | (go_at_call 44; refine HP.out.mono ?_; rintro e w2 ⟨rfl, H3⟩))
    refine bodyM_ret (results_tmp2 rfl _ _ _) ?_
    rw [EO.out]
    exact ⟨v, stk, 0, rfl, fun h => by simp at h, fun i hi => .inl hi, (HSE.out.trans H3.out).plain.alloc _⟩
  have hcb : C.length < 1048576 := Nat.lt_of_lt_of_le hf H2.out.ok.p1.heapAR.2.2.1
  have hfl : fun6 nb xs.length < 18446744073709551616 := by unfold fun6 mkc; omega
  have hpush := (push_ok H2.out.ok.p1 (fun6 nb xs.length) rfl hfl hf).mono (R' := fun e w2 => e = .returned (.tuple #[.int .i64 C.length, .int .i64 0]) ∧ Hid (To W3 S1 w2 S1 (LayG p h a m most ⟨C ++ [fun6 nb xs.length], L2, V⟩ v (Row v 127 9 stk.length (tiV stk) :: Γ))) ∧
      w2.cell? ⟨w.heap.size, 0, none⟩ = some (.pointer (some ⟨p, 0, none⟩)) ∧ w2.cell? ⟨w.heap.size + 1 + 1, 5, none⟩ = some (.slice A xs.length cap) ∧ w.heap.size < w2.heap.size ∧ w.heap.size + 1 + 1 < w2.heap.size)
    (fun e w' ⟨h1, h2⟩ => by
      have h3 := H2.out.trans h2
      have hz := h3.size
      obtain ⟨q0, q1, q2⟩ := HB.out w' _ _ h3
      exact ⟨h1, Lib.hid h3, q0, q2, by omega, by omega⟩)
  have HP := Lib.hid hpush; clear hpush
  go_wp2_with (first | (go_at_call 159; refine (functor_spec nb xs.length hnb hx1 hx2 _).mono ?_; rintro e w'' ⟨rfl, hww⟩; subst w'') | (go_at_call 44; refine HP.out.mono ?_; rintro e w2 ⟨rfl, H3, t0, t2, z0, z2⟩))
  have n4 : ¬ p = w2.heap.size := by have := H3.out.ok.p3.ptLt; omega
  -- the place of the functor in its box
  have h4 := H3.out.allocPt #[.int .i64 (C.length : Int)] 3
  have h5 := h4.trans h4.ok.seal1
  have hzz : (w2.alloc (.cells #[.int .i64 (C.length : Int)] 3)).heap.size = w2.heap.size + 1 := by simp
  have t4 : (w2.alloc (.cells #[.int .i64 (C.length : Int)] 3)).cell? ⟨w2.heap.size, 0, none⟩ = some (.int .i64 (C.length : Int)) := by simp [go_sem]
  obtain ⟨S2, hS2⟩ : ∃ S2 : Blk, S2 = fun x => S1 x ∨ x = w2.heap.size := ⟨_, rfl⟩
  rw [← hS2] at h5
  have u0 : S2 w2.heap.size := by rw [hS2]; exact .inr rfl
  have HS2 : ∀ b, S1 b → S2 b := by rw [hS2]; exact fun _ h => .inl h
  clear h4 hS2
  generalize hW4 : w2.alloc (.cells #[.int .i64 (C.length : Int)] 3) = W4 at h5 t4 hzz ⊢
  clear hW4
  have HB4 : Hid (∀ (W : World) (S' : Blk) (Γ' : List Asn), To W4 S2 W S' Γ' → W.cell? ⟨w.heap.size, 0, none⟩ = some (.pointer (some ⟨p, 0, none⟩)) ∧ W.cell? ⟨w.heap.size + 1, 6, none⟩ = some (.int .i64 own) ∧ W.cell? ⟨w.heap.size + 1 + 1, 5, none⟩ = some (.slice A xs.length cap) ∧
      W.cell? ⟨w2.heap.size, 0, none⟩ = some (.int .i64 (C.length : Int)) ∧ w2.heap.size < W.heap.size) :=
    Lib.hid fun W S' Γ' h => ⟨(HB.out W S' Γ' (h5.trans h)).1, (HB.out W S' Γ' (h5.trans h)).2.1, (HB.out W S' Γ' (h5.trans h)).2.2, h.cell (a := ⟨w2.heap.size, 0, none⟩) u0 t4, by have := h.size; omega⟩
  have H5 := Lib.hid h5; clear h5 t4 H3 t0 t2
  obtain ⟨r, hr⟩ : ∃ r, r = varAll most xs.length (C ++ [fun6 nb xs.length]) := ⟨_, rfl⟩
  have eo : oo = if r.1 = 0 then ((C.length, 0), ⟨r.2, L2, V⟩) else ((0, r.1), ⟨r.2, L2, V⟩) := by rw [← HOO.out, hr]; simp [opn, HNM.out, hf]
  have EO := Lib.hid eo; clear eo
  have HR := Lib.hid hr; clear hr hf HOO HNM
  go_loopw [56] (fun i wr => ∃ (j : Nat) (C' : List Nat), i = .int .i64 j ∧ j ≤ xs.length ∧ To W4 S2 wr S2 (LayG p h a m most ⟨C', L2, V⟩ v (Row v 127 9 stk.length (tiV stk) :: Γ)) ∧ varAll most (xs.length - j) C' = r) (fun i _ => xs.length - (intOf i).toNat)
  case atStart => exact ⟨0, _, rfl, Nat.zero_le _, H5.out.ok.to, HR.out.symm⟩
  case round =>
    obtain ⟨j, C', rfl, hj, hT, hq⟩ := hrel
    obtain ⟨e0, e1, e2, e3, e4⟩ := HB4.out wr _ _ hT
    have e5 : wr.cell? ⟨p, 0, none⟩ = some (.pointer (some ⟨h, 0, none⟩)) := hT.ok.p3.ptCell 0 _ rfl
    by_cases hlt : j < xs.length
    · rw [show xs.length - j = (xs.length - (j + 1)) + 1 from by omega, varAll] at hq
      have hr' := hT.ok.heapAR
      by_cases hf : C'.length < most
      · rw [if_pos hf] at hq
        have HT := Lib.hid hT; clear hT
        have HQ := Lib.hid hq; clear hq hr'
        go_wp2_with (go_at_call 82; refine (var_ok HT.out.ok hf).mono ?_; rintro e w' ⟨rfl, h2⟩)
        have H2' := Lib.hid (HT.out.trans h2); clear h2
        go_roundw
        case rel => exact ⟨j + 1, _, by go_num, by omega, H2'.out, HQ.out⟩
        case measure => simp [intOf]; omega
      · rw [if_neg hf] at hq
        have hm : C'.length = most := by have h9 : C'.length ≤ most := hr'.2.2.2.1; omega
        have HT := Lib.hid hT; clear hT
        have HQ := Lib.hid hq; clear hq
        have HR' := Lib.hid hr'; clear hr'
        have HM := Lib.hid hm; clear hm hf
        go_wp2_with (go_at_call 82; refine (var_full HR'.out HM.out).mono ?_; rintro e w' ⟨rfl, q, rfl⟩)
        refine bodyM_ret (results_tmp2 rfl _ _ _) ?_
        rw [EO.out, ← HQ.out]
        exact ⟨v, stk, 0, rfl, fun h => by simp at h, fun i hi => .inl hi, ((((HSE.out.trans H5.out).trans HT.out).plain.drewN q))⟩
    · have hje : j = xs.length := by omega
      have hq' : r = (0, C') := by rw [← hq, hje]; simp [varAll]
      have HQ := Lib.hid hq'; clear hq hq'
      have HT := Lib.hid hT; clear hT
      go_wp2_with (go_at_call 118; refine (make_spec 1 C.length rfl (by simp) (by omega) (by omega) _).mono ?_; rintro e w' ⟨rfl, hww⟩; subst w')
      have e6 : wr.cell? ⟨p, 3, none⟩ = some v := HT.out.ok.p3.ptCell 3 _ rfl
      have e7 := HT.out.ok.p3.ptLt
      have HROW := Lib.hid (HT.out.drew.p4)
      have hbnd : C.length + 1 + xs.length ≤ 1048576 := by
        have e1 := varAll_len most xs.length (C ++ [fun6 nb xs.length]) C' (by rw [← HR.out]; exact HQ.out)
        have e2 := HT.out.ok.heapAR
        have e3 : C'.length ≤ most := e2.2.2.2.1
        have e4 := e2.2.2.1
        simp at e1
        omega
      have hmv : mkc 1 C.length < 18446744073709551616 := by unfold mkc; omega
      clear e3 e2 e5
      refine wp_region_noPanic ?_
      refine wp_region_held_drew (S := fun W => W.cell? ⟨w.heap.size, 0, none⟩ = some (.pointer (some ⟨p, 0, none⟩)) ∧ W.cell? ⟨w.heap.size + 1, 6, none⟩ = some (.int .i64 own)) (by kernel_rfl) (by go_keep) (fun hS => ?_)
      refine takeH (v := ?_) 0 76 rfl rfl (by kernel_rfl) (by kernel_rfl) (by kernel_rfl) (fun _ _ _ h => h) (by rfl) hS ?_ ?_
      rotate_left
      · intro X hX; obtain ⟨x0, x1⟩ := hX; go_simp; rfl
      simp only [List.setIfInBounds_toArray, List.set_cons_zero, List.set_cons_succ]
      refine takeH (v := ?_) 1 77 rfl rfl (by kernel_rfl) (by kernel_rfl) (by kernel_rfl) (fun _ _ _ h => h) (by rfl) hS ?_ ?_
      rotate_left
      · intro X hX; obtain ⟨x0, x1⟩ := hX; go_simp; rfl
      simp only [List.setIfInBounds_toArray, List.set_cons_zero, List.set_cons_succ]
      refine takeH (v := ?_) 2 78 rfl rfl (by kernel_rfl) (by kernel_rfl) (by kernel_rfl) (fun _ _ _ h => h) (by rfl) hS ?_ ?_
      rotate_left
      · intro X hX; obtain ⟨x0, x1⟩ := hX; go_simp; rfl
      simp only [List.setIfInBounds_toArray, List.set_cons_zero, List.set_cons_succ]
      refine takeH (v := ?_) 3 79 rfl rfl (by kernel_rfl) (by kernel_rfl) (by kernel_rfl) (fun _ _ _ h => h) (by rfl) hS ?_ ?_
      rotate_left
      · intro X hX; obtain ⟨x0, x1⟩ := hX; go_simp; rfl
      simp only [List.setIfInBounds_toArray, List.set_cons_zero, List.set_cons_succ]
      refine takeH (v := ?_) 5 81 rfl rfl (by kernel_rfl) (by kernel_rfl) (by kernel_rfl) (fun _ _ _ h => h) (by rfl) hS ?_ ?_
      rotate_left
      · intro X hX; obtain ⟨x0, x1⟩ := hX; go_simp; rfl
      simp only [List.setIfInBounds_toArray, List.set_cons_zero, List.set_cons_succ]
      refine takeH (v := ?_) 6 82 rfl rfl (by kernel_rfl) (by kernel_rfl) (by kernel_rfl) (fun _ _ _ h => h) (by rfl) hS ?_ ?_
      rotate_left
      · intro X hX; obtain ⟨x0, x1⟩ := hX; go_simp; rfl
      simp only [List.setIfInBounds_toArray, List.set_cons_zero, List.set_cons_succ]
      refine takeH (v := ?_) 7 83 rfl rfl (by kernel_rfl) (by kernel_rfl) (by kernel_rfl) (fun _ _ _ h => h) (by rfl) hS ?_ ?_
      rotate_left
      · intro X hX; obtain ⟨x0, x1⟩ := hX; go_simp; rfl
      simp only [List.setIfInBounds_toArray, List.set_cons_zero, List.set_cons_succ]
      refine takeH (v := ?_) 8 84 rfl rfl (by kernel_rfl) (by kernel_rfl) (by kernel_rfl) (fun _ _ _ h => h) (by rfl) hS ?_ ?_
      rotate_left
      · intro X hX; obtain ⟨x0, x1⟩ := hX; go_simp; rfl
      simp only [List.setIfInBounds_toArray, List.set_cons_zero, List.set_cons_succ]
      refine wpAnyH_ready (rs := [4, 9]) (by kernel_rfl) (by simp) ?_
      refine AllReadyH.cons rfl (fun K hK => ?_) (AllReadyH.cons rfl (fun K hK => ?_) AllReadyH.nil)
      go_simp
      refine Shut.out hK _ _ (by go_keep) (fun hS => ?_)
      clear hK K
      refine wpAnyH_ready (rs := [9]) (by kernel_rfl) (by simp) ?_
      refine AllReadyH.cons rfl (fun K hK => ?_) AllReadyH.nil
      go_simp
      refine Shut.out hK _ _ (by go_keep) (fun hS => ?_)
      clear hK K
      refine wpAnyH_ready (rs := [10]) (by kernel_rfl) (by simp) ?_
      refine AllReadyH.cons rfl (fun K hK => ?_) AllReadyH.nil
      refine step_append_new rfl (.tmp 80) (.tmp 85) 128 127 _ 9 96 rfl Try.underlying128 info127 rfl (by decide) (by decide) HROW.out rfl #[.int .i64 0, .string ⟨#[]⟩, .int .i64 0, .int .u64 0, .int .u64 0, .slice none 0 0, .int .i64 own, .bool true, .int .u64 ((mkc 1 C.length : Nat) : Int)] rfl rfl (by simp [Value.oneCell']) (by omega) ?_; intro A6 c6 W6 h6; obtain ⟨f0, f1, f2, f3, f4⟩ := HB4.out W6 _ _ h6; have f5 := h6.ok.p4.ptFree 3; have f6 : W6.cell? ⟨p, 3, none⟩ = some v := h6.ok.p4.ptCell 3 _ rfl; have f7 := h6.ok.p4.ptLt; have H6 := Lib.hid h6; clear h6
      refine Shut.out hK _ _ (by go_keep) (fun hS => ?_)
      clear hK K
      simp only [Act.put, List.setIfInBounds_toArray, List.set_cons_zero, List.set_cons_succ]
      refine wpAnyH_ready (rs := [11]) (by kernel_rfl) (by simp) ?_
      refine AllReadyH.cons rfl (fun K hK => ?_) AllReadyH.nil
      go_simp
      refine Shut.out hK _ _ hS (fun hS => ?_)
      clear hK K
      refine wpAnyH_ready (rs := [12]) (by kernel_rfl) (by simp) ?_
      refine AllReadyH.cons rfl (fun K hK => ?_) AllReadyH.nil
      go_simp
      refine Shut.out hK _ _ hS (fun hS => ?_)
      clear hK K
      refine wpAnyH_ready (rs := [13]) (by kernel_rfl) (by simp) ?_
      refine AllReadyH.cons rfl (fun K hK => ?_) AllReadyH.nil
      go_simp
      refine Shut.out hK _ _ (by go_keep) (fun hS => ?_)
      clear hK K
      refine wpAnyH_done (by kernel_rfl) ?_ _
      rotate_left
      go_simp
      refine Shut.out hK _ _ (by go_keep) (fun hS => ?_)
      clear hK K
      refine wpAnyH_ready (rs := [4]) (by kernel_rfl) (by simp) ?_
      refine AllReadyH.cons rfl (fun K hK => ?_) AllReadyH.nil
      go_simp
      refine Shut.out hK _ _ (by go_keep) (fun hS => ?_)
      clear hK K
      refine wpAnyH_ready (rs := [10]) (by kernel_rfl) (by simp) ?_
      refine AllReadyH.cons rfl (fun K hK => ?_) AllReadyH.nil
      refine step_append_new rfl (.tmp 80) (.tmp 85) 128 127 _ 9 96 rfl Try.underlying128 info127 rfl (by decide) (by decide) HROW.out rfl #[.int .i64 0, .string ⟨#[]⟩, .int .i64 0, .int .u64 0, .int .u64 0, .slice none 0 0, .int .i64 own, .bool true, .int .u64 ((mkc 1 C.length : Nat) : Int)] rfl rfl (by simp [Value.oneCell']) (by omega) ?_; intro A6 c6 W6 h6; obtain ⟨f0, f1, f2, f3, f4⟩ := HB4.out W6 _ _ h6; have f5 := h6.ok.p4.ptFree 3; have f6 : W6.cell? ⟨p, 3, none⟩ = some v := h6.ok.p4.ptCell 3 _ rfl; have f7 := h6.ok.p4.ptLt; have H6 := Lib.hid h6; clear h6
      refine Shut.out hK _ _ (by go_keep) (fun hS => ?_)
      clear hK K
      simp only [Act.put, List.setIfInBounds_toArray, List.set_cons_zero, List.set_cons_succ]
      refine wpAnyH_ready (rs := [11]) (by kernel_rfl) (by simp) ?_
      refine AllReadyH.cons rfl (fun K hK => ?_) AllReadyH.nil
      go_simp
      refine Shut.out hK _ _ hS (fun hS => ?_)
      clear hK K
      refine wpAnyH_ready (rs := [12]) (by kernel_rfl) (by simp) ?_
      refine AllReadyH.cons rfl (fun K hK => ?_) AllReadyH.nil
      go_simp
      refine Shut.out hK _ _ hS (fun hS => ?_)
      clear hK K
      refine wpAnyH_ready (rs := [13]) (by kernel_rfl) (by simp) ?_
      refine AllReadyH.cons rfl (fun K hK => ?_) AllReadyH.nil
      go_simp
      refine Shut.out hK _ _ (by go_keep) (fun hS => ?_)
      clear hK K
      refine wpAnyH_done (by kernel_rfl) ?_ _
      rotate_left
      all_goals refine NoPanic.normal ?_
      all_goals
        have h7 := H6.out.p4.ptSet 3 (.slice A6 (stk.length + 1) c6)
        clear H6 HROW
        obtain ⟨g0, g1, g2, g3, g4⟩ := HB4.out _ _ _ h7
        generalize W6.setCell ⟨p, 3, none⟩ (.slice A6 (stk.length + 1) c6) = W7 at h7 g0 g1 g2 g3 g4 ⊢
        have hz7 := h7.size
        have zz : w.heap.size + 1 + 1 < W7.heap.size := by omega
        have H7 := Lib.hid h7; clear h7
        go_wp2_with (go_at_call 160; refine (backward_spec _ _ _ _).mono ?_; rintro e w8 ⟨rfl, hw8⟩; subst w8)
        have h8 := H7.out.allocPt #[.slice A xs.length cap] 23
        have h9 := h8.trans h8.ok.seal1
        have t9 : (W7.alloc (.cells #[.slice A xs.length cap] 23)).cell? ⟨W7.heap.size, 0, none⟩ = some (.slice A xs.length cap) := by simp [go_sem]
        clear h8
        obtain ⟨S3, hS3⟩ : ∃ S3 : Blk, S3 = fun x => S2 x ∨ x = W7.heap.size := ⟨_, rfl⟩
        rw [← hS3] at h9
        have s9 : S3 W7.heap.size := by rw [hS3]; exact .inr rfl
        clear hS3
        generalize W7.alloc (.cells #[.slice A xs.length cap] 23) = W8 at h9 t9 ⊢
        have T08 := (HSE.out.trans H5.out).trans h9
        have hI0 : To W4 S2 W8 S3 (CompI w S p h a m xs (C.length + 1) (.cl (mkc 1 C.length) own :: stk) 0 :: HeapA h most C' :: AtomsA a L2 :: VarsA m V :: Γ) :=
          h9.re fun kk => Ok.compI.2 ⟨[], _, ⟨by simp [← tds_length xs (C.length + 1)], by simp⟩, kk⟩
        have HA8 := HA.out.in (fun _ h => h) T08
        have H9 := Lib.hid hI0; clear hI0 h9
        have HT08 := Lib.hid T08; clear T08
        refine wp_backward (Sk := S) (S := S3) (xs := xs) (A := A) (cap := cap) (B := W7.heap.size) (fun k => CompI w S p h a m xs (C.length + 1) (.cl (mkc 1 C.length) own :: stk) k :: HeapA h most C' :: AtomsA a L2 :: VarsA m V :: Γ) rfl rfl s9 t9 HA8 HT08.out.sub hxl H9.out.ok ?round ?done
        case round =>
          intro l D r k j x A' cap' W hj hx' hxT hW
          obtain ⟨st, v2, hf, hok⟩ := Ok.compI.1 hW.ok.p2
          have hmm0 : (st ++ .cl (mkc 1 C.length) own :: stk).length ≤ 100100 := by
            have e1 := congrArg List.length hf.1
            rw [List.length_map, List.length_drop, tds_length] at e1
            simp
            omega
          obtain ⟨mm, hmm⟩ : ∃ mm, mm = (st ++ .cl (mkc 1 C.length) own :: stk).length := ⟨_, rfl⟩
          rw [← hmm] at hok hmm0
          have n6 : ¬ p = W.heap.size := by have := hok.ptLt; omega
          gi_wp2
          refine ⟨Raw D (.deferred (some [])) :: Pt W.heap.size #[.int .i64 x.k, .string x.s, .int .i64 x.n, .int .u64 x.re, .int .u64 x.im, .slice A' x.xs.length cap'] 25 :: Pt p #[.pointer (some ⟨h, 0, none⟩), .pointer (some ⟨a, 0, none⟩), .map (some m), v2] 130 :: Row v2 127 9 mm (tiV (st ++ .cl (mkc 1 C.length) own :: stk)) :: HeapA h most C' :: AtomsA a L2 :: VarsA m V :: Γ, ((hW.re fun _ => hok).allocPt _ _).p4.p4, ?_⟩
          intro W2 h2
          obtain ⟨g0, g1, g2, g3, g4⟩ := HB4.out _ _ _ (H9.out.trans h2)
          have y0 : W2.cell? ⟨W.heap.size, 0, none⟩ = some (.int .i64 x.k) := h2.ok.p2.ptCell 0 _ rfl
          have y1 : W2.cell? ⟨W.heap.size, 1, none⟩ = some (.string x.s) := h2.ok.p2.ptCell 1 _ rfl
          have y2 : W2.cell? ⟨W.heap.size, 2, none⟩ = some (.int .i64 x.n) := h2.ok.p2.ptCell 2 _ rfl
          have y3 : W2.cell? ⟨W.heap.size, 3, none⟩ = some (.int .u64 x.re) := h2.ok.p2.ptCell 3 _ rfl
          have y4 : W2.cell? ⟨W.heap.size, 4, none⟩ = some (.int .u64 x.im) := h2.ok.p2.ptCell 4 _ rfl
          have y5 : W2.cell? ⟨W.heap.size, 5, none⟩ = some (.slice A' x.xs.length cap') := h2.ok.p2.ptCell 5 _ rfl
          have y6 : W2.cell? ⟨p, 3, none⟩ = some v2 := h2.ok.p3.ptCell 3 _ rfl
          have y7 := h2.ok.p3.ptLt
          have hjn : j ≤ 20 := by omega
          have H2' := Lib.hid h2; clear h2
          have HROW' := Lib.hid (H2'.out.drew.p4)
          have HM := Lib.hid hmm; clear hmm
          gi_wp2
          refine wp_round_region (S := fun X => X.cell? ⟨w.heap.size, 0, none⟩ = some (.pointer (some ⟨p, 0, none⟩)) ∧ X.cell? ⟨w2.heap.size, 0, none⟩ = some (.int .i64 (C.length : Int)) ∧ X.cell? ⟨W.heap.size, 0, none⟩ = some (.int .i64 x.k) ∧ X.cell? ⟨W.heap.size, 1, none⟩ = some (.string x.s) ∧
            X.cell? ⟨W.heap.size, 2, none⟩ = some (.int .i64 x.n) ∧ X.cell? ⟨W.heap.size, 3, none⟩ = some (.int .u64 x.re) ∧ X.cell? ⟨W.heap.size, 4, none⟩ = some (.int .u64 x.im) ∧ X.cell? ⟨W.heap.size, 5, none⟩ = some (.slice A' x.xs.length cap') ∧ True) (by kernel_rfl) ?hL (by simp) (by go_keep) (fun hS => ?_)
          case hL => rintro ⟨a, w, hh⟩; cases hh.1
          refine takeH (v := ?_) 0 94 rfl rfl (by kernel_rfl) (by kernel_rfl) (by kernel_rfl) (fun _ _ _ h => h) (by rfl) hS ?_ ?_
          rotate_left
          · intro X hX; obtain ⟨x0, x1, x2, x3, x4, x5, x6, x7, x8⟩ := hX; go_simp; first | rfl | (exact IntWalk.i64_in _ (by omega)) | (rw [IntWalk.i64_in ((C.length : Int) + 1) (by omega), IntWalk.i64_in _ (by omega)])
          simp only [List.setIfInBounds_toArray, List.set_cons_zero, List.set_cons_succ]
          refine takeH (v := ?_) 1 95 rfl rfl (by kernel_rfl) (by kernel_rfl) (by kernel_rfl) (fun _ _ _ h => h) (by rfl) hS ?_ ?_
          rotate_left
          · intro X hX; obtain ⟨x0, x1, x2, x3, x4, x5, x6, x7, x8⟩ := hX; go_simp; first | rfl | (exact IntWalk.i64_in _ (by omega)) | (rw [IntWalk.i64_in ((C.length : Int) + 1) (by omega), IntWalk.i64_in _ (by omega)])
          simp only [List.setIfInBounds_toArray, List.set_cons_zero, List.set_cons_succ]
          refine takeH (v := ?_) 2 96 rfl rfl (by kernel_rfl) (by kernel_rfl) (by kernel_rfl) (fun _ _ _ h => h) (by rfl) hS ?_ ?_
          rotate_left
          · intro X hX; obtain ⟨x0, x1, x2, x3, x4, x5, x6, x7, x8⟩ := hX; go_simp; first | rfl | (exact IntWalk.i64_in _ (by omega)) | (rw [IntWalk.i64_in ((C.length : Int) + 1) (by omega), IntWalk.i64_in _ (by omega)])
          simp only [List.setIfInBounds_toArray, List.set_cons_zero, List.set_cons_succ]
          refine takeH (v := ?_) 3 97 rfl rfl (by kernel_rfl) (by kernel_rfl) (by kernel_rfl) (fun _ _ _ h => h) (by rfl) hS ?_ ?_
          rotate_left
          · intro X hX; obtain ⟨x0, x1, x2, x3, x4, x5, x6, x7, x8⟩ := hX; go_simp; first | rfl | (exact IntWalk.i64_in _ (by omega)) | (rw [IntWalk.i64_in ((C.length : Int) + 1) (by omega), IntWalk.i64_in _ (by omega)])
          simp only [List.setIfInBounds_toArray, List.set_cons_zero, List.set_cons_succ]
          refine takeH (v := ?_) 5 99 rfl rfl (by kernel_rfl) (by kernel_rfl) (by kernel_rfl) (fun _ _ _ h => h) (by rfl) hS ?_ ?_
          rotate_left
          · intro X hX; obtain ⟨x0, x1, x2, x3, x4, x5, x6, x7, x8⟩ := hX; go_simp; first | rfl | (exact IntWalk.i64_in _ (by omega)) | (rw [IntWalk.i64_in ((C.length : Int) + 1) (by omega), IntWalk.i64_in _ (by omega)])
          simp only [List.setIfInBounds_toArray, List.set_cons_zero, List.set_cons_succ]
          refine takeH (v := ?_) 6 100 rfl rfl (by kernel_rfl) (by kernel_rfl) (by kernel_rfl) (fun _ _ _ h => h) (by rfl) hS ?_ ?_
          rotate_left
          · intro X hX; obtain ⟨x0, x1, x2, x3, x4, x5, x6, x7, x8⟩ := hX; go_simp; first | rfl | (exact IntWalk.i64_in _ (by omega)) | (rw [IntWalk.i64_in ((C.length : Int) + 1) (by omega), IntWalk.i64_in _ (by omega)])
          simp only [List.setIfInBounds_toArray, List.set_cons_zero, List.set_cons_succ]
          refine takeH (v := .int .i64 ((C.length : Int) + 1)) 7 101 rfl rfl (by kernel_rfl) (by kernel_rfl) (by kernel_rfl) (fun _ _ _ h => h) (by rfl) hS ?_ ?_
          skip
          · intro X hX; obtain ⟨x0, x1, x2, x3, x4, x5, x6, x7, x8⟩ := hX; go_simp; first | rfl | (exact IntWalk.i64_in _ (by omega)) | (rw [IntWalk.i64_in ((C.length : Int) + 1) (by omega), IntWalk.i64_in _ (by omega)])
          simp only [List.setIfInBounds_toArray, List.set_cons_zero, List.set_cons_succ]
          refine takeH (v := ?_) 8 102 rfl rfl (by kernel_rfl) (by kernel_rfl) (by kernel_rfl) (fun _ _ _ h => h) (by rfl) hS ?_ ?_
          rotate_left
          · intro X hX; obtain ⟨x0, x1, x2, x3, x4, x5, x6, x7, x8⟩ := hX; go_simp; first | rfl | (exact IntWalk.i64_in _ (by omega)) | (rw [IntWalk.i64_in ((C.length : Int) + 1) (by omega), IntWalk.i64_in _ (by omega)])
          simp only [List.setIfInBounds_toArray, List.set_cons_zero, List.set_cons_succ]
          refine takeH (v := .int .i64 ((C.length : Int) + 1 + j)) 9 103 rfl rfl (by kernel_rfl) (by kernel_rfl) (by kernel_rfl) (fun _ _ _ h => h) (by rfl) hS ?_ ?_
          skip
          · intro X hX; obtain ⟨x0, x1, x2, x3, x4, x5, x6, x7, x8⟩ := hX; go_simp; first | rfl | (exact IntWalk.i64_in _ (by omega)) | (rw [IntWalk.i64_in ((C.length : Int) + 1) (by omega), IntWalk.i64_in _ (by omega)])
          simp only [List.setIfInBounds_toArray, List.set_cons_zero, List.set_cons_succ]
          refine takeH (v := ?_) 10 104 rfl rfl (by kernel_rfl) (by kernel_rfl) (by kernel_rfl) (fun _ _ _ h => h) (by rfl) hS ?_ ?_
          rotate_left
          · intro X hX; obtain ⟨x0, x1, x2, x3, x4, x5, x6, x7, x8⟩ := hX; go_simp; first | rfl | (exact IntWalk.i64_in _ (by omega)) | (rw [IntWalk.i64_in ((C.length : Int) + 1) (by omega), IntWalk.i64_in _ (by omega)])
          simp only [List.setIfInBounds_toArray, List.set_cons_zero, List.set_cons_succ]
          refine wpAnyH_ready (rs := [4, 11]) (by kernel_rfl) (by simp) ?_
          refine AllReadyH.cons rfl (fun K hK => ?_) (AllReadyH.cons rfl (fun K hK => ?_) AllReadyH.nil)
          · go_simp
            refine Shut.out hK _ _ hS (fun hS => ?_)
            clear hK K
            refine wpAnyH_ready (rs := [11]) (by kernel_rfl) (by simp) ?_
            refine AllReadyH.cons rfl (fun K hK => ?_) AllReadyH.nil
            go_simp
            refine Shut.out hK _ _ (by go_keep) (fun hS => ?_)
            clear hK K
            refine wpAnyH_ready (rs := [12]) (by kernel_rfl) (by simp) ?_
            refine AllReadyH.cons rfl (fun K hK => ?_) AllReadyH.nil
            refine step_append_new rfl (.tmp 98) (.tmp 105) 128 127 _ 9 96 rfl Try.underlying128 info127 rfl (by decide) (by decide) HROW'.out rfl #[.int .i64 x.k, .string x.s, .int .i64 x.n, .int .u64 x.re, .int .u64 x.im, .slice A' x.xs.length cap', .int .i64 ((C.length : Int) + 1 + j), .bool false, .int .u64 0] rfl rfl (by simp [Value.oneCell']) (by omega) ?_
            intro A9 c9 W9 h9
            obtain ⟨q0, q1, q2, q3, q4⟩ := HB4.out _ _ _ (H9.out.trans h9)
            have z0 : W9.cell? ⟨W.heap.size, 0, none⟩ = some (.int .i64 x.k) := h9.ok.p3.ptCell 0 _ rfl
            have z1 : W9.cell? ⟨W.heap.size, 1, none⟩ = some (.string x.s) := h9.ok.p3.ptCell 1 _ rfl
            have z2 : W9.cell? ⟨W.heap.size, 2, none⟩ = some (.int .i64 x.n) := h9.ok.p3.ptCell 2 _ rfl
            have z3 : W9.cell? ⟨W.heap.size, 3, none⟩ = some (.int .u64 x.re) := h9.ok.p3.ptCell 3 _ rfl
            have z4 : W9.cell? ⟨W.heap.size, 4, none⟩ = some (.int .u64 x.im) := h9.ok.p3.ptCell 4 _ rfl
            have z5 : W9.cell? ⟨W.heap.size, 5, none⟩ = some (.slice A' x.xs.length cap') := h9.ok.p3.ptCell 5 _ rfl
            have z6 : W9.cell? ⟨p, 3, none⟩ = some v2 := h9.ok.p4.ptCell 3 _ rfl
            have z7 := h9.ok.p4.ptFree 3
            have H10 := Lib.hid h9; clear h9
            clear y0 y1 y2 y3 y4 y5 y6 hS
            refine Shut.out hK _ _ (by go_keep) (fun hS => ?_)
            clear hK K
            simp only [Act.put, List.setIfInBounds_toArray, List.set_cons_zero, List.set_cons_succ]
            refine wpAnyH_ready (rs := [13]) (by kernel_rfl) (by simp) ?_
            refine AllReadyH.cons rfl (fun K hK => ?_) AllReadyH.nil
            go_simp
            refine Shut.out hK _ _ hS (fun hS => ?_)
            clear hK K
            refine wpAnyH_ready (rs := [14]) (by kernel_rfl) (by simp) ?_
            refine AllReadyH.cons rfl (fun K hK => ?_) AllReadyH.nil
            go_simp
            refine Shut.out hK _ _ hS (fun hS => ?_)
            clear hK K
            refine wpAnyH_ready (rs := [15]) (by kernel_rfl) (by simp) ?_
            refine AllReadyH.cons rfl (fun K hK => ?_) AllReadyH.nil
            go_simp
            refine Shut.out hK _ _ (by go_keep) (fun hS => ?_)
            clear hK K
            refine wpAnyH_done (by kernel_rfl) ?_ _
            refine ⟨rfl, ?_⟩
            have H11 := (H10.out.p4.ptSet 3 (.slice A9 (mm + 1) c9)).p4.drop
            refine To.p2 (To.p2 (H11.re fun kk => Ok.compI.2 ⟨.tm x A' cap' ((C.length : Int) + 1 + j) :: st, .slice A9 (mm + 1) c9, ⟨?_, ?_⟩, ?_⟩))
            · have e1 : xs.length - (k + 1) = j := by omega
              have e2 : xs.length - k = j + 1 := by omega
              have hf1 := hf.1
              rw [e2] at hf1
              have hg := tds_get xs (C.length + 1) j x hx'
              have hlt := (List.getElem?_eq_some_iff.1 hg).1
              rw [e1, List.drop_eq_getElem_cons hlt, List.map_cons, hf1, (List.getElem?_eq_some_iff.1 hg).2]
              simp [Ti.td]
            · intro i hi
              rcases List.mem_cons.1 hi with rfl | hi
              · exact ⟨(hxT.mono (fun a v ha hv => (World.cell?_of_block (w := W) (hW.kept a.block (HT08.out.sub _ ha)).symm).trans hv) (fun _ h => h)).back HT08.out, by omega, by omega⟩
              · exact hf.2 i hi
            · have e3 : (.tm x A' cap' ((C.length : Int) + 1 + j) :: st ++ .cl (mkc 1 C.length) own :: stk : List Ti).length = mm + 1 := by rw [HM.out]; rfl
              rw [e3]
              exact kk
          · go_simp
            refine Shut.out hK _ _ (by go_keep) (fun hS => ?_)
            clear hK K
            refine wpAnyH_ready (rs := [4]) (by kernel_rfl) (by simp) ?_
            refine AllReadyH.cons rfl (fun K hK => ?_) AllReadyH.nil
            go_simp
            refine Shut.out hK _ _ hS (fun hS => ?_)
            clear hK K
            refine wpAnyH_ready (rs := [12]) (by kernel_rfl) (by simp) ?_
            refine AllReadyH.cons rfl (fun K hK => ?_) AllReadyH.nil
            refine step_append_new rfl (.tmp 98) (.tmp 105) 128 127 _ 9 96 rfl Try.underlying128 info127 rfl (by decide) (by decide) HROW'.out rfl #[.int .i64 x.k, .string x.s, .int .i64 x.n, .int .u64 x.re, .int .u64 x.im, .slice A' x.xs.length cap', .int .i64 ((C.length : Int) + 1 + j), .bool false, .int .u64 0] rfl rfl (by simp [Value.oneCell']) (by omega) ?_
            intro A9 c9 W9 h9
            obtain ⟨q0, q1, q2, q3, q4⟩ := HB4.out _ _ _ (H9.out.trans h9)
            have z0 : W9.cell? ⟨W.heap.size, 0, none⟩ = some (.int .i64 x.k) := h9.ok.p3.ptCell 0 _ rfl
            have z1 : W9.cell? ⟨W.heap.size, 1, none⟩ = some (.string x.s) := h9.ok.p3.ptCell 1 _ rfl
            have z2 : W9.cell? ⟨W.heap.size, 2, none⟩ = some (.int .i64 x.n) := h9.ok.p3.ptCell 2 _ rfl
            have z3 : W9.cell? ⟨W.heap.size, 3, none⟩ = some (.int .u64 x.re) := h9.ok.p3.ptCell 3 _ rfl
            have z4 : W9.cell? ⟨W.heap.size, 4, none⟩ = some (.int .u64 x.im) := h9.ok.p3.ptCell 4 _ rfl
            have z5 : W9.cell? ⟨W.heap.size, 5, none⟩ = some (.slice A' x.xs.length cap') := h9.ok.p3.ptCell 5 _ rfl
            have z6 : W9.cell? ⟨p, 3, none⟩ = some v2 := h9.ok.p4.ptCell 3 _ rfl
            have z7 := h9.ok.p4.ptFree 3
            have H10 := Lib.hid h9; clear h9
            clear y0 y1 y2 y3 y4 y5 y6 hS
            refine Shut.out hK _ _ (by go_keep) (fun hS => ?_)
            clear hK K
            simp only [Act.put, List.setIfInBounds_toArray, List.set_cons_zero, List.set_cons_succ]
            refine wpAnyH_ready (rs := [13]) (by kernel_rfl) (by simp) ?_
            refine AllReadyH.cons rfl (fun K hK => ?_) AllReadyH.nil
            go_simp
            refine Shut.out hK _ _ hS (fun hS => ?_)
            clear hK K
            refine wpAnyH_ready (rs := [14]) (by kernel_rfl) (by simp) ?_
            refine AllReadyH.cons rfl (fun K hK => ?_) AllReadyH.nil
            go_simp
            refine Shut.out hK _ _ hS (fun hS => ?_)
            clear hK K
            refine wpAnyH_ready (rs := [15]) (by kernel_rfl) (by simp) ?_
            refine AllReadyH.cons rfl (fun K hK => ?_) AllReadyH.nil
            go_simp
            refine Shut.out hK _ _ (by go_keep) (fun hS => ?_)
            clear hK K
            refine wpAnyH_done (by kernel_rfl) ?_ _
            refine ⟨rfl, ?_⟩
            have H11 := (H10.out.p4.ptSet 3 (.slice A9 (mm + 1) c9)).p4.drop
            refine To.p2 (To.p2 (H11.re fun kk => Ok.compI.2 ⟨.tm x A' cap' ((C.length : Int) + 1 + j) :: st, .slice A9 (mm + 1) c9, ⟨?_, ?_⟩, ?_⟩))
            · have e1 : xs.length - (k + 1) = j := by omega
              have e2 : xs.length - k = j + 1 := by omega
              have hf1 := hf.1
              rw [e2] at hf1
              have hg := tds_get xs (C.length + 1) j x hx'
              have hlt := (List.getElem?_eq_some_iff.1 hg).1
              rw [e1, List.drop_eq_getElem_cons hlt, List.map_cons, hf1, (List.getElem?_eq_some_iff.1 hg).2]
              simp [Ti.td]
            · intro i hi
              rcases List.mem_cons.1 hi with rfl | hi
              · exact ⟨(hxT.mono (fun a v ha hv => (World.cell?_of_block (w := W) (hW.kept a.block (HT08.out.sub _ ha)).symm).trans hv) (fun _ h => h)).back HT08.out, by omega, by omega⟩
              · exact hf.2 i hi
            · have e3 : (.tm x A' cap' ((C.length : Int) + 1 + j) :: st ++ .cl (mkc 1 C.length) own :: stk : List Ti).length = mm + 1 := by rw [HM.out]; rfl
              rw [e3]
              exact kk
        case done =>
          intro D W hW
          obtain ⟨l, v2, hf, hok⟩ := Ok.compI.1 hW.ok.p1
          simp only [Exit.inBlock, Exit.then]
          go_wp2
          refine bodyM_done (w0 := w) (S0 := S) (S := S) (HT08.out.trans (hW.re fun _ => hok.p2)).plain (fun _ => results_tmp2 rfl _ _ _) (fun W' h' => ?_)
          rw [EO.out, HQ.out, if_pos rfl]
          refine ⟨v2, l ++ .cl (mkc 1 C.length) own :: stk, mkc 1 C.length, rfl, fun _ => ⟨rfl, ?_⟩, fun i hi => ?_, h'.p4.p4.p4⟩
          · rw [List.map_append, hf.1]
            simp [Ti.td]
          · rcases List.mem_append.1 hi with hi | hi
            · exact .inr (hf.2 i hi)
            · rcases List.mem_cons.1 hi with rfl | hi
              · exact .inr ⟨hmv, ho1, ho2⟩
              · exact .inl hi
end Go.Proofs.Ytceahdlcbiialaa
