/- Terms as they lie in memory. No condition. -/
import Derived.Test.YtceahdlcbiialaaA2
import Derived.Test.YtceahdlcbiialaaB1
set_option linter.unusedVariables false
set_option linter.unusedSimpArgs false
namespace Go.Proofs.Ytceahdlcbiialaa
open Go.RowKit

/-- Six cells that are a term; what its arguments' cells are; all of these lie in blocks of S. -/
inductive TmC (w : World) (S : Blk) : List Value → Tm → Prop
  | mk (k : Int) (s : ByteArray) (n re im : Int) (A : Option Addr) (cap : Nat) (xs : List Tm) (css : List (List Value))
      (hk : -9223372036854775808 ≤ k ∧ k ≤ 9223372036854775807) (hs : s.size ≤ 140737488351232) (hn : -9223372036854775808 ≤ n ∧ n ≤ 9223372036854775807)
      (hr : 0 ≤ re ∧ re ≤ 18446744073709551615) (hi : 0 ≤ im ∧ im ≤ 18446744073709551615) (hl : xs.length ≤ 140737488351232)
      (hc : css.length = xs.length)
      (hm : ∀ (i : Nat) (c : List Value), css[i]? = some c → c.length = 6 ∧ ∃ g o, A = some ⟨g, o, none⟩ ∧ S g ∧ ∀ (j : Nat) (u : Value), c[j]? = some u → w.cell? ⟨g, o + i * 6 + j, none⟩ = some u)
      (ha : ∀ (i : Nat) (c : List Value) (t : Tm), css[i]? = some c → xs[i]? = some t → TmC w S c t) :
      TmC w S [.int .i64 k, .string s, .int .i64 n, .int .u64 re, .int .u64 im, .slice A xs.length cap] (.mk k s n re im xs)

theorem TmC.mono {w w' : World} {S S' : Blk} (hw : ∀ a v, S a.block → w.cell? a = some v → w'.cell? a = some v) (hS : ∀ b, S b → S' b) {cs : List Value} {t : Tm} (h : TmC w S cs t) : TmC w' S' cs t := by
  induction h with
  | mk k s n re im A cap xs css hk hs hn hr hi hl hc hm ha ih =>
    refine .mk k s n re im A cap xs css hk hs hn hr hi hl hc (fun i c hic => ?_) ih
    obtain ⟨h1, g, o, h2, h3, h4⟩ := hm i c hic
    exact ⟨h1, g, o, h2, hS _ h3, fun j u hu => hw _ _ h3 (h4 j u hu)⟩
theorem TmC.bel {w w' : World} {S : Blk} {cs : List Value} {t : Tm} (h : TmC w S cs t) (hb : Below w.heap.size w w') : TmC w' S cs t :=
  h.mono (fun a v _ ha => (hb.cell (World.block_lt_of_cell? w a ha)).trans ha) (fun _ h => h)
theorem TmC.to {w w' : World} {S S' : Blk} {Γ : List Asn} {cs : List Value} {t : Tm} (h : TmC w S cs t) (ht : To w S w' S' Γ) : TmC w' S' cs t :=
  h.mono (fun a v ha hv => (World.cell?_of_block (w := w) (ht.kept _ ha)).trans hv) ht.sub
theorem TmC.drewN {w : World} {S : Blk} {cs : List Value} {t : Tm} (h : TmC w S cs t) (n : Nat) : TmC (w.drewN n) S cs t := TmC.mono (w := w) (w' := w.drewN n) (fun _ _ _ h => h) (fun _ h => h) h
/-- Its six cells. -/
theorem TmC.form0 {w : World} {S : Blk} {cs : List Value} {t : Tm} (h : TmC w S cs t) : ∃ A cap, cs = [.int .i64 t.k, .string t.s, .int .i64 t.n, .int .u64 t.re, .int .u64 t.im, .slice A t.xs.length cap] := by
  cases h with
  | mk k s n re im A cap xs css hk hs hn hr hi hl hc hm ha => exact ⟨A, cap, rfl⟩
/-- What is known of a term whose arguments lie from A on. -/
def Kids (w : World) (S : Blk) (A : Option Addr) (xs : List Tm) : Prop := ∀ (i : Nat) (x : Tm), xs[i]? = some x → ∃ g o A' cap', A = some ⟨g, o, none⟩ ∧ S g ∧ w.cell? ⟨g, o + i * 6, none⟩ = some (.int .i64 x.k) ∧ w.cell? ⟨g, o + i * 6 + 1, none⟩ = some (.string x.s) ∧
  w.cell? ⟨g, o + i * 6 + 2, none⟩ = some (.int .i64 x.n) ∧ w.cell? ⟨g, o + i * 6 + 3, none⟩ = some (.int .u64 x.re) ∧ w.cell? ⟨g, o + i * 6 + 4, none⟩ = some (.int .u64 x.im) ∧ w.cell? ⟨g, o + i * 6 + 5, none⟩ = some (.slice A' x.xs.length cap') ∧
  TmC w S [.int .i64 x.k, .string x.s, .int .i64 x.n, .int .u64 x.re, .int .u64 x.im, .slice A' x.xs.length cap'] x
/-- Its numbers are in range. -/
def Ranged (t : Tm) : Prop := (-9223372036854775808 ≤ t.k ∧ t.k ≤ 9223372036854775807) ∧ t.s.size ≤ 140737488351232 ∧ (-9223372036854775808 ≤ t.n ∧ t.n ≤ 9223372036854775807) ∧
    (0 ≤ t.re ∧ t.re ≤ 18446744073709551615) ∧ (0 ≤ t.im ∧ t.im ≤ 18446744073709551615) ∧ t.xs.length ≤ 140737488351232
theorem TmC.form {w : World} {S : Blk} {cs : List Value} {t : Tm} (h : TmC w S cs t) : ∃ A cap, cs = [.int .i64 t.k, .string t.s, .int .i64 t.n, .int .u64 t.re, .int .u64 t.im, .slice A t.xs.length cap] ∧ Ranged t ∧ Kids w S A t.xs := by
  cases h with
  | mk k s n re im A cap xs css hk hs hn hr hi hl hc hm ha =>
    refine ⟨A, cap, rfl, ⟨hk, hs, hn, hr, hi, hl⟩, fun i x hx => ?_⟩
    have hx' : xs[i]? = some x := hx
    have hlt := (List.getElem?_eq_some_iff.1 hx').1
    have hci : css[i]? = some (css[i]'(by omega)) := List.getElem?_eq_getElem (by omega)
    generalize css[i]'(by omega) = c at hci
    obtain ⟨h6, g, o, e, hS, hcell⟩ := hm i c hci
    have hta := ha i c x hci hx'
    obtain ⟨A', cap', rfl⟩ := hta.form0
    exact ⟨g, o, A', cap', e, hS, hcell 0 _ rfl, hcell 1 _ rfl, hcell 2 _ rfl, hcell 3 _ rfl, hcell 4 _ rfl, hcell 5 _ rfl, hta⟩
theorem TmC.of {w : World} {S : Blk} {A : Option Addr} {cap : Nat} {t : Tm} (hr : Ranged t) (hk : Kids w S A t.xs) : TmC w S [.int .i64 t.k, .string t.s, .int .i64 t.n, .int .u64 t.re, .int .u64 t.im, .slice A t.xs.length cap] t := by
  obtain ⟨k, s, n, re, im, xs⟩ := t
  obtain ⟨h1, h2, h3, h4, h5, h6⟩ := hr
  have hex : ∀ i : Nat, ∃ c : List Value, ∀ x, xs[i]? = some x → TmC w S c x ∧ c.length = 6 ∧ ∃ g o, A = some ⟨g, o, none⟩ ∧ S g ∧ ∀ (j : Nat) (u : Value), c[j]? = some u → w.cell? ⟨g, o + i * 6 + j, none⟩ = some u := by
    intro i
    by_cases hi : i < xs.length
    · obtain ⟨g, o, A', cap', e, hS, g0, g1, g2, g3, g4, g5, ht⟩ := hk i xs[i] (List.getElem?_eq_getElem hi)
      refine ⟨[.int .i64 xs[i].k, .string xs[i].s, .int .i64 xs[i].n, .int .u64 xs[i].re, .int .u64 xs[i].im, .slice A' xs[i].xs.length cap'], fun x hx => ?_⟩
      rw [List.getElem?_eq_getElem hi] at hx
      cases hx
      refine ⟨ht, rfl, g, o, e, hS, fun j u hu => ?_⟩
      match j, hu with
      | 0, hu => cases hu; exact g0
      | 1, hu => cases hu; exact g1
      | 2, hu => cases hu; exact g2
      | 3, hu => cases hu; exact g3
      | 4, hu => cases hu; exact g4
      | 5, hu => cases hu; exact g5
      | j + 6, hu => simp at hu
    · exact ⟨[], fun x hx => absurd (List.getElem?_eq_some_iff.1 hx).1 hi⟩
  obtain ⟨f, hf⟩ := Classical.axiomOfChoice hex
  refine .mk k s n re im A cap xs ((List.range xs.length).map f) h1 h2 h3 h4 h5 h6 (by simp) (fun i c hc => ?_) (fun i c t hc ht => ?_)
  · have hi : i < xs.length := by
      have := (List.getElem?_eq_some_iff.1 hc).1
      simpa using this
    have := hf i xs[i] (List.getElem?_eq_getElem hi)
    simp [hi] at hc
    subst hc
    exact ⟨this.2.1, this.2.2⟩
  · have hi : i < xs.length := (List.getElem?_eq_some_iff.1 ht).1
    have := hf i t ht
    simp [hi] at hc
    subst hc
    exact this.1
end Go.Proofs.Ytceahdlcbiialaa
