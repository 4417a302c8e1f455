/- Rows of terms; terms without what their kinds give no meaning. -/
import Derived.Test.YtceahdlcbiialaaA6
set_option linter.unusedVariables false
set_option linter.unusedSimpArgs false
namespace Go.Proofs.Ytceahdlcbiialaa
open Go.RowKit

/-- A term and where its arguments lie. -/
structure Tc where
  t : Tm
  A : Option Addr
  c : Nat
abbrev Tc.six (i : Tc) : List Value := [.int .i64 i.t.k, .string i.t.s, .int .i64 i.t.n, .int .u64 i.t.re, .int .u64 i.t.im, .slice i.A i.t.xs.length i.c]
def tcV : List Tc → List Value
  | [] => []
  | i :: l => i.six ++ tcV l
theorem tcV_length : ∀ l : List Tc, (tcV l).length = l.length * 6
  | [] => rfl
  | i :: l => by simp [tcV, tcV_length l]; omega
theorem tcV_append : ∀ (l r : List Tc), tcV (l ++ r) = tcV l ++ tcV r
  | [], _ => rfl
  | i :: l, r => by simp [tcV, tcV_append l r]
theorem tcV_get : ∀ (l : List Tc) (i : Nat) (x : Tc) (j : Nat) (u : Value), l[i]? = some x → x.six[j]? = some u → (tcV l)[i * 6 + j]? = some u
  | [], i, x, j, u, h, _ => by simp at h
  | y :: l, 0, x, j, u, h, hu => by
    simp at h
    subst h
    have hj := (List.getElem?_eq_some_iff.1 hu).1
    rw [tcV, List.getElem?_append_left (by simpa using hj)]
    simpa using hu
  | y :: l, i + 1, x, j, u, h, hu => by
    have := tcV_get l i x j u (by simpa using h) hu
    rw [tcV, List.getElem?_append_right (by simp; omega)]
    simp only [List.length_cons, List.length_nil]
    rw [← this]
    congr 1
    omega
/-- A row of terms is turned no more: its terms are the arguments of one. -/
theorem Ok.rowKids {w : World} {S : Blk} {Γ : List Asn} {A : Option Addr} {c : Nat} {l : List Tc} (h : Ok w S (Row (.slice A l.length c) 25 6 l.length (tcV l) :: Γ)) (hT : ∀ x ∈ l, TmC w S x.six x.t) :
    ∃ S' : Blk, To w S w S' Γ ∧ Kids w S' A (l.map (·.t)) := by
  have hown := h.rowOwns
  obtain ⟨ho, F, hF, ⟨h1, _⟩, hr⟩ := h
  refine ⟨fun b => S b ∨ F b, ⟨rfl, rfl, rfl, Nat.le_refl _, fun _ _ => rfl, fun _ h => .inl h, fun x hx => hx.elim (ho x) (fun hf => (hF x hf).2), hr⟩, ?_⟩
  intro i x hx
  simp only [List.getElem?_map] at hx
  obtain ⟨y, hy, rfl⟩ := Option.map_eq_some_iff.1 hx
  rcases hown.2 with ⟨e1, hn⟩ | ⟨g, cap, cur, e1, h3, h2, h4⟩
  · have := (List.getElem?_eq_some_iff.1 hy).1
    omega
  · cases e1
    have hc : ∀ (j : Nat) (u : Value), y.six[j]? = some u → w.cell? ⟨g, i * 6 + j, none⟩ = some u := by
      intro j u hu
      rw [← add0]
      exact hown.cells (g := g) rfl _ _ (tcV_get l i y j u hy hu)
    have hS : F g := (h1 g).2 rfl
    refine ⟨g, 0, y.A, y.c, rfl, .inr hS, ?_, ?_, ?_, ?_, ?_, ?_, (hT y (List.mem_of_getElem? hy)).mono (fun _ _ _ h => h) (fun _ h => .inl h)⟩
    · simpa using hc 0 _ rfl
    · simpa using hc 1 _ rfl
    · simpa using hc 2 _ rfl
    · simpa using hc 3 _ rfl
    · simpa using hc 4 _ rfl
    · simpa using hc 5 _ rfl
theorem info25 : (Try.prog.info? 25).map (fun i => (i.zero, i.size, i.bytes)) = some (some (.agg #[.int .i64 0, .string ⟨#[]⟩, .int .i64 0, .int .u64 0, .int .u64 0, .slice none 0 0]), 6, 72) := by kernel_rfl

/-- .. it is a term's arguments. -/
theorem Ok.rowTerm {w : World} {S : Blk} {Γ : List Asn} {A : Option Addr} {n0 c : Nat} {l : List Tc} (h : Ok w S (Row (.slice A n0 c) 25 6 n0 (tcV l) :: Γ)) (hn : l.length = n0) (hT : ∀ x ∈ l, TmC w S x.six x.t) {k n re im : Int} {s : ByteArray}
    (hr : Ranged (.mk k s n re im (l.map (·.t)))) : ∃ S' : Blk, To w S w S' Γ ∧ TmC w S' [.int .i64 k, .string s, .int .i64 n, .int .u64 re, .int .u64 im, .slice A n0 c] (.mk k s n re im (l.map (·.t))) := by
  subst hn
  obtain ⟨S', h1, h2⟩ := h.rowKids hT
  have h3 := TmC.of (cap := c) hr h2
  simp only [Tm.k, Tm.s, Tm.n, Tm.re, Tm.im, Tm.xs, List.length_map] at h3
  exact ⟨S', h1, h3⟩
/-- What a term takes when it is laid out anew. -/
theorem To.ptSet6 {w0 w : World} {S0 S : Blk} {Γ : List Asn} {b : Nat} {t : TypeId} {a0 a1 a2 a3 a4 a5 : Value} (h : To w0 S0 w S (Pt b #[a0, a1, a2, a3, a4, a5] t :: Γ)) (v0 v1 v2 v3 v4 v5 : Value) :
    To w0 S0 ((((((w.setCell ⟨b, 0, none⟩ v0).setCell ⟨b, 1, none⟩ v1).setCell ⟨b, 2, none⟩ v2).setCell ⟨b, 3, none⟩ v3).setCell ⟨b, 4, none⟩ v4).setCell ⟨b, 5, none⟩ v5) S (Pt b #[v0, v1, v2, v3, v4, v5] t :: Γ) :=
  (((((h.ptSet 0 v0).ptSet 1 v1).ptSet 2 v2).ptSet 3 v3).ptSet 4 v4).ptSet 5 v5
/-- Six cells of a block, and that they may be written. -/
theorem Ok.pt6 {w : World} {S : Blk} {Γ : List Asn} {b : Nat} {t : TypeId} {a0 a1 a2 a3 a4 a5 : Value} (h : Ok w S (Pt b #[a0, a1, a2, a3, a4, a5] t :: Γ)) :
    (w.cell? ⟨b, 0, none⟩ = some a0 ∧ w.cell? ⟨b, 1, none⟩ = some a1 ∧ w.cell? ⟨b, 2, none⟩ = some a2 ∧ w.cell? ⟨b, 3, none⟩ = some a3 ∧ w.cell? ⟨b, 4, none⟩ = some a4 ∧ w.cell? ⟨b, 5, none⟩ = some a5) ∧
    (w.frozen? ⟨b, 0, none⟩ = false ∧ w.frozen? ⟨b, 1, none⟩ = false ∧ w.frozen? ⟨b, 2, none⟩ = false ∧ w.frozen? ⟨b, 3, none⟩ = false ∧ w.frozen? ⟨b, 4, none⟩ = false ∧ w.frozen? ⟨b, 5, none⟩ = false) ∧ b < w.heap.size :=
  ⟨⟨h.ptCell 0 _ rfl, h.ptCell 1 _ rfl, h.ptCell 2 _ rfl, h.ptCell 3 _ rfl, h.ptCell 4 _ rfl, h.ptCell 5 _ rfl⟩, ⟨h.ptFree 0, h.ptFree 1, h.ptFree 2, h.ptFree 3, h.ptFree 4, h.ptFree 5⟩, h.ptLt⟩

mutual
/-- No compound has too many arguments. -/
def slim : Tm → Prop
  | .mk k _ _ _ _ xs => k = 5 → xs.length ≤ 100 ∧ slimL xs
def slimL : List Tm → Prop
  | [] => True
  | t :: r => slim t ∧ slimL r
end
theorem slimL_get : ∀ {l : List Tm} {i : Nat} {x : Tm}, slimL l → l[i]? = some x → slim x
  | t :: r, 0, x, ⟨h, _⟩, hx => by simp at hx; exact hx ▸ h
  | t :: r, i + 1, x, ⟨_, h⟩, hx => slimL_get h (by simpa using hx)
mutual
/-- A term without what its kind gives no meaning. -/
def plainT : Tm → Tm
  | .mk k s n re im xs => .mk k (if k = 2 ∨ k = 5 then s else ⟨#[]⟩) (if k = 1 ∨ k = 3 then n else 0) (if k = 4 then re else 0) (if k = 4 then im else 0) (if k = 5 then plainL xs else [])
def plainL : List Tm → List Tm
  | [] => []
  | t :: r => plainT t :: plainL r
end
theorem plainL_map : ∀ l : List Tm, plainL l = l.map plainT
  | [] => rfl
  | t :: r => by simp [plainL, plainL_map r]
end Go.Proofs.Ytceahdlcbiialaa
