/- awake of the laws on store. -/
import Derived.Test.YtceahdlcbiialaaD1
set_option linter.unusedVariables false
set_option linter.unusedSimpArgs false
namespace Go.Proofs.Ytceahdlcbiialaa
open Go.RowKit

theorem leaf_tm {w : World} {S : Blk} (k n : Int) (s : ByteArray) (h1 : 0 ≤ k ∧ k ≤ 5) (h2 : s.size ≤ 400) (h3 : -9223372036854775808 ≤ n ∧ n ≤ 9223372036854775807) : TmC w S [.int .i64 k, .string s, .int .i64 n, .int .u64 0, .int .u64 0, .slice none 0 0] (.mk k s n 0 0 []) :=
  TmC.of (t := .mk k s n 0 0 []) (A := none) (cap := 0) ⟨by simp only [Tm.k]; omega, by simp only [Tm.s]; omega, by simpa only [Tm.n] using h3, by simp [Tm.re], by simp [Tm.im], by simp [Tm.xs]⟩ (fun i x hx => by simp [Tm.xs] at hx)
/-- The cells of f's three arguments. -/
def ArgsAt (w : World) (g : Nat) : Prop :=
  w.heap[g]? = some (.cells #[.int .i64 1, .string ⟨#[]⟩, .int .i64 0, .int .u64 0, .int .u64 0, .slice none 0 0, .int .i64 2, .string ⟨#[97]⟩, .int .i64 0, .int .u64 0, .int .u64 0, .slice none 0 0, .int .i64 1, .string ⟨#[]⟩, .int .i64 0, .int .u64 0, .int .u64 0, .slice none 0 0] 25 (0, 0))
theorem awake_tm {w : World} {S : Blk} {g : Nat} (hS : S g) (hc : ArgsAt w g) : TmC w S [.int .i64 5, .string ⟨#[102]⟩, .int .i64 0, .int .u64 0, .int .u64 0, .slice (some ⟨g, 0, none⟩) 3 3] awakeT := by
  refine TmC.of (t := awakeT) (A := some ⟨g, 0, none⟩) (cap := 3) ⟨by simp [awakeT, Tm.k], by simp only [awakeT, Tm.s]; decide, by simp [awakeT, Tm.n], by simp [awakeT, Tm.re], by simp [awakeT, Tm.im], by simp [awakeT, Tm.xs]⟩ ?_
  intro i x hx
  have hcell : ∀ (j : Nat) (v : Value), #[Value.int .i64 1, .string ⟨#[]⟩, .int .i64 0, .int .u64 0, .int .u64 0, .slice none 0 0, .int .i64 2, .string ⟨#[97]⟩, .int .i64 0, .int .u64 0, .int .u64 0, .slice none 0 0, .int .i64 1, .string ⟨#[]⟩, .int .i64 0, .int .u64 0, .int .u64 0, .slice none 0 0][j]? = some v → w.cell? ⟨g, j, none⟩ = some v := by
    intro j v hj
    unfold ArgsAt at hc
    simp [World.cell?, hc, hj]
  have hlt := (List.getElem?_eq_some_iff.1 hx).1
  simp [awakeT, Tm.xs] at hlt
  match i, hlt with
  | 0, _ =>
    simp [awakeT, Tm.xs] at hx
    subst hx
    exact ⟨g, 0, none, 0, rfl, hS, hcell 0 _ rfl, hcell 1 _ rfl, hcell 2 _ rfl, hcell 3 _ rfl, hcell 4 _ rfl, hcell 5 _ rfl, leaf_tm 1 0 _ (by omega) (by decide) (by omega)⟩
  | 1, _ =>
    simp [awakeT, Tm.xs] at hx
    subst hx
    exact ⟨g, 0, none, 0, rfl, hS, hcell 6 _ rfl, hcell 7 _ rfl, hcell 8 _ rfl, hcell 9 _ rfl, hcell 10 _ rfl, hcell 11 _ rfl, leaf_tm 2 0 _ (by omega) (by decide) (by omega)⟩
  | 2, _ =>
    simp [awakeT, Tm.xs] at hx
    subst hx
    exact ⟨g, 0, none, 0, rfl, hS, hcell 12 _ rfl, hcell 13 _ rfl, hcell 14 _ rfl, hcell 15 _ rfl, hcell 16 _ rfl, hcell 17 _ rfl, leaf_tm 1 0 _ (by omega) (by decide) (by omega)⟩

abbrev six0 : Array Value := #[.int .i64 1, .string ⟨#[]⟩, .int .i64 0, .int .u64 0, .int .u64 0, .slice none 0 0]
theorem six_of {X : World} {g : Nat} (h : X.heap[g]? = some (.cells six0 25 (0, 0))) : X.cell? ⟨g, 0, none⟩ = some (.int .i64 1) ∧ X.cell? ⟨g, 1, none⟩ = some (.string ⟨#[]⟩) ∧ X.cell? ⟨g, 2, none⟩ = some (.int .i64 0) ∧ X.cell? ⟨g, 3, none⟩ = some (.int .u64 0) ∧ X.cell? ⟨g, 4, none⟩ = some (.int .u64 0) ∧ X.cell? ⟨g, 5, none⟩ = some (.slice none 0 0) := by
  simp [World.cell?, h]
theorem awake_call {w w2 wC : World} {S : Blk} {Γ : List Asn} {p a g g3 : Nat} (hN : To w S w2 S (AtomsA a names0 :: HeapA p 50 [] :: Γ)) (hB : Below w2.heap.size w2 wC) (hg1 : w2.heap.size ≤ g) (hg2 : g < wC.heap.size) (hA : ArgsAt wC g)
    (h1 : w2.heap.size ≤ g3) (h2 : g3 < wC.heap.size) (h3 : wC.heap[g3]? = some (.cells six0 25 (0, 0))) :
    Calls Try.prog 28 #[.pointer (some ⟨p, 0, none⟩), .pointer (some ⟨a, 0, none⟩), .agg #[.int .i64 5, .string ⟨#[102]⟩, .int .i64 0, .int .u64 0, .int .u64 0, .slice (some ⟨g, 0, none⟩) 3 3], .map none] wC fun e wP =>
      e = .returned (.tuple #[.int .u64 (mkc 1 0 : Nat), .int .i64 (0 : Nat)]) ∧ Hid (To w S wP S (HeapA p 50 [fun6 2 3, mkc 0 1, mkc 2 3, mkc 0 1] :: Γ)) ∧ wP.heap[g3]? = some (.cells six0 25 (0, 0)) := by
  have hs := hN.belowSeal hB
  have hp := put_nil hs.ok.p1 (awake_tm (S := keepNew S w2.heap.size wC.heap.size) (.inr ⟨hg1, hg2⟩) hA)
  rw [awake_put] at hp
  refine hp.mono ?_
  rintro e wP ⟨rfl, hT⟩
  exact ⟨rfl, Lib.hid (hs.trans hT).plain.p1.drop, (hT.kept g3 (.inr ⟨h1, h2⟩)).trans h3⟩

set_option maxRecDepth 100000 in
set_option maxHeartbeats 8000000 in
theorem awake7_spec {w : World} {S : Blk} {Γ : List Asn} (hO : Ok w S Γ) : Calls Try.prog 25 #[] w fun e w' => e = .returned (.bool true) ∧ To w S w' S Γ := by
  have H := Lib.hid hO; clear hO
  go_enter Try.func25, Try.ntmps25
  go_wp2_with (first | (go_at_call 26; refine (new_spec H.out 50 50 rfl (by omega)).mono ?_; rintro e w1 ⟨p, rfl, h1⟩) | (go_at_call 27; refine (anew_spec h1.ok).mono ?_; rintro e w2 ⟨a, rfl, h2⟩) | (go_at_call 35; refine (Var_spec 0 _).mono ?_; rintro e wV ⟨rfl, hV⟩))
  have hN := h1.trans h2
  have HN := Lib.hid hN; clear hN h1 h2
  have hB3 := hV.alloc hV.size (.cells #[.int .i64 1, .string ⟨#[]⟩, .int .i64 0, .int .u64 0, .int .u64 0, .slice none 0 0] 25)
  have b0 : (wV.alloc (.cells #[.int .i64 1, .string ⟨#[]⟩, .int .i64 0, .int .u64 0, .int .u64 0, .slice none 0 0] 25)).heap[wV.heap.size]? = some (.cells #[.int .i64 1, .string ⟨#[]⟩, .int .i64 0, .int .u64 0, .int .u64 0, .slice none 0 0] 25 (0, 0)) := World.alloc_heap_new wV _
  have hz : (wV.alloc (.cells #[.int .i64 1, .string ⟨#[]⟩, .int .i64 0, .int .u64 0, .int .u64 0, .slice none 0 0] 25)).heap.size = wV.heap.size + 1 := by simp
  generalize wV.alloc (.cells #[.int .i64 1, .string ⟨#[]⟩, .int .i64 0, .int .u64 0, .int .u64 0, .slice none 0 0] 25) = W3 at hB3 b0 hz ⊢
  have hg3 := hV.size
  clear hV
  generalize wV.heap.size = g3 at b0 hz hg3 ⊢
  have hs3 := hB3.size
  have B0 := Lib.hid b0
  have HB3 := Lib.hid hB3; clear hB3
  have HATOM : Hid (Calls Try.prog 76 #[.string ⟨#[97]⟩] W3.drew fun e wA => e = .returned (.agg #[.int .i64 2, .string ⟨#[97]⟩, .int .i64 0, .int .u64 0, .int .u64 0, .slice none 0 0]) ∧ Hid (Below w2.heap.size w2 wA ∧ g3 < wA.heap.size ∧ wA.heap[g3]? = some (.cells six0 25 (0, 0))) ∧
      wA.cell? ⟨g3, 0, none⟩ = some (.int .i64 1) ∧ wA.cell? ⟨g3, 1, none⟩ = some (.string ⟨#[]⟩) ∧ wA.cell? ⟨g3, 2, none⟩ = some (.int .i64 0) ∧ wA.cell? ⟨g3, 3, none⟩ = some (.int .u64 0) ∧ wA.cell? ⟨g3, 4, none⟩ = some (.int .u64 0) ∧ wA.cell? ⟨g3, 5, none⟩ = some (.slice none 0 0)) := by
    refine Lib.hid ((Atom_spec ⟨#[97]⟩ W3.drew).mono ?_)
    rintro e wA ⟨h1, hA⟩
    have hW : W3.drew.heap.size = W3.heap.size := rfl
    have za := hA.size
    have a0 := (hA.block g3 (by omega)).trans b0
    have hd : Below w2.heap.size W3 W3.drew := ⟨rfl, rfl, rfl, Nat.le_refl _, fun _ _ => rfl⟩
    have hA' : Below w2.heap.size W3.drew wA := hA.mono (by omega)
    exact ⟨h1, Lib.hid ⟨(HB3.out.trans hd).trans hA', by omega, a0⟩, six_of a0⟩
  have HCOMP : Hid (∀ wA : World, Below w2.heap.size w2 wA ∧ g3 < wA.heap.size ∧ wA.heap[g3]? = some (.cells six0 25 (0, 0)) →
      Calls Try.prog 57 #[.string ⟨#[102]⟩, .slice (some ⟨wA.heap.size, 0, none⟩) 3 3] (wA.alloc (.cells #[.int .i64 1, .string ⟨#[]⟩, .int .i64 0, .int .u64 0, .int .u64 0, .slice none 0 0, .int .i64 2, .string ⟨#[97]⟩, .int .i64 0, .int .u64 0, .int .u64 0, .slice none 0 0, .int .i64 1, .string ⟨#[]⟩, .int .i64 0, .int .u64 0, .int .u64 0, .slice none 0 0] 25)) fun e wC => e = .returned (.agg #[.int .i64 5, .string ⟨#[102]⟩, .int .i64 0, .int .u64 0, .int .u64 0, .slice (some ⟨wA.heap.size, 0, none⟩) 3 3]) ∧
        Hid (Below w2.heap.size w2 wC ∧ w2.heap.size ≤ wA.heap.size ∧ wA.heap.size < wC.heap.size ∧ ArgsAt wC wA.heap.size ∧ g3 < wC.heap.size ∧ wC.heap[g3]? = some (.cells six0 25 (0, 0))) ∧
      wC.cell? ⟨g3, 0, none⟩ = some (.int .i64 1) ∧ wC.cell? ⟨g3, 1, none⟩ = some (.string ⟨#[]⟩) ∧ wC.cell? ⟨g3, 2, none⟩ = some (.int .i64 0) ∧ wC.cell? ⟨g3, 3, none⟩ = some (.int .u64 0) ∧ wC.cell? ⟨g3, 4, none⟩ = some (.int .u64 0) ∧ wC.cell? ⟨g3, 5, none⟩ = some (.slice none 0 0)) := by
    refine Lib.hid fun wA ⟨hb, hlt, h0⟩ => (Comp_spec ⟨#[102]⟩ _ 3 3 _).mono ?_
    rintro e wC ⟨h1, hC⟩
    have hs := hb.size
    have ya : (wA.alloc (.cells #[.int .i64 1, .string ⟨#[]⟩, .int .i64 0, .int .u64 0, .int .u64 0, .slice none 0 0, .int .i64 2, .string ⟨#[97]⟩, .int .i64 0, .int .u64 0, .int .u64 0, .slice none 0 0, .int .i64 1, .string ⟨#[]⟩, .int .i64 0, .int .u64 0, .int .u64 0, .slice none 0 0] 25)).heap.size = wA.heap.size + 1 := by simp
    have zc := hC.size
    have q0 := (hC.block g3 (by omega)).trans ((Below.heap_alloc wA _ g3 hlt).trans h0)
    exact ⟨h1, Lib.hid ⟨(hb.alloc hs _).trans (hC.mono (by omega)), hs, by omega, (hC.block _ (by omega)).trans (World.alloc_heap_new wA _), by omega, q0⟩, six_of q0⟩
  have HPUT : Hid (∀ wA wC : World, Below w2.heap.size w2 wC ∧ w2.heap.size ≤ wA.heap.size ∧ wA.heap.size < wC.heap.size ∧ ArgsAt wC wA.heap.size ∧ g3 < wC.heap.size ∧ wC.heap[g3]? = some (.cells six0 25 (0, 0)) →
      Calls Try.prog 28 #[.pointer (some ⟨p, 0, none⟩), .pointer (some ⟨a, 0, none⟩), .agg #[.int .i64 5, .string ⟨#[102]⟩, .int .i64 0, .int .u64 0, .int .u64 0, .slice (some ⟨wA.heap.size, 0, none⟩) 3 3], .map none] wC fun e wP =>
        e = .returned (.tuple #[.int .u64 (mkc 1 0 : Nat), .int .i64 (0 : Nat)]) ∧ Hid (To w S wP S (HeapA p 50 [fun6 2 3, mkc 0 1, mkc 2 3, mkc 0 1] :: Γ)) ∧
      wP.cell? ⟨g3, 0, none⟩ = some (.int .i64 1) ∧ wP.cell? ⟨g3, 1, none⟩ = some (.string ⟨#[]⟩) ∧ wP.cell? ⟨g3, 2, none⟩ = some (.int .i64 0) ∧ wP.cell? ⟨g3, 3, none⟩ = some (.int .u64 0) ∧ wP.cell? ⟨g3, 4, none⟩ = some (.int .u64 0) ∧ wP.cell? ⟨g3, 5, none⟩ = some (.slice none 0 0)) := by
    refine Lib.hid fun wA wC ⟨h1, h2, h3, h4, h5, h6⟩ => (awake_call HN.out h1 h2 h3 h4 hg3 h5 h6).mono ?_
    rintro e wP ⟨k1, k2, k3⟩
    exact ⟨k1, k2, six_of k3⟩
  obtain ⟨k0, k1, k2, k3, k4, k5⟩ := six_of b0
  go_region_held3 (fun X => X.cell? ⟨g3, 0, none⟩ = some (.int .i64 1) ∧ X.cell? ⟨g3, 1, none⟩ = some (.string ⟨#[]⟩) ∧ X.cell? ⟨g3, 2, none⟩ = some (.int .i64 0) ∧ X.cell? ⟨g3, 3, none⟩ = some (.int .u64 0) ∧ X.cell? ⟨g3, 4, none⟩ = some (.int .u64 0) ∧ X.cell? ⟨g3, 5, none⟩ = some (.slice none 0 0)) (go_keep) (first | (go_at_call 76; refine HATOM.out.mono ?_; rintro e wA ⟨rfl, FA, m0, m1, m2, m3, m4, m5⟩) | (go_at_call 57; refine (HCOMP.out wA FA.out).mono ?_; rintro e wC ⟨rfl, FC, n0, n1, n2, n3, n4, n5⟩) | (go_at_call 28; refine (HPUT.out wA wC FC.out).mono ?_; rintro e wP ⟨rfl, HP, r0, r1, r2, r3, r4, r5⟩))
  have hr := HP.out.ok.heapAR
  have HR := Lib.hid hr; clear hr
  go_wp2_with (first | (go_at_call 36; refine (get_in HR.out 3 (mkc 0 1) rfl rfl).mono ?_; rintro e w' ⟨rfl, hww⟩; subst w') | (go_at_call 31; refine (len_spec HR.out).mono ?_; rintro e w' ⟨rfl, hww⟩; subst w') | (go_at_call 85; refine (rmake_spec 1 0 rfl rfl (by omega) (by omega) _).mono ?_; rintro e w' ⟨rfl, hww⟩; subst w') | (go_at_call 85; refine (rmake_spec 0 1 rfl rfl (by omega) (by omega) _).mono ?_; rintro e w' ⟨rfl, hww⟩; subst w'))
  go_ret
  exact ⟨rfl, HP.out.drop⟩
#print axioms awake7_spec
end Go.Proofs.Ytceahdlcbiialaa
