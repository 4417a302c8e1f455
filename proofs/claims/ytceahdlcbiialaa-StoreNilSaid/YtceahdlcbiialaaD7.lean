/- Put, Get, Sound of no heap, no atoms. -/
import Derived.Test.YtceahdlcbiialaaD4
set_option linter.unusedVariables false
set_option linter.unusedSimpArgs false
namespace Go.Proofs.Ytceahdlcbiialaa
open Go.RowKit

abbrev noTerm : Value := .agg #[.int .i64 0, .string ⟨#[]⟩, .int .i64 0, .int .u64 0, .int .u64 0, .slice none 0 0]
set_option maxRecDepth 100000 in
set_option maxHeartbeats 1000000 in
theorem put_noheap (k n re im : Int) (s : ByteArray) (A : Option Addr) (m cap : Nat) (q : Option Addr) (w : World) : Calls Try.prog 28 #[.pointer none, .pointer q, .agg #[.int .i64 k, .string s, .int .i64 n, .int .u64 re, .int .u64 im, .slice A m cap], .map none] w fun e w' =>
      e = .returned (.tuple #[.int .u64 0, .int .i64 1]) ∧ Below w.heap.size w w' := by
  have hb := (Below.refl w.heap.size w).alloc (Nat.le_refl _) (.cells #[.int .i64 k, .string s, .int .i64 n, .int .u64 re, .int .u64 im, .slice A m cap] 25)
  have HB := Lib.hid hb; clear hb
  go_enter Try.func28, Try.ntmps28
  go_wp2
  refine wp_goto_ghost 0 101 (fun _ _ _ => False) rfl (fun _ _ _ h => h.elim) ?_
  intro _
  go_wp2
  simp only [Exit.jump]
  go_ret2
  exact ⟨rfl, HB.out⟩
set_option maxRecDepth 100000 in
set_option maxHeartbeats 1000000 in
theorem put_noatoms (k n re im : Int) (s : ByteArray) (A : Option Addr) (m cap : Nat) (p : Nat) (w : World) : Calls Try.prog 28 #[.pointer (some ⟨p, 0, none⟩), .pointer none, .agg #[.int .i64 k, .string s, .int .i64 n, .int .u64 re, .int .u64 im, .slice A m cap], .map none] w fun e w' =>
      e = .returned (.tuple #[.int .u64 0, .int .i64 1]) ∧ Below w.heap.size w w' := by
  have hb := (Below.refl w.heap.size w).alloc (Nat.le_refl _) (.cells #[.int .i64 k, .string s, .int .i64 n, .int .u64 re, .int .u64 im, .slice A m cap] 25)
  have HB := Lib.hid hb; clear hb
  go_enter Try.func28, Try.ntmps28
  go_wp2
  refine wp_goto_ghost 0 101 (fun _ _ _ => False) rfl (fun _ _ _ h => h.elim) ?_
  intro _
  go_wp2
  simp only [Exit.jump]
  go_ret2
  exact ⟨rfl, HB.out⟩
set_option maxRecDepth 100000 in
set_option maxHeartbeats 1000000 in
theorem get_noheap (q : Option Addr) (c : Int) (w : World) : Calls Try.prog 42 #[.pointer none, .pointer q, .int .u64 c, .map none] w fun e w' =>
      e = .returned (.tuple #[noTerm, .int .i64 1]) ∧ Below w.heap.size w w' := by
  have hb := (Below.refl w.heap.size w).alloc (Nat.le_refl _) (.cells #[.int .i64 0, .string ⟨#[]⟩, .int .i64 0, .int .u64 0, .int .u64 0, .slice none 0 0] 25)
  have HB := Lib.hid hb; clear hb
  go_enter Try.func42, Try.ntmps42
  go_wp2
  refine bodyPost_ret (v := .tuple #[noTerm, .int .i64 1]) (by simp [results, Try.results42, go_sem]) rfl ?_
  exact ⟨rfl, HB.out⟩
set_option maxRecDepth 100000 in
set_option maxHeartbeats 1000000 in
theorem get_noatoms (p : Nat) (c : Int) (w : World) : Calls Try.prog 42 #[.pointer (some ⟨p, 0, none⟩), .pointer none, .int .u64 c, .map none] w fun e w' =>
      e = .returned (.tuple #[noTerm, .int .i64 1]) ∧ Below w.heap.size w w' := by
  have hb := (Below.refl w.heap.size w).alloc (Nat.le_refl _) (.cells #[.int .i64 0, .string ⟨#[]⟩, .int .i64 0, .int .u64 0, .int .u64 0, .slice none 0 0] 25)
  have HB := Lib.hid hb; clear hb
  go_enter Try.func42, Try.ntmps42
  go_wp2
  refine bodyPost_ret (v := .tuple #[noTerm, .int .i64 1]) (by simp [results, Try.results42, go_sem]) rfl ?_
  exact ⟨rfl, HB.out⟩
set_option maxRecDepth 100000 in
set_option maxHeartbeats 1000000 in
theorem sound_noheap (q : Option Addr) (c : Int) (w : World) : Calls Try.prog 50 #[.pointer none, .pointer q, .int .u64 c] w fun e w' => e = .returned (.int .i64 1) ∧ Below w.heap.size w w' := by
  have hg := (get_noheap q c w).mono (R' := fun e w' => e = .returned (.tuple #[noTerm, .int .i64 1]) ∧ Below w.heap.size w (w'.alloc (.cells #[.int .i64 0, .string ⟨#[]⟩, .int .i64 0, .int .u64 0, .int .u64 0, .slice none 0 0] 25))) (fun e w' ⟨h1, h2⟩ => ⟨h1, h2.alloc h2.size _⟩)
  have HG := Lib.hid hg; clear hg
  go_enter Try.func50, Try.ntmps50
  go_wp2_with (go_at_call 42; refine HG.out.mono ?_; rintro e w1 ⟨rfl, hb⟩; have HB := Lib.hid hb; clear hb)
  go_ret
  exact ⟨rfl, HB.out⟩
theorem To.of_below {w w' : World} {S : Blk} {Γ : List Asn} (h : Ok w S Γ) (hb : Below w.heap.size w w') : To w S w' S Γ := h.below hb

set_option maxRecDepth 100000 in
set_option maxHeartbeats 4000000 in
theorem nil_spec {w : World} {S : Blk} {Γ : List Asn} {cs : List Value} {t : Tm} (hO : Ok w S Γ) (hT : TmC w S cs t) {c : Int} (hc : (Lit.int .u64 c).wf = true) : Calls Try.prog 8 #[.agg cs.toArray, .int .u64 c] w fun e w' => e = .returned (.bool true) ∧ To w S w' S Γ := by
  obtain ⟨A, cap, rfl⟩ := hT.form0
  have h1 := hO.to.allocPt #[.int .i64 t.k, .string t.s, .int .i64 t.n, .int .u64 t.re, .int .u64 t.im, .slice A t.xs.length cap] 25
  have H1 := Lib.hid h1; clear h1 hT hO
  go_enter Try.func8, Try.ntmps8
  go_wp2_with (first
    | (go_at_call 26; refine (new_spec H1.out.ok 5 5 rfl (by omega)).mono ?_; rintro e w1 ⟨hp, rfl, h2⟩; have H2 := Lib.hid (H1.out.trans h2); clear h2)
    | (go_at_call 27; refine (anew_spec H2.out.ok).mono ?_; rintro e w2 ⟨ap, rfl, h3⟩; have h3' := H2.out.trans h3; obtain ⟨m0, m1, m2, m3, m4, m5, m6⟩ := Ok.six (t := t) h3'.ok.p2; have H3 := Lib.hid h3'; clear h3 h3'))
  refine (put_noheap _ _ _ _ _ _ _ _ _ _).mono ?_
  rintro e w3 ⟨rfl, hb⟩
  have h4 := H3.out.below hb
  obtain ⟨n0, n1, n2, n3, n4, n5, n6⟩ := Ok.six (t := t) h4.ok.p2
  have H4 := Lib.hid h4
  clear h4 hb
  clear m0 m1 m2 m3 m4 m5 m6
  go_wp2_with fail
  refine (put_noatoms _ _ _ _ _ _ _ _ _ _).mono ?_
  rintro e w4 ⟨rfl, hb⟩
  have H5 := Lib.hid (H4.out.below hb)
  clear hb n0 n1 n2 n3 n4 n5 n6
  go_wp2_with fail
  refine (get_noheap _ _ _).mono ?_
  rintro e w5 ⟨rfl, hb⟩
  have H6 := Lib.hid ((H5.out.below hb).alloc (.cells #[.int .i64 0, .string ⟨#[]⟩, .int .i64 0, .int .u64 0, .int .u64 0, .slice none 0 0] 25))
  clear hb
  go_wp2_with fail
  refine (get_noatoms _ _ _).mono ?_
  rintro e w6 ⟨rfl, hb⟩
  have H7 := Lib.hid ((H6.out.below hb).alloc (.cells #[.int .i64 0, .string ⟨#[]⟩, .int .i64 0, .int .u64 0, .int .u64 0, .slice none 0 0] 25))
  clear hb
  go_wp2_with fail
  refine (sound_noheap _ _ _).mono ?_
  rintro e w7 ⟨rfl, hb⟩
  have H8 := Lib.hid (H7.out.below hb)
  clear hb
  go_wp2_with fail
  refine (awake7_spec H8.out.ok).mono ?_
  rintro e w8 ⟨rfl, h9⟩
  have H9 := Lib.hid (H8.out.trans h9).plain.drop.drop.drop
  clear h9
  go_wp2
  go_ret
  exact ⟨rfl, H9.out⟩
#print axioms nil_spec
end Go.Proofs.Ytceahdlcbiialaa
