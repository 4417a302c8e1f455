/- store.Get, store.Sound. The reference's getter: its state, names, functors; the terms it makes. -/
import Derived.Test.YtceahdlcbiialaaF5M24
import Derived.Test.YtceahdlcbiialaaF5M22
set_option linter.unusedVariables false
set_option linter.unusedSimpArgs false
namespace Go.Proofs.Ytceahdlcbiialaa
open Go.RowKit

@[local go_sem] theorem eql_map71n (w : World) : (binOp .eql 71 (.map none) (.map none)).run Try.prog w = .ok (.bool true) w := by kernel_rfl
@[local go_sem] theorem eql_map71s (m : Nat) (w : World) : (binOp .eql 71 (.map (some m)) (.map none)).run Try.prog w = .ok (.bool false) w := by kernel_rfl
/-- What Get answers. -/
def GetQ (w : World) (S : Blk) (Γ : List Asn) (res : Tm × Nat) (e : Ending) (w' : World) : Prop :=
  ∃ (tc : Tc) (S' : Blk), tc.t = res.1 ∧ e = .returned (.tuple #[.agg tc.six.toArray, .int .i64 (res.2 : Int)]) ∧ To w S w' S' Γ ∧ TmC w' S' tc.six tc.t
theorem get_res {w w3 W : World} {S S3 : Blk} {r h a m most b : Nat} {C : List Nat} {L : List ByteArray} {Γ Δ : List Asn} {res : (Tm × Nat) × RS} {k n re im : Int} {sx : ByteArray} {xs : List Tm} {A : Option Addr} {cp : Nat} {err : Int}
    (hq : (Tm.mk k sx n re im xs) = res.1.1) (he : err = (res.1.2 : Int)) (h3 : To w S W S3 Δ) (hk : TmC W S3 [.int .i64 k, .string sx, .int .i64 n, .int .u64 re, .int .u64 im, .slice A xs.length cp] (.mk k sx n re im xs)) :
    GetQ w S Δ res.1 (.returned (.tuple #[.agg #[.int .i64 k, .string sx, .int .i64 n, .int .u64 re, .int .u64 im, .slice A xs.length cp], .int .i64 err])) W := by
  subst he
  exact ⟨⟨.mk k sx n re im xs, A, cp⟩, S3, hq, rfl, h3, hk⟩
section
variable {w : World} {S : Blk} {Γ : List Asn} {h a most : Nat} {C : List Nat} {L : List ByteArray}
set_option maxRecDepth 100000 in
set_option maxHeartbeats 2000000 in
theorem get_nil (hO : Ok w S (HeapA h most C :: AtomsA a L :: Γ)) (c : Nat) (hc : c < 18446744073709551616) {c' : Int} (ec : c' = c) :
    Calls Try.prog 42 #[.pointer (some ⟨h, 0, none⟩), .pointer (some ⟨a, 0, none⟩), .int .u64 c', .map none] w (GetQ w S (HeapA h most C :: AtomsA a L :: Γ) (rd C L 500 c ⟨[], 0⟩).1) := by
  subst ec
  have h1 : To w S (((w.alloc (.cells zero6 25)).alloc (.map #[] 0)).alloc (.cells #[.pointer (some ⟨h, 0, none⟩), .pointer (some ⟨a, 0, none⟩), .map (some (w.heap.size + 1)), .int .i64 0] 139)) S (ReadG (w.heap.size + 1 + 1) h a (w.heap.size + 1) most C L ⟨[], 0⟩ (Pt w.heap.size zero6 25 :: Γ)) :=
    (((hO.to.allocPt' zero6 25 w.heap.size rfl).allocMap' (enc := encN) (val := encN) (w.heap.size + 1) (by simp)).allocPt' #[.pointer (some ⟨h, 0, none⟩), .pointer (some ⟨a, 0, none⟩), .map (some (w.heap.size + 1)), .int .i64 0] 139 (w.heap.size + 1 + 1) (by simp)).p1.p4.p4
  have hcall := rterm_spec (C := C) (L := L) 500 (by omega) _ S _ _ h a _ most ⟨[], 0⟩ c 1 h1.ok hc ⟨(fun x hx => by cases hx), (by simp), (by simp)⟩ (by omega)
  obtain ⟨RES, hres⟩ : ∃ RES, RES = rd C L 500 c ⟨[], 0⟩ := ⟨_, rfl⟩
  rw [← hres] at hcall ⊢
  have HC := Lib.hid hcall
  have H1 := Lib.hid h1
  have hmm := @run_makeMap Try.prog
  clear hcall h1 hO hres
  go_enter Try.func42, Try.ntmps42
  go_wp2_with fail
  refine HC.out.mono ?_
  rintro e w3 ⟨tc, S3, hq, rfl, h3, hk⟩
  clear HC
  obtain ⟨⟨k, sx, n, re, im, xs⟩, A, cp⟩ := tc
  simp only [Tc.six, Tm.k, Tm.s, Tm.n, Tm.re, Tm.im, Tm.xs] at hk
  obtain ⟨⟨z0, z1, z2, z3, z4, z5⟩, ⟨y0, y1, y2, y3, y4, y5⟩, y6⟩ := h3.p4.ok.pt6
  have h4 := (h3.ok.to.p4.ptSet6 (.int .i64 k) (.string sx) (.int .i64 n) (.int .u64 re) (.int .u64 im) (.slice A xs.length cp)).drop.p2.drop.p2.drop
  have h5 := get_res (h := h) (a := a) (r := 0) (m := 0) (most := most) (b := 0) (C := C) (L := L) (Γ := Γ) (w3 := w3) hq rfl ((H1.out.trans h3).trans h4) (hk.to h4)
  have H5 := Lib.hid h5
  clear h5 h4 h3 hk H1 hq
  go_wp2
  refine bodyPost_ret (v := .tuple #[.agg #[.int .i64 k, .string sx, .int .i64 n, .int .u64 re, .int .u64 im, .slice A xs.length cp], .int .i64 (RES.1.2 : Int)]) (by simp [results, Try.results42, Tm.k, Tm.s, Tm.n, Tm.re, Tm.im, Tm.xs, *, go_sem]) rfl ?_
  exact H5.out
set_option maxRecDepth 100000 in
set_option maxHeartbeats 2000000 in
theorem get_map {m : Nat} {V : List (Nat × Nat)} (hO : Ok w S (HeapA h most C :: AtomsA a L :: NumA m V :: Γ)) (hV : ∀ x ∈ V, x.2 ≤ 1000000) (hl : V.length + 2000 ≤ 1000000) (c : Nat) (hc : c < 18446744073709551616) {c' : Int} (ec : c' = c) :
    Calls Try.prog 42 #[.pointer (some ⟨h, 0, none⟩), .pointer (some ⟨a, 0, none⟩), .int .u64 c', .map (some m)] w (GetQ w S (HeapA h most C :: AtomsA a L :: NumA m (rd C L 500 c ⟨V, 0⟩).2.V :: Γ) (rd C L 500 c ⟨V, 0⟩).1) := by
  subst ec
  have h1 : To w S ((w.alloc (.cells zero6 25)).alloc (.cells #[.pointer (some ⟨h, 0, none⟩), .pointer (some ⟨a, 0, none⟩), .map (some m), .int .i64 0] 139)) S (ReadG (w.heap.size + 1) h a m most C L ⟨V, 0⟩ (Pt w.heap.size zero6 25 :: Γ)) :=
    ((hO.to.allocPt' zero6 25 w.heap.size rfl).allocPt' #[.pointer (some ⟨h, 0, none⟩), .pointer (some ⟨a, 0, none⟩), .map (some m), .int .i64 0] 139 (w.heap.size + 1) (by simp)).p4.p4.p4
  have hcall := rterm_spec (C := C) (L := L) 500 (by omega) _ S _ _ h a _ most ⟨V, 0⟩ c 1 h1.ok hc ⟨hV, (by simp only; omega), (by simp)⟩ (by omega)
  obtain ⟨RES, hres⟩ : ∃ RES, RES = rd C L 500 c ⟨V, 0⟩ := ⟨_, rfl⟩
  rw [← hres] at hcall ⊢
  have HC := Lib.hid hcall
  have H1 := Lib.hid h1
  clear hcall h1 hO hres hV hl
  go_enter Try.func42, Try.ntmps42
  go_wp2_with fail
  refine HC.out.mono ?_
  rintro e w3 ⟨tc, S3, hq, rfl, h3, hk⟩
  clear HC
  obtain ⟨⟨k, sx, n, re, im, xs⟩, A, cp⟩ := tc
  simp only [Tc.six, Tm.k, Tm.s, Tm.n, Tm.re, Tm.im, Tm.xs] at hk
  obtain ⟨⟨z0, z1, z2, z3, z4, z5⟩, ⟨y0, y1, y2, y3, y4, y5⟩, y6⟩ := h3.p4.ok.pt6
  have h4 := (h3.ok.to.p4.ptSet6 (.int .i64 k) (.string sx) (.int .i64 n) (.int .u64 re) (.int .u64 im) (.slice A xs.length cp)).drop.p3.drop
  have h5 := get_res (h := h) (a := a) (r := 0) (m := 0) (most := most) (b := 0) (C := C) (L := L) (Γ := Γ) (w3 := w3) hq rfl ((H1.out.trans h3).trans h4) (hk.to h4)
  have H5 := Lib.hid h5
  clear h5 h4 h3 hk H1 hq
  go_wp2
  refine bodyPost_ret (v := .tuple #[.agg #[.int .i64 k, .string sx, .int .i64 n, .int .u64 re, .int .u64 im, .slice A xs.length cp], .int .i64 (RES.1.2 : Int)]) (by simp [results, Try.results42, Tm.k, Tm.s, Tm.n, Tm.re, Tm.im, Tm.xs, *, go_sem]) rfl ?_
  exact H5.out
set_option maxRecDepth 100000 in
set_option maxHeartbeats 2000000 in
theorem sound_spec (hO : Ok w S (HeapA h most C :: AtomsA a L :: Γ)) (c : Nat) (hc : c < 18446744073709551616) {c' : Int} (ec : c' = c) :
    Calls Try.prog 50 #[.pointer (some ⟨h, 0, none⟩), .pointer (some ⟨a, 0, none⟩), .int .u64 c'] w fun e w' => ∃ S', e = .returned (.int .i64 ((rd C L 500 c ⟨[], 0⟩).1.2 : Int)) ∧ To w S w' S' (HeapA h most C :: AtomsA a L :: Γ) := by
  subst ec
  have hcall := get_nil hO c hc rfl
  obtain ⟨RES, hres⟩ : ∃ RES, RES = rd C L 500 c ⟨[], 0⟩ := ⟨_, rfl⟩
  rw [← hres] at hcall ⊢
  have HC := Lib.hid hcall
  clear hcall hO hres
  go_enter Try.func50, Try.ntmps50
  go_wp2_with fail
  refine HC.out.mono ?_
  rintro e w3 ⟨tc, S3, hq, rfl, h3, hk⟩
  clear HC
  obtain ⟨⟨k, sx, n, re, im, xs⟩, A, cp⟩ := tc
  have H4 := Lib.hid (h3.alloc (.cells #[.int .i64 k, .string sx, .int .i64 n, .int .u64 re, .int .u64 im, .slice A xs.length cp] 25))
  clear h3 hk
  simp only [Tc.six, Tm.k, Tm.s, Tm.n, Tm.re, Tm.im, Tm.xs]
  go_wp2
  go_ret
  exact ⟨rfl, S3, H4.out⟩
end
#print axioms get_map
end Go.Proofs.Ytceahdlcbiialaa
set_option linter.unusedVariables false
set_option linter.unusedSimpArgs false
namespace Go.Proofs.Ytceahdlcbiialaa
open Go.RowKit

abbrev ReadB (g h a m most : Nat) (C : List Nat) (L : List ByteArray) (s : RS) (e : Nat) (Γ : List Asn) : List Asn :=
  HeapB h most C :: AtomsB a L :: NumA m s.V :: Pt g #[.pointer (some ⟨h, 0, none⟩), .pointer (some ⟨a, 0, none⟩), .map (some m), .int .i64 (s.n : Int), .int .i64 (e : Int)] 145 :: Γ
section
variable {w : World} {S : Blk} {Γ : List Asn}
set_option maxRecDepth 100000 in
set_option maxHeartbeats 400000 in
theorem r1var_spec (hO : Ok w S Γ) (n : Int) : Calls Try.prog 35 #[.int .i64 n] w fun e w' => e = .returned (.agg #[.int .i64 1, .string ⟨#[]⟩, .int .i64 n, .int .u64 0, .int .u64 0, .slice none 0 0]) ∧ To w S w' S Γ := by
  have H := Lib.hid (hO.to.alloc (.cells #[.int .i64 1, .string ⟨#[]⟩, .int .i64 n, .int .u64 0, .int .u64 0, .slice none 0 0] 25))
  clear hO
  go_enter Try.func35, Try.ntmps35
  go_wp2
  refine bodyPost_ret (v := .agg #[.int .i64 1, .string ⟨#[]⟩, .int .i64 n, .int .u64 0, .int .u64 0, .slice none 0 0]) (by simp [results, Try.results35, *, go_sem]) rfl ?_
  exact ⟨rfl, H.out⟩
set_option maxRecDepth 100000 in
set_option maxHeartbeats 400000 in
theorem r1int_spec (hO : Ok w S Γ) (n : Int) : Calls Try.prog 136 #[.int .i64 n] w fun e w' => e = .returned (.agg #[.int .i64 3, .string ⟨#[]⟩, .int .i64 n, .int .u64 0, .int .u64 0, .slice none 0 0]) ∧ To w S w' S Γ := by
  have H := Lib.hid (hO.to.alloc (.cells #[.int .i64 3, .string ⟨#[]⟩, .int .i64 n, .int .u64 0, .int .u64 0, .slice none 0 0] 25))
  clear hO
  go_enter Try.func136, Try.ntmps136
  go_wp2
  refine bodyPost_ret (v := .agg #[.int .i64 3, .string ⟨#[]⟩, .int .i64 n, .int .u64 0, .int .u64 0, .slice none 0 0]) (by simp [results, Try.results136, *, go_sem]) rfl ?_
  exact ⟨rfl, H.out⟩
set_option maxRecDepth 100000 in
set_option maxHeartbeats 400000 in
theorem r1atom_spec (hO : Ok w S Γ) (s : ByteArray) : Calls Try.prog 76 #[.string s] w fun e w' => e = .returned (.agg #[.int .i64 2, .string s, .int .i64 0, .int .u64 0, .int .u64 0, .slice none 0 0]) ∧ To w S w' S Γ := by
  have H := Lib.hid (hO.to.alloc (.cells #[.int .i64 2, .string s, .int .i64 0, .int .u64 0, .int .u64 0, .slice none 0 0] 25))
  clear hO
  go_enter Try.func76, Try.ntmps76
  go_wp2
  refine bodyPost_ret (v := .agg #[.int .i64 2, .string s, .int .i64 0, .int .u64 0, .int .u64 0, .slice none 0 0]) (by simp [results, Try.results76, *, go_sem]) rfl ?_
  exact ⟨rfl, H.out⟩
end
section
variable {w : World} {S : Blk} {Γ : List Asn} {g h a m most : Nat} {C : List Nat} {L : List ByteArray} {s : RS} {e0 : Nat}
theorem Ok.readB (hO : Ok w S (ReadB g h a m most C L s e0 Γ)) : w.cell? ⟨g, 0, none⟩ = some (.pointer (some ⟨h, 0, none⟩)) ∧ w.cell? ⟨g, 1, none⟩ = some (.pointer (some ⟨a, 0, none⟩)) ∧ w.cell? ⟨g, 2, none⟩ = some (.map (some m)) ∧ w.cell? ⟨g, 3, none⟩ = some (.int .i64 (s.n : Int)) ∧ w.cell? ⟨g, 4, none⟩ = some (.int .i64 (e0 : Int)) ∧ (w.frozen? ⟨g, 3, none⟩ = false ∧ w.frozen? ⟨g, 4, none⟩ = false) ∧ g < w.heap.size :=
  ⟨hO.p3.ptCell 0 _ rfl, hO.p3.ptCell 1 _ rfl, hO.p3.ptCell 2 _ rfl, hO.p3.ptCell 3 _ rfl, hO.p3.ptCell 4 _ rfl, ⟨hO.p3.ptFree 3, hO.p3.ptFree 4⟩, hO.p3.ptLt⟩
/-- What is wrong, and how many, written. -/
theorem Ok.readErr (hO : Ok w S (ReadB g h a m most C L s e0 Γ)) (e : Nat) : To w S (w.setCell ⟨g, 4, none⟩ (.int .i64 (e : Int))) S (ReadB g h a m most C L s e Γ) := (hO.p3.ptSet 4 (.int .i64 (e : Int))).p3.p3.p3
set_option maxRecDepth 100000 in
set_option maxHeartbeats 400000 in
theorem gname_in (hO : Ok w S (ReadB g h a m most C L s e0 Γ)) {i' : Int} (i : Nat) (x : ByteArray) (hi : i' = i) (hx : L[i]? = some x) :
    Calls Try.prog 135 #[.pointer (some ⟨g, 0, none⟩), .int .u64 i'] w fun e w' => e = .returned (.string x) ∧ w' = w := by
  subst hi
  obtain ⟨⟨A, c, h1, h2⟩, h4⟩ := hO.p1.atomsBR
  obtain ⟨ad, rfl, hc⟩ := h2 i x hx
  have hi := (List.getElem?_eq_some_iff.1 hx).1
  have hn : L.length ≤ 4096 := h4.1
  obtain ⟨-, k1, -⟩ := hO.readB
  clear h2 h4 hx hO
  go_enter Try.func135, Try.ntmps135
  go_wp2
  go_ret
  exact ⟨rfl, rfl⟩
set_option maxRecDepth 100000 in
set_option maxHeartbeats 400000 in
theorem gname_out (hO : Ok w S (ReadB g h a m most C L s e0 Γ)) {i' : Int} (i : Nat) (hi : i' = i) (hx : L.length ≤ i) :
    Calls Try.prog 135 #[.pointer (some ⟨g, 0, none⟩), .int .u64 i'] w fun e w' => e = .returned (.string ⟨#[]⟩) ∧ To w S w' S (ReadB g h a m most C L s 2 Γ) := by
  subst hi
  obtain ⟨⟨A, c, h1, h2⟩, h4⟩ := hO.p1.atomsBR
  have hn : L.length ≤ 4096 := h4.1
  obtain ⟨-, k1, -, -, k4, ⟨-, k5⟩, k6⟩ := hO.readB
  have H := Lib.hid (hO.readErr 2)
  clear h2 h4 hO
  go_enter Try.func135, Try.ntmps135
  go_wp2
  go_ret
  exact ⟨rfl, H.out⟩
end
/-- A structure's functor, where all of it is there. -/
def funR (C : List Nat) (d : Nat) : Option (Nat × Nat) := match C[vl d]? with
  | none => none
  | some f => if tg f = 6 ∧ 1 ≤ fArity f ∧ fArity f ≤ 20 ∧ vl d + fArity f < C.length then some (fAtom f, fArity f) else none
theorem funAt_funR (C : List Nat) (L : List ByteArray) (d : Nat) : funAt C L d = match funR C d with | none => none | some (at', n) => match L[at']? with | none => none | some s => some (s, n) := by
  unfold funAt funR
  cases hx : C[vl d]? with
  | none => rfl
  | some f =>
    dsimp only
    by_cases h6 : tg f = 6
    · rw [if_neg (fun hh => hh h6)]
      by_cases hc : 1 ≤ fArity f ∧ fArity f ≤ 20 ∧ vl d + fArity f < C.length
      · rw [if_pos ⟨h6, hc⟩]
        dsimp only
        cases L[fAtom f]? with
        | none => rfl
        | some s => dsimp only; rw [if_pos hc]
      · rw [if_neg (fun hh => hc hh.2)]
        dsimp only
        cases L[fAtom f]? with
        | none => rfl
        | some s => dsimp only; rw [if_neg hc]
    · rw [if_pos h6, if_neg (fun hh => h6 hh.1)]
theorem and255 (c : Nat) (hc : c < 18446744073709551616) : bits .and .u64 (c : Int) 255 = ((c % 256 : Nat) : Int) := by
  have := bits_mask .u64 64 (by decide) wraps_u64 8 (by decide) (c : Int) (by omega) (by rw [p64]; omega)
  simpa using this
set_option maxRecDepth 100000 in
set_option maxHeartbeats 2000000 in
theorem rfun_spec {w : World} {p most : Nat} {C : List Nat} (h : HeapR w 0 1 p most C) (d : Nat) (hd : d < 18446744073709551616) {d' : Int} (ed : d' = d) :
    Calls Try.prog 138 #[.pointer (some ⟨p, 0, none⟩), .int .u64 d'] w fun e w' => (∃ n, w' = w.drewN n) ∧ e = .returned (match funR C d with | some (at', n) => .tuple #[.int .i64 (at' : Int), .int .i64 (n : Int), .bool true] | none => .tuple #[.int .i64 0, .int .i64 0, .bool false]) := by
  subst ed
  have hvl := vl_lt d hd
  have hval := rvalue_spec d hd
  have HIN := Lib.hid (fun n i => rin_spec (h.drewN n) i)
  obtain ⟨⟨A, c, h1, h2⟩, h3, h4, h5, h6⟩ := h
  have hb : C.length ≤ 1048576 := by omega
  have HVAL := Lib.hid hval
  clear hval h3
  cases hx : C[vl d]? with
  | none =>
    have hres : funR C d = none := by unfold funR; rw [hx]
    have hlt : decide (vl d < C.length) = false := by
      have := List.getElem?_eq_none_iff.1 hx
      simp; omega
    rw [hres]
    clear h2 h6 hx hres
    go_enter Try.func138, Try.ntmps138
    go_wp2_with (first | (go_at_call 132; refine (HVAL.out _).mono ?_; rintro e w' ⟨rfl, hww⟩; subst w') | (go_at_call 134; refine (HIN.out 0 (vl d)).mono ?_; rintro e w' ⟨rfl, hww⟩; subst w'))
    refine bodyPost_ret (v := .tuple #[.int .i64 0, .int .i64 0, .bool false]) (by simp [results, Try.results138, *, go_sem]) rfl ?_
    exact ⟨⟨0, rfl⟩, rfl⟩
  | some f =>
    obtain ⟨ad, rfl, hc⟩ := h2 _ _ hx
    have hlt0 := (List.getElem?_eq_some_iff.1 hx).1
    have hlt : decide (vl d < C.length) = true := by simp [hlt0]
    have hfb : f < 18446744073709551616 := h6 _ (List.mem_of_getElem? hx)
    have htag := rtag_spec f hfb
    have HTAG := Lib.hid htag
    have hres : funR C d = if tg f = 6 ∧ 1 ≤ fArity f ∧ fArity f ≤ 20 ∧ vl d + fArity f < C.length then some (fAtom f, fArity f) else none := by unfold funR; rw [hx]
    rw [hres]
    clear h2 h6 hx hres htag
    by_cases h6 : tg f = 6
    case neg =>
      rw [if_neg (fun hh => h6 hh.1)]
      have hb : ((tg f : Int) != 6) = true := by simp [bne]; omega
      clear h6
      go_enter Try.func138, Try.ntmps138
      go_wp2_with (first | (go_at_call 132; refine (HVAL.out _).mono ?_; rintro e w' ⟨rfl, hww⟩; subst w') | (go_at_call 134; refine (HIN.out 0 (vl d)).mono ?_; rintro e w' ⟨rfl, hww⟩; subst w') | (go_at_call 133; refine (HTAG.out _).mono ?_; rintro e w' ⟨rfl, hww⟩; subst w'))
      refine bodyPost_ret (v := .tuple #[.int .i64 0, .int .i64 0, .bool false]) (by simp [results, Try.results138, *, go_sem]) rfl ?_
      exact ⟨⟨0, rfl⟩, rfl⟩
    have hb : ((tg f : Int) != 6) = false := by simp [h6]
    have hvf := vl_lt f hfb
    have hvf2 := rvalue_spec f hfb
    have HVF := Lib.hid hvf2
    clear hvf2
    obtain ⟨E, hE⟩ : ∃ E, E = Ending.returned (match (if tg f = 6 ∧ 1 ≤ fArity f ∧ fArity f ≤ 20 ∧ vl d + fArity f < C.length then some (fAtom f, fArity f) else none) with | some (at', n) => .tuple #[.int .i64 (at' : Int), .int .i64 (n : Int), .bool true] | none => .tuple #[.int .i64 0, .int .i64 0, .bool false]) := ⟨_, rfl⟩
    rw [← hE]
    have HE := Lib.hid hE
    clear hE
    go_enter Try.func138, Try.ntmps138
    go_wp2_with (first | (go_at_call 132; refine (HVAL.out _).mono ?_; rintro e w' ⟨rfl, hww⟩; subst w') | (go_at_call 134; refine (HIN.out 0 (vl d)).mono ?_; rintro e w' ⟨rfl, hww⟩; subst w') | (go_at_call 133; refine (HTAG.out _).mono ?_; rintro e w' ⟨rfl, hww⟩; subst w'))
    go_region_held3 (fun X => X.cell? ⟨p, 0, none⟩ = some (.slice (some ad) C.length c) ∧ X.cell? (ad.add (vl d)) = some (.int .u64 (f : Int))) (go_keep) (first | (go_at_call 132; refine (HVF.out _).mono ?_; rintro e w' ⟨rfl, hww⟩; subst w'))
    have eA : IntKind.i64.wrap ((vl f : Int) / 256) = (fAtom f : Int) := by
      rw [IntWalk.i64_in _ ⟨by omega, by omega⟩, fAtom, if_pos h6]
      omega
    have eN : IntKind.i64.wrap (bits .and .u64 (vl f : Int) 255) = (fArity f : Int) := by
      rw [and255 (vl f) (by omega), IntWalk.i64_in _ ⟨by omega, by omega⟩, fArity, if_pos h6]
    have hn : fArity f < 256 := by unfold fArity; split <;> omega
    rw [eA, eN]
    have hE := HE.out
    simp only [h6, true_and] at hE
    clear HE
    clear eA eN hb h6 HVF HTAG h1 hc hlt hlt0
    generalize fArity f = n at hn hE ⊢
    generalize fAtom f = at' at hE ⊢
    have e1 : IntKind.u64.wrap (n : Int) = (n : Int) := IntWalk.u64_in _ ⟨by omega, by omega⟩
    have e2 : IntKind.u64.wrap ((vl d : Int) + (n : Int)) = ((vl d + n : Nat) : Int) := by rw [IntWalk.u64_in _ ⟨by omega, by omega⟩]; simp
    have HIN1 := Lib.hid (HIN.out 1 (vl d + n))
    by_cases hn1 : 1 ≤ n
    case neg =>
      have hq : ¬ (1 ≤ n ∧ n ≤ 20 ∧ vl d + n < C.length) := by omega
      rw [if_neg hq] at hE
      have HE := Lib.hid hE
      clear hE
      clear hq e1 e2
      go_wp2
      refine bodyPost_ret (v := .tuple #[.int .i64 0, .int .i64 0, .bool false]) (by simp [results, Try.results138, *, go_sem]) rfl ?_
      exact ⟨⟨1, rfl⟩, HE.out.symm⟩
    by_cases hn2 : n ≤ 20
    case neg =>
      have hq : ¬ (1 ≤ n ∧ n ≤ 20 ∧ vl d + n < C.length) := by omega
      rw [if_neg hq] at hE
      have HE := Lib.hid hE
      clear hE
      clear hq e1 e2
      go_wp2
      refine bodyPost_ret (v := .tuple #[.int .i64 0, .int .i64 0, .bool false]) (by simp [results, Try.results138, *, go_sem]) rfl ?_
      exact ⟨⟨1, rfl⟩, HE.out.symm⟩
    by_cases hn3 : vl d + n < C.length
    case neg =>
      have hq : ¬ (1 ≤ n ∧ n ≤ 20 ∧ vl d + n < C.length) := by omega
      rw [if_neg hq] at hE
      have HE := Lib.hid hE
      clear hE
      have hb3 : decide (vl d + n < C.length) = false := by simp; omega
      rw [hb3] at HIN1
      clear hq hb3 hn3
      go_wp2_with (go_at_call 134; refine HIN1.out.mono ?_; rintro e w' ⟨rfl, hww⟩; subst w')
      refine bodyPost_ret (v := .tuple #[.int .i64 0, .int .i64 0, .bool false]) (by simp [results, Try.results138, *, go_sem]) rfl ?_
      exact ⟨⟨1, rfl⟩, HE.out.symm⟩
    rw [if_pos ⟨hn1, hn2, hn3⟩] at hE
    have HE := Lib.hid hE
    clear hE
    have hb3 : decide (vl d + n < C.length) = true := by simp; omega
    rw [hb3] at HIN1
    clear hb3 hn3
    go_wp2_with (go_at_call 134; refine HIN1.out.mono ?_; rintro e w' ⟨rfl, hww⟩; subst w')
    refine bodyPost_ret (v := .tuple #[.int .i64 (at' : Int), .int .i64 (n : Int), .bool true]) (by simp [results, Try.results138, *, go_sem]) rfl ?_
    exact ⟨⟨1, rfl⟩, HE.out.symm⟩
#print axioms rfun_spec
#print axioms gname_out
end Go.Proofs.Ytceahdlcbiialaa
