/- What each function on words of package cell and of the reference answers. No condition but the words' own size. What each function on heaps answers, and what it leaves in memory. -/
import Derived.Deep.RegionHeld3
import Derived.Test.YtceahdlcbiialaaF5M2
import Derived.Test.YtceahdlcbiialaaF5M3
set_option linter.unusedVariables false
set_option linter.unusedSimpArgs false
namespace Go.Proofs.Ytceahdlcbiialaa
open Go.RowKit

theorem ret_i {k : IntKind} {a b : Int} (h : a = b) : Ending.returned (.int k a) = .returned (.int k b) := by rw [h]

set_option maxRecDepth 100000 in
set_option maxHeartbeats 400000 in
theorem tag_spec (c : Nat) (hc : c < 18446744073709551616) (w : World) :
    Calls Try.prog 126 #[.int .u64 c] w fun e w' => e = .returned (.int .i64 (tg c : Nat)) ∧ w' = w := by
  have hb := and7 c hc
  have hl : c % 8 < 8 := by omega
  go_enter Try.func126, Try.ntmps126
  go_wp2
  go_ret
  exact ⟨ret_i (by unfold tg; simp), rfl⟩
set_option maxRecDepth 100000 in
set_option maxHeartbeats 400000 in
theorem rtag_spec (c : Nat) (hc : c < 18446744073709551616) (w : World) :
    Calls Try.prog 133 #[.int .u64 c] w fun e w' => e = .returned (.int .i64 (tg c : Nat)) ∧ w' = w := by
  have hb := and7 c hc
  have hl : c % 8 < 8 := by omega
  go_enter Try.func133, Try.ntmps133
  go_wp2
  go_ret
  exact ⟨ret_i (by unfold tg; simp), rfl⟩
set_option maxRecDepth 100000 in
set_option maxHeartbeats 400000 in
theorem value_spec (c : Nat) (hc : c < 18446744073709551616) (w : World) :
    Calls Try.prog 111 #[.int .u64 c] w fun e w' => e = .returned (.int .u64 (vl c : Nat)) ∧ w' = w := by
  go_enter Try.func111, Try.ntmps111
  go_wp2
  go_ret
  exact ⟨ret_i (by unfold vl; simp), rfl⟩
set_option maxRecDepth 100000 in
set_option maxHeartbeats 400000 in
theorem rvalue_spec (c : Nat) (hc : c < 18446744073709551616) (w : World) :
    Calls Try.prog 132 #[.int .u64 c] w fun e w' => e = .returned (.int .u64 (vl c : Nat)) ∧ w' = w := by
  go_enter Try.func132, Try.ntmps132
  go_wp2
  go_ret
  exact ⟨ret_i (by unfold vl; simp), rfl⟩
set_option maxRecDepth 100000 in
set_option maxHeartbeats 400000 in
theorem make_spec {t' n' : Int} (t n : Nat) (et : t' = t) (en : n' = n) (ht : t ≤ 6) (hn : n < 2305843009213693952) (w : World) :
    Calls Try.prog 118 #[.int .i64 t', .int .u64 n'] w fun e w' => e = .returned (.tuple #[.int .u64 (mkc t n : Nat), .bool true]) ∧ w' = w := by
  subst et en
  have hb := or_tag t n (by omega) hn
  go_enter Try.func118, Try.ntmps118
  go_wp2
  go_ret2
  exact ⟨by simp only [mkc]; rfl, rfl⟩
set_option maxRecDepth 100000 in
set_option maxHeartbeats 400000 in
theorem rmake_spec {t' n' : Int} (t n : Nat) (et : t' = t) (en : n' = n) (ht : t ≤ 7) (hn : n < 2305843009213693952) (w : World) :
    Calls Try.prog 85 #[.int .i64 t', .int .u64 n'] w fun e w' => e = .returned (.int .u64 (mkc t n : Nat)) ∧ w' = w := by
  subst et en
  have hb := or_tag t n (by omega) hn
  go_enter Try.func85, Try.ntmps85
  go_wp2
  go_ret
  exact ⟨by simp only [mkc]; rfl, rfl⟩
set_option maxRecDepth 100000 in
set_option maxHeartbeats 400000 in
theorem int_spec (c : Nat) (hc : c < 18446744073709551616) (w : World) :
    Calls Try.prog 130 #[.int .u64 c] w fun e w' => e = .returned (.int .i64 (sint c)) ∧ w' = w := by
  go_enter Try.func130, Try.ntmps130
  go_wp2
  go_ret
  exact ⟨ret_i rfl, rfl⟩
set_option maxRecDepth 100000 in
set_option maxHeartbeats 400000 in
theorem rint_spec (c : Nat) (hc : c < 18446744073709551616) (w : World) :
    Calls Try.prog 137 #[.int .u64 c] w fun e w' => e = .returned (.int .i64 (sint c)) ∧ w' = w := by
  go_enter Try.func137, Try.ntmps137
  go_wp2
  go_ret
  exact ⟨ret_i rfl, rfl⟩
set_option maxRecDepth 100000 in
set_option maxHeartbeats 400000 in
theorem parts_spec (c : Nat) (hc : c < 18446744073709551616) (w : World) :
    Calls Try.prog 146 #[.int .u64 c] w fun e w' => e = .returned (.tuple #[.int .i64 (fAtom c : Nat), .int .i64 (fArity c : Nat)]) ∧ w' = w := by
  have hv := vl_lt c hc
  have ht := tg_lt c
  have e1 : fAtom c = if tg c = 6 then vl c / 256 else 0 := rfl
  have e2 : fArity c = if tg c = 6 then vl c % 256 else 0 := rfl
  by_cases h6 : tg c = 6
  · rw [if_pos h6] at e1 e2
    rw [e1, e2]
    clear e1 e2
    have hz : ((tg c : Int) != 6) = false := by simp [h6]
    clear h6
    go_enter Try.func146, Try.ntmps146
    go_wp2_with (first | (go_at_call 126; refine (tag_spec c hc _).mono ?_; rintro e w' ⟨rfl, rfl⟩) | (go_at_call 111; refine (value_spec c hc _).mono ?_; rintro e w' ⟨rfl, rfl⟩))
    go_ret2
    exact ⟨by simp, rfl⟩
  · rw [if_neg h6] at e1 e2
    rw [e1, e2]
    clear e1 e2
    have hz : ((tg c : Int) != 6) = true := by simp; omega
    clear h6
    go_enter Try.func146, Try.ntmps146
    go_wp2_with (first | (go_at_call 126; refine (tag_spec c hc _).mono ?_; rintro e w' ⟨rfl, rfl⟩) | (go_at_call 111; refine (value_spec c hc _).mono ?_; rintro e w' ⟨rfl, rfl⟩))
    go_ret2
    exact ⟨by simp, rfl⟩
set_option maxRecDepth 100000 in
set_option maxHeartbeats 400000 in
theorem functor_spec (a n : Nat) (ha : a < 4096) (h1 : 1 ≤ n) (h2 : n ≤ 20) (w : World) :
    Calls Try.prog 159 #[.int .i64 a, .int .i64 n] w fun e w' => e = .returned (.tuple #[.int .u64 (fun6 a n : Nat), .bool true]) ∧ w' = w := by
  go_enter Try.func159, Try.ntmps159
  go_wp2_with fail
  refine (make_spec 6 (a * 256 + n) (by simp) (by simp) (by omega) (by omega) _).mono ?_
  rintro e w' ⟨rfl, rfl⟩
  go_wp2
  go_ret2
  exact ⟨rfl, rfl⟩
set_option maxRecDepth 100000 in
set_option maxHeartbeats 400000 in
theorem rfunctor_spec (a n : Nat) (ha : a < 4096) (h1 : 1 ≤ n) (h2 : n ≤ 255) (w : World) :
    Calls Try.prog 125 #[.int .i64 a, .int .i64 n] w fun e w' => e = .returned (.int .u64 (fun6 a n : Nat)) ∧ w' = w := by
  have hb := or_at 8 (a * 256) n (by omega) (by omega) (by omega) (by omega)
  rw [show ((a * 256 : Nat) : Int) = (a : Int) * 256 from by simp] at hb
  have HB := Lib.hid hb; clear hb
  go_enter Try.func125, Try.ntmps125
  go_wp2_with fail
  refine (rmake_spec 6 (a * 256 + n) (by simp) HB.out (by omega) (by omega) _).mono ?_
  rintro e w' ⟨rfl, rfl⟩
  go_wp2
  go_ret
  exact ⟨rfl, rfl⟩
theorem small_val (n : Int) : bits .or .u64 (IntKind.u64.wrap (IntKind.u64.wrap n * 8)) 3 = (small n : Int) := by
  have h := or_at 3 ((n % 2305843009213693952).toNat * 8) 3 (by omega) (by omega) (by omega) (by omega)
  rw [u64_wrap n, u64_u64]
  exact h
set_option maxRecDepth 100000 in
set_option maxHeartbeats 400000 in
theorem small_yes (n : Int) (h : smallOk n = true) (w : World) :
    Calls Try.prog 121 #[.int .i64 n] w fun e w' => e = .returned (.tuple #[.int .u64 (small n : Nat), .bool true]) ∧ w' = w := by
  simp [smallOk] at h
  obtain ⟨h1, h2⟩ := h
  have hb := small_val n
  go_enter Try.func121, Try.ntmps121
  go_wp2
  go_ret2
  exact ⟨rfl, rfl⟩
set_option maxRecDepth 100000 in
set_option maxHeartbeats 400000 in
theorem small_no (n : Int) (h : smallOk n = false) (w : World) :
    Calls Try.prog 121 #[.int .i64 n] w fun e w' => e = .returned (.tuple #[.int .u64 0, .bool false]) ∧ w' = w := by
  rcases Int.lt_or_le n (-1152921504606846976) with h1 | h1
  · clear h
    go_enter Try.func121, Try.ntmps121
    go_wp2
    go_ret2
    exact ⟨rfl, rfl⟩
  · have h2 : 1152921504606846975 < n := by simp [smallOk] at h; omega
    clear h
    go_enter Try.func121, Try.ntmps121
    go_wp2
    go_ret2
    exact ⟨rfl, rfl⟩
theorem rsmall_val (n : Int) : bits .and .u64 (IntKind.u64.wrap n) 2305843009213693951 = ((n % 2305843009213693952).toNat : Int) := by
  rw [u64_wrap n]
  have h := bits_mask .u64 64 (by decide) wraps_u64 61 (by decide) (u64 n : Int) (by omega) (by rw [p64]; have := u64_lt n; omega)
  have e : (2 : Int) ^ 61 = 2305843009213693952 := by decide
  rw [e] at h
  have e2 : (2305843009213693952 : Int) - 1 = 2305843009213693951 := by decide
  rw [e2] at h
  rw [h]; unfold u64; omega
set_option maxRecDepth 100000 in
set_option maxHeartbeats 400000 in
theorem rsmall_yes (n : Int) (h : smallOk n = true) (w : World) :
    Calls Try.prog 30 #[.int .i64 n] w fun e w' => e = .returned (.tuple #[.int .u64 (small n : Nat), .bool true]) ∧ w' = w := by
  simp [smallOk] at h
  obtain ⟨h1, h2⟩ := h
  have hb := rsmall_val n
  have hl : (n % 2305843009213693952).toNat < 2305843009213693952 := by omega
  generalize hq : (n % 2305843009213693952).toNat = q at hb hl
  have hs : small n = mkc 3 q := by unfold small mkc; rw [hq]
  rw [hs]
  clear hs hq
  go_enter Try.func30, Try.ntmps30
  go_wp2_with (go_at_call 85; refine (rmake_spec 3 q rfl rfl (by omega) hl _).mono ?_; rintro e w' ⟨rfl, rfl⟩)
  go_ret2
  exact ⟨rfl, rfl⟩
set_option maxRecDepth 100000 in
set_option maxHeartbeats 400000 in
theorem rsmall_no (n : Int) (h : smallOk n = false) (w : World) :
    Calls Try.prog 30 #[.int .i64 n] w fun e w' => e = .returned (.tuple #[.int .u64 0, .bool false]) ∧ w' = w := by
  rcases Int.lt_or_le n (-1152921504606846976) with h1 | h1
  · clear h
    go_enter Try.func30, Try.ntmps30
    go_wp2
    go_ret2
    exact ⟨rfl, rfl⟩
  · have h2 : 1152921504606846976 ≤ n := by simp [smallOk] at h; omega
    clear h
    go_enter Try.func30, Try.ntmps30
    go_wp2
    go_ret2
    exact ⟨rfl, rfl⟩
end Go.Proofs.Ytceahdlcbiialaa
set_option linter.unusedVariables false
set_option linter.unusedSimpArgs false
namespace Go.Proofs.Ytceahdlcbiialaa
open Go.RowKit

section
variable {w : World} {p most : Nat} {l : List Nat}
set_option maxRecDepth 100000 in
set_option maxHeartbeats 400000 in
theorem len_spec (h : HeapR w 1 0 p most l) : Calls Try.prog 31 #[.pointer (some ⟨p, 0, none⟩)] w fun e w' => e = .returned (.int .i64 l.length) ∧ w' = w := by
  obtain ⟨⟨A, c, h1, h2⟩, h3, h4, h5, h6⟩ := h
  clear h2 h6
  go_enter Try.func31, Try.ntmps31
  go_wp2
  go_ret
  exact ⟨rfl, rfl⟩
set_option maxRecDepth 100000 in
set_option maxHeartbeats 400000 in
theorem most_spec (h : HeapR w 1 0 p most l) : Calls Try.prog 98 #[.pointer (some ⟨p, 0, none⟩)] w fun e w' => e = .returned (.int .i64 most) ∧ w' = w := by
  obtain ⟨⟨A, c, h1, h2⟩, h3, h4, h5, h6⟩ := h
  clear h2 h6
  go_enter Try.func98, Try.ntmps98
  go_wp2
  go_ret
  exact ⟨rfl, rfl⟩
set_option maxRecDepth 100000 in
set_option maxHeartbeats 400000 in
theorem get_in (h : HeapR w 1 0 p most l) {i' : Int} (i x : Nat) (hi : i' = i) (hx : l[i]? = some x) :
    Calls Try.prog 36 #[.pointer (some ⟨p, 0, none⟩), .int .i64 i'] w fun e w' => e = .returned (.tuple #[.int .u64 x, .bool true]) ∧ w' = w := by
  subst hi
  have hl := len_spec h
  have HL := Lib.hid hl; clear hl
  obtain ⟨⟨A, c, h1, h2⟩, h3, h4, h5, h6⟩ := h
  obtain ⟨ad, rfl, hc⟩ := h2 i x hx
  have hi := (List.getElem?_eq_some_iff.1 hx).1
  clear h2 h6 hx
  go_enter Try.func36, Try.ntmps36
  go_wp2_with (go_at_call 31; refine HL.out.mono ?_; rintro e w' ⟨rfl, rfl⟩)
  go_ret2
  exact ⟨rfl, rfl⟩
set_option maxRecDepth 100000 in
set_option maxHeartbeats 400000 in
theorem get_out (h : HeapR w 1 0 p most l) (i : Int) (hi : i < 0 ∨ (l.length : Int) ≤ i) :
    Calls Try.prog 36 #[.pointer (some ⟨p, 0, none⟩), .int .i64 i] w fun e w' => e = .returned (.tuple #[.int .u64 0, .bool false]) ∧ w' = w := by
  have hl := len_spec h
  have HL := Lib.hid hl; clear hl
  obtain ⟨⟨A, c, h1, h2⟩, h3, h4, h5, h6⟩ := h
  clear h2 h6
  by_cases h0 : i < 0
  · clear hi
    go_enter Try.func36, Try.ntmps36
    go_wp2_with (go_at_call 31; refine HL.out.mono ?_; rintro e w' ⟨rfl, rfl⟩)
    go_ret2
    exact ⟨rfl, rfl⟩
  · have hi : (l.length : Int) ≤ i := by omega
    go_enter Try.func36, Try.ntmps36
    go_wp2_with (go_at_call 31; refine HL.out.mono ?_; rintro e w' ⟨rfl, rfl⟩)
    go_ret2
    exact ⟨rfl, rfl⟩
set_option maxRecDepth 100000 in
set_option maxHeartbeats 400000 in
theorem told_spec (c : Nat) : Calls Try.prog 152 #[.pointer (some ⟨p, 0, none⟩), .int .u64 c] w fun e w' => e = .returned (.int .u64 c) ∧ w' = w := by
  go_enter Try.func152, Try.ntmps152
  go_wp2
  go_ret
  exact ⟨rfl, rfl⟩
end

theorem Ok.newHeapA {w : World} {S : Blk} {Γ : List Asn} (h : Ok w S Γ) (m : Int) (most : Nat) (em : m = most) (hm : most ≤ 1048576) :
    ∃ p, Value.pointer (some ⟨w.heap.size, 0, none⟩) = .pointer (some ⟨p, 0, none⟩) ∧ To w S (w.alloc (.cells #[.int .i64 m, .slice none 0 0] 121)) S (HeapA p most [] :: Γ) := by
  subst em
  exact ⟨_, rfl, (h.allocPt _ _).re fun k => Ok.heapA_mk ((k.rowNil 34 1).p1) ⟨hm, by simp, by simp⟩⟩
theorem Ok.newHeapB {w : World} {S : Blk} {Γ : List Asn} (h : Ok w S Γ) (m : Int) (most : Nat) (em : m = most) (hm : most ≤ 1048576) :
    ∃ p, Value.pointer (some ⟨w.heap.size, 0, none⟩) = .pointer (some ⟨p, 0, none⟩) ∧ To w S (w.alloc (.cells #[.slice none 0 0, .int .i64 m] 135)) S (HeapB p most [] :: Γ) := by
  subst em
  exact ⟨_, rfl, (h.allocPt _ _).re fun k => Ok.heapB_mk ((k.rowNil 34 1).p1) ⟨hm, by simp, by simp⟩⟩
theorem ret_ex {α : Type} {v : Value} {f : α → Value} {Pp : α → Prop} (h : ∃ p, v = f p ∧ Pp p) : ∃ p, Ending.returned v = .returned (f p) ∧ Pp p := by
  obtain ⟨p, rfl, h⟩ := h
  exact ⟨p, rfl, h⟩
set_option maxRecDepth 100000 in
set_option maxHeartbeats 400000 in
theorem new_spec {w : World} {S : Blk} {Γ : List Asn} (h : Ok w S Γ) (m : Int) (most : Nat) (hm : m = most) (hmm : most ≤ 1048576) :
    Calls Try.prog 26 #[.int .i64 m] w fun e w' => ∃ p, e = .returned (.pointer (some ⟨p, 0, none⟩)) ∧ To w S w' S (HeapA p most [] :: Γ) := by
  have H := Lib.hid h; clear h
  have h1 : 0 ≤ m := by omega
  have h2 : m ≤ 1048576 := by omega
  have HM := Lib.hid hm; clear hm
  go_enter Try.func26, Try.ntmps26
  go_wp2
  all_goals
    go_ret
    exact ret_ex (H.out.newHeapA _ most (by have := HM.out; omega) (by omega))
set_option maxRecDepth 100000 in
set_option maxHeartbeats 400000 in
theorem rnew_spec {w : World} {S : Blk} {Γ : List Asn} (h : Ok w S Γ) (m : Int) (most : Nat) (hm : m = most) (hmm : most ≤ 1048576) :
    Calls Try.prog 37 #[.int .i64 m] w fun e w' => ∃ p, e = .returned (.pointer (some ⟨p, 0, none⟩)) ∧ To w S w' S (HeapB p most [] :: Γ) := by
  have H := Lib.hid h; clear h
  have h1 : 0 ≤ m := by omega
  have h2 : m ≤ 1048576 := by omega
  have HM := Lib.hid hm; clear hm
  go_enter Try.func37, Try.ntmps37
  go_wp2
  all_goals
    go_ret
    exact ret_ex (H.out.newHeapB _ most (by have := HM.out; omega) (by omega))
set_option maxRecDepth 100000 in
set_option maxHeartbeats 400000 in
theorem push_full {w : World} {p most : Nat} {l : List Nat} (h : HeapR w 1 0 p most l) (x : Int) (hl : l.length = most) :
    Calls Try.prog 44 #[.pointer (some ⟨p, 0, none⟩), .int .u64 x] w fun e w' => e = .returned (.tuple #[.int .i64 0, .int .i64 4]) ∧ ∃ n, w' = w.drewN n := by
  obtain ⟨⟨A, c, h1, h2⟩, h3, h4, h5, h6⟩ := h
  clear h2 h6
  rw [← hl] at h3
  clear hl
  go_enter Try.func44, Try.ntmps44
  go_wp2_with fail
  go_quiet (fail)
  go_wp2_with fail
  go_ret2
  exact ⟨rfl, _, rfl⟩
theorem Words.snoc {most : Nat} {l : List Nat} (h : Words most l) {x : Nat} (hx : x < 18446744073709551616) (hl : l.length < most) : Words most (l ++ [x]) := by
  refine ⟨h.1, by simp; omega, fun y hy => ?_⟩
  rcases List.mem_append.1 hy with hy | hy
  · exact h.2.2 y hy
  · simp at hy; omega
theorem info34 : (Try.prog.info? 34).map (fun i => (i.zero, i.size, i.bytes)) = some (some (.int .u64 0), 1, 8) := by kernel_rfl
set_option maxRecDepth 100000 in
set_option maxHeartbeats 400000 in
theorem push_ok {w : World} {S : Blk} {Γ : List Asn} {p most : Nat} {l : List Nat} (h : Ok w S (HeapA p most l :: Γ)) {x' : Int} (x : Nat) (ex : x' = x) (hx : x < 18446744073709551616) (hl : l.length < most) :
    Calls Try.prog 44 #[.pointer (some ⟨p, 0, none⟩), .int .u64 x'] w fun e w' => e = .returned (.tuple #[.int .i64 l.length, .int .i64 0]) ∧ To w S w' S (HeapA p most (l ++ [x]) :: Γ) := by
  subst ex
  obtain ⟨v, hv, hw⟩ := h.heapA
  obtain ⟨A, c, rfl, _⟩ := row_read (hv.p1)
  have h1 : w.cell? ⟨p, 1, none⟩ = some (.slice A l.length c) := hv.ptCell 1 _ rfl
  have h3 : w.cell? ⟨p, 0, none⟩ = some (.int .i64 most) := hv.ptCell 0 _ rfl
  have hmost : most ≤ 1048576 := hw.1
  have H := Lib.hid (hv.to.p1); clear hv
  have HW := Lib.hid hw; clear hw h
  have he : ((l.length : Int) == most) = false := by rw [beq_eq_false_iff_ne]; omega
  go_enter Try.func44, Try.ntmps44
  go_wp2_with fail
  go_quiet (fail)
  go_wp2_with (at_builtin; refine wpList_append_new rfl (.tmp 24) (.tmp 26) 62 34 (.int .u64 0) 1 8 rfl Try.underlying62 info34 rfl (by decide) (by decide) (H.out.drewN _) rfl #[.int .u64 x] rfl rfl (by simp [Value.oneCell']) (by omega) ?_)
  intro A' c' W' H2
  have hp := H2.p1
  have h1 : W'.cell? ⟨p, 1, none⟩ = some (.slice A l.length c) := hp.ok.ptCell 1 _ rfl
  have h2 := hp.ok.ptFree 1
  have HP := Lib.hid hp; clear hp H2
  go_wp2
  go_ret2
  refine ⟨rfl, ?_⟩
  have H3 := HP.out.ptSet 1 (.slice A' (l.length + 1) c')
  refine H3.re fun k => Ok.heapA_mk (v := .slice A' (l.length + 1) c') ?_ (HW.out.snoc hx hl)
  simpa [nums] using k
end Go.Proofs.Ytceahdlcbiialaa
