/- What each function on heaps answers, and what it leaves in memory. -/
import Derived.Test.YtceahdlcbiialaaA1
import Derived.Test.YtceahdlcbiialaaC0
import Derived.Deep.RegionHeld3
set_option linter.unusedVariables false
set_option linter.unusedSimpArgs false
namespace Go.Proofs.Ytceahdlcbiialaa
open Go.RowKit

section
variable {w : World} {p most : Nat} {l : List Nat}
set_option maxRecDepth 100000 in
set_option maxHeartbeats 400000 in
theorem len_spec (h : HeapR w 1 0 p most l) : Calls Try.prog 31 #[.pointer (some ⟨p, 0, none⟩)] w fun e w' => e = .returned (.int .i64 l.length) ∧ w' = w := by
  obtain ⟨⟨A, c, h1, h2⟩, h3, h4, h5, h6⟩ := h
  clear h2 h6
  go_enter Try.func31, Try.ntmps31
  go_wp2
  go_ret
  exact ⟨rfl, rfl⟩
set_option maxRecDepth 100000 in
set_option maxHeartbeats 400000 in
theorem most_spec (h : HeapR w 1 0 p most l) : Calls Try.prog 98 #[.pointer (some ⟨p, 0, none⟩)] w fun e w' => e = .returned (.int .i64 most) ∧ w' = w := by
  obtain ⟨⟨A, c, h1, h2⟩, h3, h4, h5, h6⟩ := h
  clear h2 h6
  go_enter Try.func98, Try.ntmps98
  go_wp2
  go_ret
  exact ⟨rfl, rfl⟩
set_option maxRecDepth 100000 in
set_option maxHeartbeats 400000 in
theorem get_in (h : HeapR w 1 0 p most l) {i' : Int} (i x : Nat) (hi : i' = i) (hx : l[i]? = some x) :
    Calls Try.prog 36 #[.pointer (some ⟨p, 0, none⟩), .int .i64 i'] w fun e w' => e = .returned (.tuple #[.int .u64 x, .bool true]) ∧ w' = w := by
  subst hi
  have hl := len_spec h
  have HL := Lib.hid hl; clear hl
  obtain ⟨⟨A, c, h1, h2⟩, h3, h4, h5, h6⟩ := h
  obtain ⟨ad, rfl, hc⟩ := h2 i x hx
  have hi := (List.getElem?_eq_some_iff.1 hx).1
  clear h2 h6 hx
  go_enter Try.func36, Try.ntmps36
  go_wp2_with (go_at_call 31; refine HL.out.mono ?_; rintro e w' ⟨rfl, rfl⟩)
  go_ret2
  exact ⟨rfl, rfl⟩
set_option maxRecDepth 100000 in
set_option maxHeartbeats 400000 in
theorem get_out (h : HeapR w 1 0 p most l) (i : Int) (hi : i < 0 ∨ (l.length : Int) ≤ i) :
    Calls Try.prog 36 #[.pointer (some ⟨p, 0, none⟩), .int .i64 i] w fun e w' => e = .returned (.tuple #[.int .u64 0, .bool false]) ∧ w' = w := by
  have hl := len_spec h
  have HL := Lib.hid hl; clear hl
  obtain ⟨⟨A, c, h1, h2⟩, h3, h4, h5, h6⟩ := h
  clear h2 h6
  by_cases h0 : i < 0
  · clear hi
    go_enter Try.func36, Try.ntmps36
    go_wp2_with (go_at_call 31; refine HL.out.mono ?_; rintro e w' ⟨rfl, rfl⟩)
    go_ret2
    exact ⟨rfl, rfl⟩
  · have hi : (l.length : Int) ≤ i := by omega
    go_enter Try.func36, Try.ntmps36
    go_wp2_with (go_at_call 31; refine HL.out.mono ?_; rintro e w' ⟨rfl, rfl⟩)
    go_ret2
    exact ⟨rfl, rfl⟩
set_option maxRecDepth 100000 in
set_option maxHeartbeats 400000 in
theorem told_spec (c : Nat) : Calls Try.prog 152 #[.pointer (some ⟨p, 0, none⟩), .int .u64 c] w fun e w' => e = .returned (.int .u64 c) ∧ w' = w := by
  go_enter Try.func152, Try.ntmps152
  go_wp2
  go_ret
  exact ⟨rfl, rfl⟩
end

theorem Ok.newHeapA {w : World} {S : Blk} {Γ : List Asn} (h : Ok w S Γ) (m : Int) (most : Nat) (em : m = most) (hm : most ≤ 1048576) :
    ∃ p, Value.pointer (some ⟨w.heap.size, 0, none⟩) = .pointer (some ⟨p, 0, none⟩) ∧ To w S (w.alloc (.cells #[.int .i64 m, .slice none 0 0] 121)) S (HeapA p most [] :: Γ) := by
  subst em
  exact ⟨_, rfl, (h.allocPt _ _).re fun k => Ok.heapA_mk ((k.rowNil 34 1).p1) ⟨hm, by simp, by simp⟩⟩
theorem Ok.newHeapB {w : World} {S : Blk} {Γ : List Asn} (h : Ok w S Γ) (m : Int) (most : Nat) (em : m = most) (hm : most ≤ 1048576) :
    ∃ p, Value.pointer (some ⟨w.heap.size, 0, none⟩) = .pointer (some ⟨p, 0, none⟩) ∧ To w S (w.alloc (.cells #[.slice none 0 0, .int .i64 m] 135)) S (HeapB p most [] :: Γ) := by
  subst em
  exact ⟨_, rfl, (h.allocPt _ _).re fun k => Ok.heapB_mk ((k.rowNil 34 1).p1) ⟨hm, by simp, by simp⟩⟩
theorem ret_ex {α : Type} {v : Value} {f : α → Value} {Pp : α → Prop} (h : ∃ p, v = f p ∧ Pp p) : ∃ p, Ending.returned v = .returned (f p) ∧ Pp p := by
  obtain ⟨p, rfl, h⟩ := h
  exact ⟨p, rfl, h⟩
set_option maxRecDepth 100000 in
set_option maxHeartbeats 400000 in
theorem new_spec {w : World} {S : Blk} {Γ : List Asn} (h : Ok w S Γ) (m : Int) (most : Nat) (hm : m = most) (hmm : most ≤ 1048576) :
    Calls Try.prog 26 #[.int .i64 m] w fun e w' => ∃ p, e = .returned (.pointer (some ⟨p, 0, none⟩)) ∧ To w S w' S (HeapA p most [] :: Γ) := by
  have H := Lib.hid h; clear h
  have h1 : 0 ≤ m := by omega
  have h2 : m ≤ 1048576 := by omega
  have HM := Lib.hid hm; clear hm
  go_enter Try.func26, Try.ntmps26
  go_wp2
  all_goals
    go_ret
    exact ret_ex (H.out.newHeapA _ most (by have := HM.out; omega) (by omega))
set_option maxRecDepth 100000 in
set_option maxHeartbeats 400000 in
theorem rnew_spec {w : World} {S : Blk} {Γ : List Asn} (h : Ok w S Γ) (m : Int) (most : Nat) (hm : m = most) (hmm : most ≤ 1048576) :
    Calls Try.prog 37 #[.int .i64 m] w fun e w' => ∃ p, e = .returned (.pointer (some ⟨p, 0, none⟩)) ∧ To w S w' S (HeapB p most [] :: Γ) := by
  have H := Lib.hid h; clear h
  have h1 : 0 ≤ m := by omega
  have h2 : m ≤ 1048576 := by omega
  have HM := Lib.hid hm; clear hm
  go_enter Try.func37, Try.ntmps37
  go_wp2
  all_goals
    go_ret
    exact ret_ex (H.out.newHeapB _ most (by have := HM.out; omega) (by omega))
set_option maxRecDepth 100000 in
set_option maxHeartbeats 400000 in
theorem push_full {w : World} {p most : Nat} {l : List Nat} (h : HeapR w 1 0 p most l) (x : Int) (hl : l.length = most) :
    Calls Try.prog 44 #[.pointer (some ⟨p, 0, none⟩), .int .u64 x] w fun e w' => e = .returned (.tuple #[.int .i64 0, .int .i64 4]) ∧ ∃ n, w' = w.drewN n := by
  obtain ⟨⟨A, c, h1, h2⟩, h3, h4, h5, h6⟩ := h
  clear h2 h6
  rw [← hl] at h3
  clear hl
  go_enter Try.func44, Try.ntmps44
  go_wp2_with fail
  go_quiet (fail)
  go_wp2_with fail
  go_ret2
  exact ⟨rfl, _, rfl⟩
theorem Words.snoc {most : Nat} {l : List Nat} (h : Words most l) {x : Nat} (hx : x < 18446744073709551616) (hl : l.length < most) : Words most (l ++ [x]) := by
  refine ⟨h.1, by simp; omega, fun y hy => ?_⟩
  rcases List.mem_append.1 hy with hy | hy
  · exact h.2.2 y hy
  · simp at hy; omega
theorem info34 : (Try.prog.info? 34).map (fun i => (i.zero, i.size, i.bytes)) = some (some (.int .u64 0), 1, 8) := by kernel_rfl
set_option maxRecDepth 100000 in
set_option maxHeartbeats 400000 in
theorem push_ok {w : World} {S : Blk} {Γ : List Asn} {p most : Nat} {l : List Nat} (h : Ok w S (HeapA p most l :: Γ)) {x' : Int} (x : Nat) (ex : x' = x) (hx : x < 18446744073709551616) (hl : l.length < most) :
    Calls Try.prog 44 #[.pointer (some ⟨p, 0, none⟩), .int .u64 x'] w fun e w' => e = .returned (.tuple #[.int .i64 l.length, .int .i64 0]) ∧ To w S w' S (HeapA p most (l ++ [x]) :: Γ) := by
  subst ex
  obtain ⟨v, hv, hw⟩ := h.heapA
  obtain ⟨A, c, rfl, _⟩ := row_read (hv.p1)
  have h1 : w.cell? ⟨p, 1, none⟩ = some (.slice A l.length c) := hv.ptCell 1 _ rfl
  have h3 : w.cell? ⟨p, 0, none⟩ = some (.int .i64 most) := hv.ptCell 0 _ rfl
  have hmost : most ≤ 1048576 := hw.1
  have H := Lib.hid (hv.to.p1); clear hv
  have HW := Lib.hid hw; clear hw h
  have he : ((l.length : Int) == most) = false := by rw [beq_eq_false_iff_ne]; omega
  go_enter Try.func44, Try.ntmps44
  go_wp2_with fail
  go_quiet (fail)
  go_wp2_with (at_builtin; refine wpList_append_new rfl (.tmp 24) (.tmp 26) 62 34 (.int .u64 0) 1 8 rfl Try.underlying62 info34 rfl (by decide) (by decide) (H.out.drewN _) rfl #[.int .u64 x] rfl rfl (by simp [Value.oneCell']) (by omega) ?_)
  intro A' c' W' H2
  have hp := H2.p1
  have h1 : W'.cell? ⟨p, 1, none⟩ = some (.slice A l.length c) := hp.ok.ptCell 1 _ rfl
  have h2 := hp.ok.ptFree 1
  have HP := Lib.hid hp; clear hp H2
  go_wp2
  go_ret2
  refine ⟨rfl, ?_⟩
  have H3 := HP.out.ptSet 1 (.slice A' (l.length + 1) c')
  refine H3.re fun k => Ok.heapA_mk (v := .slice A' (l.length + 1) c') ?_ (HW.out.snoc hx hl)
  simpa [nums] using k
end Go.Proofs.Ytceahdlcbiialaa
