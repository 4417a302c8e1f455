/- What each function on the reference's heaps answers, and what it leaves in memory. -/
import Derived.Test.YtceahdlcbiialaaC2
set_option linter.unusedVariables false
set_option linter.unusedSimpArgs false
namespace Go.Proofs.Ytceahdlcbiialaa
open Go.RowKit

set_option maxRecDepth 100000 in
set_option maxHeartbeats 400000 in
theorem rpush_full {w : World} {p most : Nat} {l : List Nat} (h : HeapR w 0 1 p most l) (x : Int) (hl : l.length = most) :
    Calls Try.prog 45 #[.pointer (some ⟨p, 0, none⟩), .int .u64 x] w fun e w' => e = .returned (.tuple #[.int .i64 0, .int .i64 4]) ∧ ∃ n, w' = w.drewN n := by
  obtain ⟨⟨A, c, h1, h2⟩, h3, h4, h5, h6⟩ := h
  clear h2 h6
  rw [← hl] at h3
  clear hl
  have hd : decide ((l.length : Int) ≤ l.length) = true := by simp
  go_enter Try.func45, Try.ntmps45
  go_wp2_with fail
  go_quiet (fail)
  go_wp2_with fail
  go_ret2
  exact ⟨rfl, _, rfl⟩
set_option maxRecDepth 100000 in
set_option maxHeartbeats 400000 in
theorem rpush_ok {w : World} {S : Blk} {Γ : List Asn} {p most : Nat} {l : List Nat} (h : Ok w S (HeapB p most l :: Γ)) {x' : Int} (x : Nat) (ex : x' = x) (hx : x < 18446744073709551616) (hl : l.length < most) :
    Calls Try.prog 45 #[.pointer (some ⟨p, 0, none⟩), .int .u64 x'] w fun e w' => e = .returned (.tuple #[.int .i64 l.length, .int .i64 0]) ∧ To w S w' S (HeapB p most (l ++ [x]) :: Γ) := by
  subst ex
  obtain ⟨v, hv, hw⟩ := h.heapB
  obtain ⟨A, c, rfl, _⟩ := row_read hv.p1
  have h1 : w.cell? ⟨p, 0, none⟩ = some (.slice A l.length c) := hv.ptCell 0 _ rfl
  have h3 : w.cell? ⟨p, 1, none⟩ = some (.int .i64 most) := hv.ptCell 1 _ rfl
  have hmost : most ≤ 1048576 := hw.1
  have H := Lib.hid (hv.to.p1); clear hv
  have HW := Lib.hid hw; clear hw h
  have he : decide (most ≤ l.length) = false := by simp; omega
  go_enter Try.func45, Try.ntmps45
  go_wp2_with fail
  go_quiet (fail)
  go_wp2_with (at_builtin; refine wpList_append_new rfl (.tmp 20) (.tmp 22) 62 34 (.int .u64 0) 1 8 rfl Try.underlying62 info34 rfl (by decide) (by decide) (H.out.drewN _) rfl #[.int .u64 x] rfl rfl (by simp [Value.oneCell']) (by omega) ?_)
  intro A' c' W' H2
  have hp := H2.p1
  have h1 : W'.cell? ⟨p, 0, none⟩ = some (.slice A l.length c) := hp.ok.ptCell 0 _ rfl
  have h2 := hp.ok.ptFree 0
  have HP := Lib.hid hp; clear hp H2
  go_wp2
  go_ret2
  refine ⟨rfl, ?_⟩
  have H3 := HP.out.ptSet 0 (.slice A' (l.length + 1) c')
  refine H3.re fun k => Ok.heapB_mk (v := .slice A' (l.length + 1) c') ?_ (HW.out.snoc hx hl)
  simpa [nums] using k
set_option maxRecDepth 100000 in
set_option maxHeartbeats 400000 in
theorem rvar_ok {w : World} {S : Blk} {Γ : List Asn} {p most : Nat} {l : List Nat} (h : Ok w S (HeapB p most l :: Γ)) (hl : l.length < most) :
    Calls Try.prog 124 #[.pointer (some ⟨p, 0, none⟩)] w fun e w' => e = .returned (.tuple #[.int .i64 l.length, .int .i64 0]) ∧ To w S w' S (HeapB p most (l ++ [mkc 0 l.length]) :: Γ) := by
  obtain ⟨⟨A, c, h1, h2⟩, h3, h4, h5, h6⟩ := h.heapBR
  clear h2 h6 h3 h5
  have H := Lib.hid h; clear h
  have hb : l.length ≤ 1048576 := by omega
  go_enter Try.func124, Try.ntmps124
  go_wp2_with (first | (go_at_call 85; refine (rmake_spec 0 l.length (by simp) rfl (by omega) (by omega) _).mono ?_; rintro e w' ⟨rfl, rfl⟩) | (go_at_call 45; refine (rpush_ok H.out (mkc 0 l.length) rfl (by unfold mkc; omega) hl).mono ?_; rintro e w' ⟨rfl, hq⟩))
  go_ret2
  exact ⟨rfl, hq⟩
set_option maxRecDepth 100000 in
set_option maxHeartbeats 400000 in
theorem rvar_full {w : World} {p most : Nat} {l : List Nat} (h : HeapR w 0 1 p most l) (hl : l.length = most) :
    Calls Try.prog 124 #[.pointer (some ⟨p, 0, none⟩)] w fun e w' => e = .returned (.tuple #[.int .i64 0, .int .i64 4]) ∧ ∃ n, w' = w.drewN n := by
  obtain ⟨⟨A, c, h1, h2⟩, h3, h4, h5, h6⟩ := id h
  clear h2 h6 h3 h5
  have H := Lib.hid h; clear h
  have hb : l.length ≤ 1048576 := by omega
  have HL := Lib.hid hl; clear hl
  go_enter Try.func124, Try.ntmps124
  go_wp2_with (first | (go_at_call 85; refine (rmake_spec 0 l.length (by simp) rfl (by omega) (by omega) _).mono ?_; rintro e w' ⟨rfl, rfl⟩) | (go_at_call 45; refine (rpush_full H.out _ HL.out).mono ?_; rintro e w' ⟨rfl, n, rfl⟩))
  go_ret2
  exact ⟨rfl, _, rfl⟩
set_option maxRecDepth 100000 in
set_option maxHeartbeats 400000 in
theorem rin_spec {w : World} {p most : Nat} {l : List Nat} (h : HeapR w 0 1 p most l) (i : Nat) :
    Calls Try.prog 134 #[.pointer (some ⟨p, 0, none⟩), .int .u64 i] w fun e w' => e = .returned (.bool (decide (i < l.length))) ∧ w' = w := by
  obtain ⟨⟨A, c, h1, h2⟩, h3, h4, h5, h6⟩ := h
  clear h2 h6 h3
  have hb : l.length ≤ 1048576 := by omega
  go_enter Try.func134, Try.ntmps134
  go_wp2
  go_ret
  exact ⟨rfl, rfl⟩
set_option maxRecDepth 100000 in
set_option maxHeartbeats 1000000 in
theorem rderef_spec {w : World} {p most : Nat} {l : List Nat} (h : HeapR w 0 1 p most l) {c' : Int} (c : Nat) (ec : c' = c) (hc : c < 18446744073709551616) :
    Calls Try.prog 113 #[.pointer (some ⟨p, 0, none⟩), .int .u64 c'] w fun e w' => e = .returned (.int .u64 (deref l l.length c : Nat)) ∧ ∃ n, w' = w.drewN n := by
  subst ec
  have H := Lib.hid h
  obtain ⟨⟨A, cp, h1, h2⟩, h3, h4, h5, h6⟩ := h
  clear h2 h6 h3
  go_enter Try.func113, Try.ntmps113
  go_wp2
  go_loopw [1, 10] (fun d k w' => (∃ n, w' = w.drewN n) ∧ ∃ (dn kn : Nat), d = .int .u64 dn ∧ k = .int .i64 kn ∧ kn ≤ l.length ∧ dn < 18446744073709551616 ∧ deref l (l.length - kn) dn = deref l l.length c) (fun _ k _ => l.length - (intOf k).toNat)
  case atStart => exact ⟨⟨0, rfl⟩, c, 0, rfl, rfl, Nat.zero_le _, hc, rfl⟩
  case round =>
    obtain ⟨hW, d, k, rfl, rfl, hk, hd, hq⟩ := hrel
    have hR : HeapR wr 0 1 p most l := by obtain ⟨n, rfl⟩ := hW; exact H.out.drewN n
    have HR := Lib.hid hR
    have HW := Lib.hid hW; clear hW
    clear h1
    obtain ⟨⟨A, cp, h1, h2⟩, h3, h4, h5, h6⟩ := hR
    have H2 := Lib.hid h2; clear h2
    have H6 := Lib.hid h6; clear h6 h3
    have ht := rtag_spec d hd
    have hv := rvalue_spec d hd
    have HT := Lib.hid ht; clear ht
    have HV := Lib.hid hv; clear hv
    have hvl := vl_lt d hd
    by_cases t2 : k < l.length
    · have e2 : l.length - k = (l.length - (k + 1)) + 1 := by omega
      by_cases t0 : tg d = 0
      · have b0 : ((tg d : Int) != 0) = false := by simp [t0]
        by_cases t1 : l.length ≤ vl d
        · rw [deref_stop1 _ _ _ t1] at hq
          have HQ := Lib.hid hq; clear hq e2
          have b1 : decide (vl d < l.length) = false := by simp; omega
          clear t0 t1
          go_wp2
          go_quiet (first | (go_at_call 133; exact Calls.quiet_of_same (HT.out _)) | (go_at_call 132; exact Calls.quiet_of_same (HV.out _)) | (go_at_call 134; exact Calls.quiet_of_same (rin_spec (HR.out.drewN _) _)))
          go_wp2
          go_ret
          exact ⟨by rw [← HQ.out]; rfl, drawn_then HW _⟩
        · have t1' : vl d < l.length := by omega
          have b1 : decide (vl d < l.length) = true := by simp; omega
          obtain ⟨ad, rfl, hx⟩ := H2.out (vl d) l[vl d] (List.getElem?_eq_getElem t1')
          have hy : l[vl d] < 18446744073709551616 := H6.out _ (List.getElem_mem _)
          have hs : deref l (l.length - k) d = if l[vl d] = d then d else deref l (l.length - (k + 1)) l[vl d] := by
            rw [e2]
            simp [deref, t0, List.getElem?_eq_getElem t1']
          rw [hs] at hq
          generalize l[vl d] = y at hx hy hq
          have HQ := Lib.hid hq; clear hq hs e2 t0 H6
          by_cases t3 : y = d
          · have b3 : ((y : Int) == d) = true := by simp [t3]
            rw [if_pos t3] at HQ
            clear t3
            go_wp2
            go_quiet (first | (go_at_call 133; exact Calls.quiet_of_same (HT.out _)) | (go_at_call 132; exact Calls.quiet_of_same (HV.out _)) | (go_at_call 134; exact Calls.quiet_of_same (rin_spec (HR.out.drewN _) _)))
            go_wp2
            go_ret
            exact ⟨by rw [← HQ.out]; rfl, drawn_then HW _⟩
          · have b3 : ((y : Int) == d) = false := by rw [beq_eq_false_iff_ne]; omega
            rw [if_neg t3] at HQ
            clear t3
            go_wp2
            go_quiet (first | (go_at_call 133; exact Calls.quiet_of_same (HT.out _)) | (go_at_call 132; exact Calls.quiet_of_same (HV.out _)) | (go_at_call 134; exact Calls.quiet_of_same (rin_spec (HR.out.drewN _) _)))
            go_wp2_with fail
            go_quiet (first | (go_at_call 132; exact Calls.quiet_of_same (HV.out _)) | (go_at_call 132; exact quiet2 (HV.out _)))
            go_wp2
            go_roundw
            case rel => exact ⟨by obtain ⟨m, hm⟩ := HW.out; exact ⟨m + _, by rw [hm, World.drewN_drewN]⟩, y, k + 1, rfl, by go_num, by omega, hy, HQ.out⟩
            case measure => simp [intOf]; omega
      · rw [deref_stop0 _ _ _ t0] at hq
        have HQ := Lib.hid hq; clear hq
        have b0 : ((tg d : Int) != 0) = true := by simp; omega
        clear t0 e2
        go_wp2
        go_quiet (first | (go_at_call 133; exact Calls.quiet_of_same (HT.out _)) | (go_at_call 132; exact Calls.quiet_of_same (HV.out _)) | (go_at_call 134; exact Calls.quiet_of_same (rin_spec (HR.out.drewN _) _)))
        go_wp2
        go_ret
        exact ⟨by rw [← HQ.out]; rfl, drawn_then HW _⟩
    · have e2 : l.length - k = 0 := by omega
      rw [e2] at hq
      have HQ := Lib.hid hq; clear hq e2
      go_wp2
      go_ret
      exact ⟨by rw [← HQ.out]; rfl, HW.out⟩
end Go.Proofs.Ytceahdlcbiialaa
