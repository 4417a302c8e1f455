/- What each function on heaps answers, and what it leaves in memory: the second part. What each function on the reference's heaps answers, and what it leaves in memory. -/
import Derived.Test.YtceahdlcbiialaaF5M8
set_option linter.unusedVariables false
set_option linter.unusedSimpArgs false
namespace Go.Proofs.Ytceahdlcbiialaa
open Go.RowKit

set_option maxRecDepth 100000 in
set_option maxHeartbeats 400000 in
theorem var_ok {w : World} {S : Blk} {Γ : List Asn} {p most : Nat} {l : List Nat} (h : Ok w S (HeapA p most l :: Γ)) (hl : l.length < most) :
    Calls Try.prog 82 #[.pointer (some ⟨p, 0, none⟩)] w fun e w' => e = .returned (.tuple #[.int .i64 l.length, .int .i64 0]) ∧ To w S w' S (HeapA p most (l ++ [mkc 0 l.length]) :: Γ) := by
  have hr := h.heapAR
  have hm : most ≤ 1048576 := hr.2.2.1
  have HR := Lib.hid hr; clear hr
  have H := Lib.hid h; clear h
  have hb : l.length ≤ 1048576 := by omega
  go_enter Try.func82, Try.ntmps82
  go_wp2_with (first | (go_at_call 31; refine (len_spec HR.out).mono ?_; rintro e w' ⟨rfl, rfl⟩) | (go_at_call 118; refine (make_spec 0 l.length (by simp) rfl (by omega) (by omega) _).mono ?_; rintro e w' ⟨rfl, rfl⟩) | (go_at_call 44; refine (push_ok H.out (mkc 0 l.length) rfl (by unfold mkc; omega) hl).mono ?_; rintro e w' ⟨rfl, hq⟩))
  go_ret2
  exact ⟨rfl, hq⟩
set_option maxRecDepth 100000 in
set_option maxHeartbeats 400000 in
theorem var_full {w : World} {p most : Nat} {l : List Nat} (h : HeapR w 1 0 p most l) (hl : l.length = most) :
    Calls Try.prog 82 #[.pointer (some ⟨p, 0, none⟩)] w fun e w' => e = .returned (.tuple #[.int .i64 0, .int .i64 4]) ∧ ∃ n, w' = w.drewN n := by
  have hm : most ≤ 1048576 := h.2.2.1
  have H := Lib.hid h; clear h
  have hb : l.length ≤ 1048576 := by omega
  have HL := Lib.hid hl; clear hl
  go_enter Try.func82, Try.ntmps82
  go_wp2_with (first | (go_at_call 31; refine (len_spec H.out).mono ?_; rintro e w' ⟨rfl, rfl⟩) | (go_at_call 118; refine (make_spec 0 l.length (by simp) rfl (by omega) (by omega) _).mono ?_; rintro e w' ⟨rfl, rfl⟩) | (go_at_call 44; refine (push_full H.out _ HL.out).mono ?_; rintro e w' ⟨rfl, n, rfl⟩))
  go_ret2
  exact ⟨rfl, _, rfl⟩
set_option maxRecDepth 100000 in
set_option maxHeartbeats 400000 in
theorem set_ok {w : World} {S : Blk} {Γ : List Asn} {p most : Nat} {l : List Nat} (h : Ok w S (HeapA p most l :: Γ)) {i' x' : Int} (i x : Nat) (ei : i' = i) (ex : x' = x) (hi : i < l.length) (hx : x < 18446744073709551616) :
    Calls Try.prog 88 #[.pointer (some ⟨p, 0, none⟩), .int .i64 i', .int .u64 x'] w fun e w' => e = .returned (.bool true) ∧ To w S w' S (HeapA p most (l.set i x) :: Γ) := by
  subst ei ex
  have hl := len_spec h.heapAR
  have HL := Lib.hid hl; clear hl
  obtain ⟨v, hv, hw⟩ := h.heapA
  obtain ⟨A, c, rfl, _⟩ := row_read hv.p1
  have h1 : w.cell? ⟨p, 1, none⟩ = some (.slice A l.length c) := hv.ptCell 1 _ rfl
  obtain ⟨ad, rfl, h2, h3, h4⟩ := hv.p1.rowAt i (.int .u64 (l[i] : Nat)) (by rw [nums_get, List.getElem?_eq_getElem hi]; rfl)
  have hmost : most ≤ 1048576 := hw.1
  have hlm : l.length ≤ most := hw.2.1
  have HW := Lib.hid hw; clear hw h
  have H4 := Lib.hid (h4 (.int .u64 x)); clear h4 hv
  go_enter Try.func88, Try.ntmps88
  go_wp2_with (go_at_call 31; refine HL.out.mono ?_; rintro e w' ⟨rfl, rfl⟩)
  go_ret
  refine ⟨rfl, H4.out.p1.re fun k => Ok.heapA_mk (v := .slice (some ad) l.length c) ?_ ?_⟩
  · rw [List.length_set]
    have e : (nums l).set i (.int .u64 (x : Nat)) = nums (l.set i x) := by simp [nums, List.map_set]
    rw [← e]
    exact k
  · have hw := HW.out
    refine ⟨hw.1, by rw [List.length_set]; exact hw.2.1, fun y hy => ?_⟩
    rcases List.mem_or_eq_of_mem_set hy with hy | rfl
    · exact hw.2.2 y hy
    · exact hx
set_option maxRecDepth 100000 in
set_option maxHeartbeats 400000 in
theorem set_out {w : World} {p most : Nat} {l : List Nat} (h : HeapR w 1 0 p most l) (i : Int) (x : Int) (hi : i < 0 ∨ (l.length : Int) ≤ i) :
    Calls Try.prog 88 #[.pointer (some ⟨p, 0, none⟩), .int .i64 i, .int .u64 x] w fun e w' => e = .returned (.bool false) ∧ w' = w := by
  have hl := len_spec h
  have HL := Lib.hid hl; clear hl
  obtain ⟨⟨A, c, h1, h2⟩, h3, h4, h5, h6⟩ := h
  clear h2 h6
  by_cases h0 : i < 0
  · clear hi
    go_enter Try.func88, Try.ntmps88
    go_wp2_with (go_at_call 31; refine HL.out.mono ?_; rintro e w' ⟨rfl, rfl⟩)
    go_ret
    exact ⟨rfl, rfl⟩
  · have hi : (l.length : Int) ≤ i := by omega
    go_enter Try.func88, Try.ntmps88
    go_wp2_with (go_at_call 31; refine HL.out.mono ?_; rintro e w' ⟨rfl, rfl⟩)
    go_ret
    exact ⟨rfl, rfl⟩

/-! ### Deref -/
theorem drawn_then {w W : World} (h : Hid (∃ n, W = w.drewN n)) (n : Nat) : ∃ m, W.drewN n = w.drewN m := by
  obtain ⟨m, rfl⟩ := h.out
  exact ⟨_, World.drewN_drewN ..⟩
theorem deref_stop0 (l : List Nat) (k c : Nat) (h : tg c ≠ 0) : deref l k c = c := by cases k <;> simp [deref, h]
theorem deref_stop1 (l : List Nat) (k c : Nat) (h : l.length ≤ vl c) : deref l k c = c := by
  cases k
  · rfl
  · simp [deref, List.getElem?_eq_none h]
theorem deref_lt {most : Nat} {l : List Nat} (hw : ∀ x ∈ l, x < 18446744073709551616) : ∀ (k c : Nat), c < 18446744073709551616 → deref l k c < 18446744073709551616
  | 0, c, h => h
  | k + 1, c, h => by
    unfold deref
    split
    · split
      · rename_i d hd
        split
        · exact h
        · exact deref_lt (most := most) hw k d (hw d (List.mem_of_getElem? hd))
      · exact h
    · exact h
set_option maxRecDepth 100000 in
set_option maxHeartbeats 1000000 in
theorem deref_spec {w : World} {p most : Nat} {l : List Nat} (h : HeapR w 1 0 p most l) {c' : Int} (c : Nat) (ec : c' = c) (hc : c < 18446744073709551616) :
    Calls Try.prog 109 #[.pointer (some ⟨p, 0, none⟩), .int .u64 c'] w fun e w' => e = .returned (.int .u64 (deref l l.length c : Nat)) ∧ ∃ n, w' = w.drewN n := by
  subst ec
  have H := Lib.hid h
  clear h
  go_enter Try.func109, Try.ntmps109
  go_wp2
  refine wp_goto_loop 0 52 (fun f w' => (∃ n, w' = w.drewN n) ∧ f 0 = .pointer (some ⟨p, 0, none⟩) ∧ ∃ (d k : Nat), f 1 = .int .u64 d ∧ f 5 = .int .i64 k ∧ k ≤ l.length ∧ d < 18446744073709551616 ∧ deref l (l.length - k) d = deref l l.length c) (fun f _ => l.length - (intOf (f 5)).toNat) rfl ?pass ?first
  case first =>
    intro hp
    go_wp2
    go_step3
    go_step
    go_step
    apply hp
    exact ⟨rfl, rfl, ⟨0, rfl⟩, rfl, c, 0, rfl, rfl, Nat.zero_le _, hc, rfl⟩
  case pass =>
    rintro f W ⟨hW, f0, d, k, f1, f5, hk, hd, hq⟩
    have hR : HeapR W 1 0 p most l := by obtain ⟨n, rfl⟩ := hW; exact H.out.drewN n
    have HW := Lib.hid hW; clear hW
    obtain ⟨⟨A, cp, h1, h2⟩, h3, h4, h5, h6⟩ := hR
    have H2 := Lib.hid h2; clear h2
    have H6 := Lib.hid h6; clear h6
    show Code.wp _ _ _ ⟨#[f 0, f 1, f 2, f 3, f 4, f 5, f 6, f 7, f 8, f 9, f 10, f 11, f 12, f 13, f 14, f 15, f 16, f 17, f 18, f 19, f 20, f 21, f 22, f 23, f 24, f 25, f 26, f 27, f 28, f 29, f 30, f 31, f 32, f 33, f 34, f 35, f 36, f 37, f 38, f 39, f 40, f 41, f 42, f 43, f 44, f 45, f 46, f 47, f 48, f 49, f 50, f 51], []⟩ _
    rw [f0, f1, f5]
    have ht := tag_spec d hd
    have hv := value_spec d hd
    have HT := Lib.hid ht; clear ht
    have HV := Lib.hid hv; clear hv
    have hvl := vl_lt d hd
    have hkl : (k : Int) ≤ l.length := by omega
    have hlb : l.length ≤ 1048576 := by omega
    by_cases t0 : tg d = 0
    · have b0 : ((tg d : Int) != 0) = false := by simp [t0]
      by_cases t1 : l.length ≤ vl d
      · rw [deref_stop1 _ _ _ t1] at hq
        have HQ := Lib.hid hq; clear hq
        have b1 : decide ((l.length : Int) ≤ vl d) = true := by simp; omega
        have b1' : decide (l.length ≤ vl d) = true := by simp; omega
        clear t0
        go_wp2
        go_quiet (first | (go_at_call 126; exact Calls.quiet_of_same (HT.out _)) | (go_at_call 111; exact Calls.quiet_of_same (HV.out _)))
        go_wp2_with (go_at_call 152; refine (told_spec _).mono ?_; rintro e w' ⟨rfl, rfl⟩)
        simp only [Exit.jump]
        go_ret
        exact ⟨by rw [← HQ.out]; rfl, drawn_then HW _⟩
      · have t1' : vl d < l.length := by omega
        have b1 : decide ((l.length : Int) ≤ vl d) = false := by simp; omega
        have b1' : decide (l.length ≤ vl d) = false := by simp; omega
        have t0' := t0
        clear t0
        by_cases t2 : k = l.length
        · have b2 : ((k : Int) == l.length) = true := by simp [t2]
          have e1 : l.length - k = 0 := by omega
          rw [e1] at hq
          have HQ := Lib.hid hq; clear hq e1 t2
          go_wp2
          go_quiet (first | (go_at_call 126; exact Calls.quiet_of_same (HT.out _)) | (go_at_call 111; exact Calls.quiet_of_same (HV.out _)))
          go_wp2_with (go_at_call 152; refine (told_spec _).mono ?_; rintro e w' ⟨rfl, rfl⟩)
          simp only [Exit.jump]
          go_ret
          refine ⟨?_, drawn_then HW _⟩
          rw [← HQ.out]
          rfl
        · have b2 : ((k : Int) == l.length) = false := by simp; omega
          obtain ⟨ad, rfl, hx⟩ := H2.out (vl d) l[vl d] (List.getElem?_eq_getElem t1')
          have hy : l[vl d] < 18446744073709551616 := H6.out _ (List.getElem_mem _)
          have hs : deref l (l.length - k) d = if l[vl d] = d then d else deref l (l.length - (k + 1)) l[vl d] := by
            rw [show l.length - k = (l.length - (k + 1)) + 1 from by omega]
            simp [deref, t0', List.getElem?_eq_getElem t1']
          rw [hs] at hq
          generalize l[vl d] = y at hx hy hq
          have HQ := Lib.hid hq; clear hq hs t0' H6
          have hadd : ad.add (vl d) = ad.add (vl d) := rfl
          go_wp2
          go_quiet (first | (go_at_call 126; exact Calls.quiet_of_same (HT.out _)) | (go_at_call 111; exact Calls.quiet_of_same (HV.out _)))
          go_wp2_with fail
          go_quiet (first | (go_at_call 111; exact Calls.quiet_of_same (HV.out _)) | (go_at_call 111; exact quiet2 (HV.out _)))
          by_cases t3 : y = d
          · have b3 : ((y : Int) == d) = true := by simp [t3]
            rw [if_pos t3] at HQ
            clear t3
            go_wp2
            simp only [Exit.jump]
            go_ret
            exact ⟨by rw [← HQ.out]; rfl, drawn_then HW _⟩
          · have b3 : ((y : Int) == d) = false := by rw [beq_eq_false_iff_ne]; omega
            rw [if_neg t3] at HQ
            clear t3
            have hk1 : k + 1 ≤ l.length := by omega
            go_wp2
            go_step3
            refine ⟨rfl, ⟨rfl, rfl, ?_, rfl, y, k + 1, rfl, rfl, hk1, hy, HQ.out⟩, ?_⟩
            · obtain ⟨m, hm⟩ := HW.out
              exact ⟨m + _, by rw [hm, World.drewN_drewN]⟩
            · show l.length - (intOf (.int .i64 ((k : Int) + 1))).toNat < l.length - (intOf (.int .i64 (k : Int))).toNat
              simp only [intOf]
              omega
    · rw [deref_stop0 _ _ _ t0] at hq
      have HQ := Lib.hid hq; clear hq
      have b0 : ((tg d : Int) != 0) = true := by simp; omega
      clear t0
      go_wp2
      go_quiet (first | (go_at_call 126; exact Calls.quiet_of_same (HT.out _)) | (go_at_call 111; exact Calls.quiet_of_same (HV.out _)))
      go_wp2_with (go_at_call 152; refine (told_spec _).mono ?_; rintro e w' ⟨rfl, rfl⟩)
      simp only [Exit.jump]
      go_ret
      exact ⟨by rw [← HQ.out]; rfl, drawn_then HW _⟩
end Go.Proofs.Ytceahdlcbiialaa
set_option linter.unusedVariables false
set_option linter.unusedSimpArgs false
namespace Go.Proofs.Ytceahdlcbiialaa
open Go.RowKit

set_option maxRecDepth 100000 in
set_option maxHeartbeats 400000 in
theorem rpush_full {w : World} {p most : Nat} {l : List Nat} (h : HeapR w 0 1 p most l) (x : Int) (hl : l.length = most) :
    Calls Try.prog 45 #[.pointer (some ⟨p, 0, none⟩), .int .u64 x] w fun e w' => e = .returned (.tuple #[.int .i64 0, .int .i64 4]) ∧ ∃ n, w' = w.drewN n := by
  obtain ⟨⟨A, c, h1, h2⟩, h3, h4, h5, h6⟩ := h
  clear h2 h6
  rw [← hl] at h3
  clear hl
  have hd : decide ((l.length : Int) ≤ l.length) = true := by simp
  go_enter Try.func45, Try.ntmps45
  go_wp2_with fail
  go_quiet (fail)
  go_wp2_with fail
  go_ret2
  exact ⟨rfl, _, rfl⟩
set_option maxRecDepth 100000 in
set_option maxHeartbeats 400000 in
theorem rpush_ok {w : World} {S : Blk} {Γ : List Asn} {p most : Nat} {l : List Nat} (h : Ok w S (HeapB p most l :: Γ)) {x' : Int} (x : Nat) (ex : x' = x) (hx : x < 18446744073709551616) (hl : l.length < most) :
    Calls Try.prog 45 #[.pointer (some ⟨p, 0, none⟩), .int .u64 x'] w fun e w' => e = .returned (.tuple #[.int .i64 l.length, .int .i64 0]) ∧ To w S w' S (HeapB p most (l ++ [x]) :: Γ) := by
  subst ex
  obtain ⟨v, hv, hw⟩ := h.heapB
  obtain ⟨A, c, rfl, _⟩ := row_read hv.p1
  have h1 : w.cell? ⟨p, 0, none⟩ = some (.slice A l.length c) := hv.ptCell 0 _ rfl
  have h3 : w.cell? ⟨p, 1, none⟩ = some (.int .i64 most) := hv.ptCell 1 _ rfl
  have hmost : most ≤ 1048576 := hw.1
  have H := Lib.hid (hv.to.p1); clear hv
  have HW := Lib.hid hw; clear hw h
  have he : decide (most ≤ l.length) = false := by simp; omega
  go_enter Try.func45, Try.ntmps45
  go_wp2_with fail
  go_quiet (fail)
  go_wp2_with (at_builtin; refine wpList_append_new rfl (.tmp 20) (.tmp 22) 62 34 (.int .u64 0) 1 8 rfl Try.underlying62 info34 rfl (by decide) (by decide) (H.out.drewN _) rfl #[.int .u64 x] rfl rfl (by simp [Value.oneCell']) (by omega) ?_)
  intro A' c' W' H2
  have hp := H2.p1
  have h1 : W'.cell? ⟨p, 0, none⟩ = some (.slice A l.length c) := hp.ok.ptCell 0 _ rfl
  have h2 := hp.ok.ptFree 0
  have HP := Lib.hid hp; clear hp H2
  go_wp2
  go_ret2
  refine ⟨rfl, ?_⟩
  have H3 := HP.out.ptSet 0 (.slice A' (l.length + 1) c')
  refine H3.re fun k => Ok.heapB_mk (v := .slice A' (l.length + 1) c') ?_ (HW.out.snoc hx hl)
  simpa [nums] using k
set_option maxRecDepth 100000 in
set_option maxHeartbeats 400000 in
theorem rvar_ok {w : World} {S : Blk} {Γ : List Asn} {p most : Nat} {l : List Nat} (h : Ok w S (HeapB p most l :: Γ)) (hl : l.length < most) :
    Calls Try.prog 124 #[.pointer (some ⟨p, 0, none⟩)] w fun e w' => e = .returned (.tuple #[.int .i64 l.length, .int .i64 0]) ∧ To w S w' S (HeapB p most (l ++ [mkc 0 l.length]) :: Γ) := by
  obtain ⟨⟨A, c, h1, h2⟩, h3, h4, h5, h6⟩ := h.heapBR
  clear h2 h6 h3 h5
  have H := Lib.hid h; clear h
  have hb : l.length ≤ 1048576 := by omega
  go_enter Try.func124, Try.ntmps124
  go_wp2_with (first | (go_at_call 85; refine (rmake_spec 0 l.length (by simp) rfl (by omega) (by omega) _).mono ?_; rintro e w' ⟨rfl, rfl⟩) | (go_at_call 45; refine (rpush_ok H.out (mkc 0 l.length) rfl (by unfold mkc; omega) hl).mono ?_; rintro e w' ⟨rfl, hq⟩))
  go_ret2
  exact ⟨rfl, hq⟩
set_option maxRecDepth 100000 in
set_option maxHeartbeats 400000 in
theorem rvar_full {w : World} {p most : Nat} {l : List Nat} (h : HeapR w 0 1 p most l) (hl : l.length = most) :
    Calls Try.prog 124 #[.pointer (some ⟨p, 0, none⟩)] w fun e w' => e = .returned (.tuple #[.int .i64 0, .int .i64 4]) ∧ ∃ n, w' = w.drewN n := by
  obtain ⟨⟨A, c, h1, h2⟩, h3, h4, h5, h6⟩ := id h
  clear h2 h6 h3 h5
  have H := Lib.hid h; clear h
  have hb : l.length ≤ 1048576 := by omega
  have HL := Lib.hid hl; clear hl
  go_enter Try.func124, Try.ntmps124
  go_wp2_with (first | (go_at_call 85; refine (rmake_spec 0 l.length (by simp) rfl (by omega) (by omega) _).mono ?_; rintro e w' ⟨rfl, rfl⟩) | (go_at_call 45; refine (rpush_full H.out _ HL.out).mono ?_; rintro e w' ⟨rfl, n, rfl⟩))
  go_ret2
  exact ⟨rfl, _, rfl⟩
set_option maxRecDepth 100000 in
set_option maxHeartbeats 400000 in
theorem rin_spec {w : World} {p most : Nat} {l : List Nat} (h : HeapR w 0 1 p most l) (i : Nat) :
    Calls Try.prog 134 #[.pointer (some ⟨p, 0, none⟩), .int .u64 i] w fun e w' => e = .returned (.bool (decide (i < l.length))) ∧ w' = w := by
  obtain ⟨⟨A, c, h1, h2⟩, h3, h4, h5, h6⟩ := h
  clear h2 h6 h3
  have hb : l.length ≤ 1048576 := by omega
  go_enter Try.func134, Try.ntmps134
  go_wp2
  go_ret
  exact ⟨rfl, rfl⟩
set_option maxRecDepth 100000 in
set_option maxHeartbeats 1000000 in
theorem rderef_spec {w : World} {p most : Nat} {l : List Nat} (h : HeapR w 0 1 p most l) {c' : Int} (c : Nat) (ec : c' = c) (hc : c < 18446744073709551616) :
    Calls Try.prog 113 #[.pointer (some ⟨p, 0, none⟩), .int .u64 c'] w fun e w' => e = .returned (.int .u64 (deref l l.length c : Nat)) ∧ ∃ n, w' = w.drewN n := by
  subst ec
  have H := Lib.hid h
  obtain ⟨⟨A, cp, h1, h2⟩, h3, h4, h5, h6⟩ := h
  clear h2 h6 h3
  go_enter Try.func113, Try.ntmps113
  go_wp2
  go_loopw [1, 10] (fun d k w' => (∃ n, w' = w.drewN n) ∧ ∃ (dn kn : Nat), d = .int .u64 dn ∧ k = .int .i64 kn ∧ kn ≤ l.length ∧ dn < 18446744073709551616 ∧ deref l (l.length - kn) dn = deref l l.length c) (fun _ k _ => l.length - (intOf k).toNat)
  case atStart => exact ⟨⟨0, rfl⟩, c, 0, rfl, rfl, Nat.zero_le _, hc, rfl⟩
  case round =>
    obtain ⟨hW, d, k, rfl, rfl, hk, hd, hq⟩ := hrel
    have hR : HeapR wr 0 1 p most l := by obtain ⟨n, rfl⟩ := hW; exact H.out.drewN n
    have HR := Lib.hid hR
    have HW := Lib.hid hW; clear hW
    clear h1
    obtain ⟨⟨A, cp, h1, h2⟩, h3, h4, h5, h6⟩ := hR
    have H2 := Lib.hid h2; clear h2
    have H6 := Lib.hid h6; clear h6 h3
    have ht := rtag_spec d hd
    have hv := rvalue_spec d hd
    have HT := Lib.hid ht; clear ht
    have HV := Lib.hid hv; clear hv
    have hvl := vl_lt d hd
    by_cases t2 : k < l.length
    · have e2 : l.length - k = (l.length - (k + 1)) + 1 := by omega
      by_cases t0 : tg d = 0
      · have b0 : ((tg d : Int) != 0) = false := by simp [t0]
        by_cases t1 : l.length ≤ vl d
        · rw [deref_stop1 _ _ _ t1] at hq
          have HQ := Lib.hid hq; clear hq e2
          have b1 : decide (vl d < l.length) = false := by simp; omega
          clear t0 t1
          go_wp2
          go_quiet (first | (go_at_call 133; exact Calls.quiet_of_same (HT.out _)) | (go_at_call 132; exact Calls.quiet_of_same (HV.out _)) | (go_at_call 134; exact Calls.quiet_of_same (rin_spec (HR.out.drewN _) _)))
          go_wp2
          go_ret
          exact ⟨by rw [← HQ.out]; rfl, drawn_then HW _⟩
        · have t1' : vl d < l.length := by omega
          have b1 : decide (vl d < l.length) = true := by simp; omega
          obtain ⟨ad, rfl, hx⟩ := H2.out (vl d) l[vl d] (List.getElem?_eq_getElem t1')
          have hy : l[vl d] < 18446744073709551616 := H6.out _ (List.getElem_mem _)
          have hs : deref l (l.length - k) d = if l[vl d] = d then d else deref l (l.length - (k + 1)) l[vl d] := by
            rw [e2]
            simp [deref, t0, List.getElem?_eq_getElem t1']
          rw [hs] at hq
          generalize l[vl d] = y at hx hy hq
          have HQ := Lib.hid hq; clear hq hs e2 t0 H6
          by_cases t3 : y = d
          · have b3 : ((y : Int) == d) = true := by simp [t3]
            rw [if_pos t3] at HQ
            clear t3
            go_wp2
            go_quiet (first | (go_at_call 133; exact Calls.quiet_of_same (HT.out _)) | (go_at_call 132; exact Calls.quiet_of_same (HV.out _)) | (go_at_call 134; exact Calls.quiet_of_same (rin_spec (HR.out.drewN _) _)))
            go_wp2
            go_ret
            exact ⟨by rw [← HQ.out]; rfl, drawn_then HW _⟩
          · have b3 : ((y : Int) == d) = false := by rw [beq_eq_false_iff_ne]; omega
            rw [if_neg t3] at HQ
            clear t3
            go_wp2
            go_quiet (first | (go_at_call 133; exact Calls.quiet_of_same (HT.out _)) | (go_at_call 132; exact Calls.quiet_of_same (HV.out _)) | (go_at_call 134; exact Calls.quiet_of_same (rin_spec (HR.out.drewN _) _)))
            go_wp2_with fail
            go_quiet (first | (go_at_call 132; exact Calls.quiet_of_same (HV.out _)) | (go_at_call 132; exact quiet2 (HV.out _)))
            go_wp2
            go_roundw
            case rel => exact ⟨by obtain ⟨m, hm⟩ := HW.out; exact ⟨m + _, by rw [hm, World.drewN_drewN]⟩, y, k + 1, rfl, by go_num, by omega, hy, HQ.out⟩
            case measure => simp [intOf]; omega
      · rw [deref_stop0 _ _ _ t0] at hq
        have HQ := Lib.hid hq; clear hq
        have b0 : ((tg d : Int) != 0) = true := by simp; omega
        clear t0 e2
        go_wp2
        go_quiet (first | (go_at_call 133; exact Calls.quiet_of_same (HT.out _)) | (go_at_call 132; exact Calls.quiet_of_same (HV.out _)) | (go_at_call 134; exact Calls.quiet_of_same (rin_spec (HR.out.drewN _) _)))
        go_wp2
        go_ret
        exact ⟨by rw [← HQ.out]; rfl, drawn_then HW _⟩
    · have e2 : l.length - k = 0 := by omega
      rw [e2] at hq
      have HQ := Lib.hid hq; clear hq e2
      go_wp2
      go_ret
      exact ⟨by rw [← HQ.out]; rfl, HW.out⟩
end Go.Proofs.Ytceahdlcbiialaa
