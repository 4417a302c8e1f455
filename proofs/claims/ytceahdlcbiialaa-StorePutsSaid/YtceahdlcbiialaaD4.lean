/- StoreSmall: the walk. -/
import Derived.Test.YtceahdlcbiialaaB4
import Derived.Test.YtceahdlcbiialaaC5
set_option linter.unusedVariables false
set_option linter.unusedSimpArgs false
namespace Go.Proofs.Ytceahdlcbiialaa
open Go.RowKit

@[local go_sem] theorem run_store_fn {P : Program} {w : World} {a : Addr} {m : Mode} (fn : Fn) (first captured : Array Value) : (store a (.func fn first captured) m).run P w = stored P w a (.func fn first captured) m := run_store P w a _ m rfl
/-- One term in a block of its own. -/
theorem kids_one {w : World} {S : Blk} {g : Nat} {t : Tm} {A : Option Addr} {cap : Nat} (hS : S g) (hg : w.heap[g]? = some (.cells #[.int .i64 t.k, .string t.s, .int .i64 t.n, .int .u64 t.re, .int .u64 t.im, .slice A t.xs.length cap] 25 (0, 0)))
    (hT : TmC w S [.int .i64 t.k, .string t.s, .int .i64 t.n, .int .u64 t.re, .int .u64 t.im, .slice A t.xs.length cap] t) : Kids w S (some ⟨g, 0, none⟩) [t] := by
  intro i x hx
  have hlt := (List.getElem?_eq_some_iff.1 hx).1
  simp at hlt
  subst hlt
  simp at hx
  subst hx
  refine ⟨g, 0, A, cap, rfl, hS, ?_, ?_, ?_, ?_, ?_, ?_, hT⟩ <;> simp [World.cell?, hg]

theorem Ok.six {w : World} {S : Blk} {Γ : List Asn} {b : Nat} {t : Tm} {A : Option Addr} {cap : Nat} (h : Ok w S (Pt b #[.int .i64 t.k, .string t.s, .int .i64 t.n, .int .u64 t.re, .int .u64 t.im, .slice A t.xs.length cap] 25 :: Γ)) : w.cell? ⟨b, 0, none⟩ = some (.int .i64 t.k) ∧ w.cell? ⟨b, 1, none⟩ = some (.string t.s) ∧ w.cell? ⟨b, 2, none⟩ = some (.int .i64 t.n) ∧
    w.cell? ⟨b, 3, none⟩ = some (.int .u64 t.re) ∧ w.cell? ⟨b, 4, none⟩ = some (.int .u64 t.im) ∧ w.cell? ⟨b, 5, none⟩ = some (.slice A t.xs.length cap) ∧ b < w.heap.size :=
  ⟨h.ptCell 0 _ rfl, h.ptCell 1 _ rfl, h.ptCell 2 _ rfl, h.ptCell 3 _ rfl, h.ptCell 4 _ rfl, h.ptCell 5 _ rfl, h.ptLt⟩

set_option maxRecDepth 100000 in
set_option maxHeartbeats 4000000 in
theorem small_spec {w : World} {S : Blk} {Γ : List Asn} {cs : List Value} {t : Tm} (hO : Ok w S Γ) (hT : TmC w S cs t) : Calls Try.prog 3 #[.agg cs.toArray] w fun e w' => e = .returned (.bool true) ∧ To w S w' S Γ := by
  obtain ⟨A, cap, rfl⟩ := hT.form0
  have h1 := hO.to.allocPt #[.int .i64 t.k, .string t.s, .int .i64 t.n, .int .u64 t.re, .int .u64 t.im, .slice A t.xs.length cap] 25
  have h2 := h1.allocPt #[.int .i64 t.k, .string t.s, .int .i64 t.n, .int .u64 t.re, .int .u64 t.im, .slice A t.xs.length cap] 25
  have hg := h2.ok.ptHeap
  have h3 := h2.trans h2.ok.seal1
  simp only [World.size_alloc] at h3 hg
  obtain ⟨S1, hS1⟩ : ∃ S1 : Blk, S1 = fun x => S x ∨ x = w.heap.size + 1 := ⟨_, rfl⟩
  rw [← hS1] at h3
  have hsb : S1 (w.heap.size + 1) := by rw [hS1]; exact .inr rfl
  clear hS1 h1 h2
  have hT3 := hT.to h3
  have hL := Light_spec (cap := 1) (kids_one hsb hg hT3) (by simp)
  have HL := Lib.hid hL; clear hL hg
  have H3 := Lib.hid h3; clear h3
  have HT3 := Lib.hid hT3; clear hT3 hT hO
  generalize hlv : Light [t] 0 4000 = lv at HL
  clear hlv
  cases lv with
  | false =>
    go_enter Try.func3, Try.ntmps3
    go_wp2_with (first | (go_at_call 23; refine HL.out.mono ?_; rintro e w1 ⟨rfl, hB⟩; have H4 := Lib.hid (H3.out.below hB); clear hB) | (go_at_call 25; refine (awake7_spec H4.out.ok).mono ?_; rintro e w2 ⟨rfl, h5⟩))
    go_ret
    exact ⟨rfl, (H4.out.trans h5).plain.drop⟩
  | true =>
    by_cases hm : May t = 0
    case neg =>
      have hmb : ((May t : Int) != 0) = true := by simp [bne]; omega
      clear hm
      go_enter Try.func3, Try.ntmps3
      go_wp2_with (first | (go_at_call 23; refine HL.out.mono ?_; rintro e w1 ⟨rfl, hB⟩; have h4 := H3.out.below hB; obtain ⟨m0, m1, m2, m3, m4, m5, m6⟩ := h4.ok.six; have HT4 := Lib.hid (HT3.out.to (H3.out.ok.below hB)); have H4 := Lib.hid h4; clear h4 hB) | (go_at_call 24; refine (May_spec H4.out.ok HT4.out).mono ?_; rintro e w2 ⟨rfl, h5⟩; have H5 := Lib.hid (H4.out.trans h5); clear h5) | (go_at_call 25; refine (awake7_spec H5.out.ok).mono ?_; rintro e w3 ⟨rfl, h6⟩))
      go_ret
      exact ⟨rfl, (H5.out.trans h6).plain.drop⟩
    case pos =>
      obtain ⟨p1, p2, p3⟩ := put_small hm
      generalize hr : putP 1048576 t ⟨[], names0, []⟩ = r at p1 p2
      obtain ⟨⟨rc, re⟩, rs⟩ := r
      simp only at p1 p2
      subst p1
      have HRR := Lib.hid hr; clear hr
      have HM := Lib.hid hm; clear hm
      go_enter Try.func3, Try.ntmps3
      go_wp2_with (first | (go_at_call 23; refine HL.out.mono ?_; rintro e w1 ⟨rfl, hB⟩; have h4 := H3.out.below hB; obtain ⟨m0, m1, m2, m3, m4, m5, m6⟩ := h4.ok.six; have HT4 := Lib.hid (HT3.out.to (H3.out.ok.below hB)); have H4 := Lib.hid h4; clear h4 hB) | (go_at_call 24; refine (May_spec H4.out.ok HT4.out).mono ?_; rw [HM.out]; rintro e w2 ⟨rfl, h5⟩; have HT5 := Lib.hid (HT4.out.to h5); have H5 := Lib.hid (H4.out.trans h5); clear h5) | (go_at_call 26; refine (new_spec H5.out.ok 1048576 1048576 rfl (Nat.le_refl _)).mono ?_; rintro e w3 ⟨hp, rfl, h6⟩; have HT6 := Lib.hid (HT5.out.to h6); have H6 := Lib.hid (H5.out.trans h6); clear h6) | (go_at_call 27; refine (anew_spec H6.out.ok).mono ?_; rintro e w4 ⟨ap, rfl, h7⟩; have h7' := H6.out.trans h7; obtain ⟨u0, u1, u2, u3, u4, u5, u6⟩ := h7'.ok.p2.six; have HT7 := Lib.hid (HT6.out.to h7); have H7 := Lib.hid h7'; clear h7 h7'))
      have hput := put_nil H7.out.ok.p1 HT7.out
      rw [HRR.out] at hput
      have HP := Lib.hid hput; clear hput
      refine HP.out.mono ?_
      rintro e w5 ⟨rfl, h8⟩
      have h8' := H7.out.trans h8
      obtain ⟨v0, v1, v2, v3, v4, v5, v6⟩ := h8'.ok.p2.six
      have HT8 := Lib.hid (HT7.out.to h8)
      have H8 := Lib.hid h8'; clear h8 h8'
      clear m0 m1 m2 m3 m4 m5 u0 u1 u2 u3 u4 u5
      have h9 := (H8.out.ok.to.allocPt #[.int .i64 ((0 : Nat) : Int)] 3).allocPt #[.func (.func 29) #[] #[.pointer (some ⟨w5.heap.size, 0, none⟩), .pointer (some ⟨w5.heap.size + 1, 0, none⟩)]] 37
      have hfc := h9.ok.ptCell 0 _ rfl
      have ha := h9.trans h9.ok.seal1
      simp only [World.size_alloc] at ha hfc
      clear h9
      have hcn := cnt_spec t _ _ _ _ w5.heap.size (w5.heap.size + 1) true 0 ha.ok (HT8.out.to ha) (.inr rfl) hfc (by omega)
      have HCN := Lib.hid hcn; clear hcn hfc
      have H10 := Lib.hid (H8.out.trans ha); clear ha
      go_wp2_with fail
      refine HCN.out.mono ?_
      rintro e w6 ⟨rfl, h11⟩
      have hd := H10.out.trans h11 |>.drew
      clear h11
      have hnc : w6.drew.cell? ⟨w5.heap.size, 0, none⟩ = some (.int .i64 (rs.C.length : Int)) := by
        have := hd.ok.ptCell 0 _ rfl
        rw [this, p2, Nat.zero_add]
        rfl
      have hlen := len_spec hd.ok.p1.heapAR
      have haw := (awake7_spec hd.ok).mono (R' := fun e w' => e = .returned (.bool true) ∧ Hid (To w S w' S Γ) ∧ w'.cell? ⟨w5.heap.size, 0, none⟩ = some (.int .i64 (rs.C.length : Int)))
        (fun e w' ⟨k1, k2⟩ => ⟨k1, Lib.hid ((hd.trans k2).plain.drop.drop.drop.drop), by
          have := k2.ok.ptCell 0 _ rfl
          rw [this, p2, Nat.zero_add]
          rfl⟩)
      have HLEN := Lib.hid hlen; clear hlen
      have HAW := Lib.hid haw; clear haw hd
      clear v0 v1 v2 v3 v4 v5 p2
      go_wp2_with fail
      go_region_held3 (fun X => X.cell? ⟨w5.heap.size, 0, none⟩ = some (.int .i64 (rs.C.length : Int))) (go_keep) (first | (go_at_call 31; refine HLEN.out.mono ?_; rintro e w7 ⟨rfl, hww⟩; subst w7) | (go_at_call 25; refine HAW.out.mono ?_; rintro e w8 ⟨rfl, HF, hcell⟩))
      go_wp2
      go_ret
      exact ⟨rfl, HF.out⟩
#print axioms small_spec
end Go.Proofs.Ytceahdlcbiialaa
