/- The reference's Put; same of the laws on store. StoreGets: what its function answers. -/
import Derived.Test.YtceahdlcbiialaaF5M31
import Derived.Test.YtceahdlcbiialaaF5M29
import Derived.Test.YtceahdlcbiialaaF5M30
import Derived.Test.YtceahdlcbiialaaF5M15
import Derived.Test.YtceahdlcbiialaaF5M17
set_option linter.unusedVariables false
set_option linter.unusedSimpArgs false
namespace Go.Proofs.Ytceahdlcbiialaa
open Go.RowKit

@[local go_sem] theorem eql_someMapR (m : Nat) (w : World) : (binOp .eql 52 (.map (some m)) (.map none)).run Try.prog w = .ok (.bool false) w := by kernel_rfl
set_option maxRecDepth 100000 in
set_option maxHeartbeats 2000000 in
theorem rPut_spec {w : World} {S : Blk} {Γ : List Asn} {h a m most : Nat} {st : St} {t : Tm} {cs : List Value} (hO : Ok w S (RefG h a m most st Γ)) (hT : TmC w S cs t) (hV : VOk st.V) :
    Calls Try.prog 39 #[.pointer (some ⟨h, 0, none⟩), .pointer (some ⟨a, 0, none⟩), .agg cs.toArray, .map (some m)] w fun e w' =>
      e = .returned (.tuple #[.int .u64 (putP most t st).1.1, .int .i64 (putP most t st).1.2]) ∧ To w S w' S (RefG h a m most (putP most t st).2 Γ) := by
  obtain ⟨A, cap, rfl⟩ := hT.form0
  have h1 := (hO.to.allocPt' #[.int .i64 t.k, .string t.s, .int .i64 t.n, .int .u64 t.re, .int .u64 t.im, .slice A t.xs.length cap] 25 w.heap.size rfl).p3.p3.p3
  have hm := May_spec h1.ok (hT.to h1)
  have HM := Lib.hid hm; clear hm
  have HT := Lib.hid (hT.to h1); clear hT
  have H1 := Lib.hid h1; clear h1 hO
  by_cases h0 : May t = 0
  · obtain ⟨hnod, hgood⟩ := May_zero h0
    obtain ⟨oo, hoo⟩ : ∃ oo, oo = lay most t (-1) st := ⟨_, rfl⟩
    have hp : putP most t st = if oo.1.2 ≠ 0 then ((0, oo.1.2), oo.2) else ((oo.1.1, 0), oo.2) := by
      unfold putP
      rw [if_neg (by simp [h0]), fin_tm _ _ _ _ _ _ (show lay most t (-1) st = ((oo.1.1, oo.1.2), oo.2) from by rw [← hoo])]
      simp [fin, St.atI]
    rw [h0] at HM
    have HG := Lib.hid hgood; clear hgood
    have HV := Lib.hid hV; clear hV
    have HP := Lib.hid hp; clear hp
    have HOO := Lib.hid hoo; clear hoo
    by_cases he : oo.1.2 = 0
    · have HE := Lib.hid he; clear he h0
      go_enter Try.func39, Try.ntmps39
      go_wp2_with (go_at_call 24; refine HM.out.mono ?_; rintro e w2 ⟨rfl, h2⟩; obtain ⟨⟨x0, x1, x2, x3, x4, x5⟩, -, x6⟩ := h2.p3.ok.pt6; have HT2 := Lib.hid (HT.out.to h2); have H2 := Lib.hid (H1.out.trans h2); clear h2)
      refine (rput_spec t _ S _ _ h a m most st (-1) H2.out.ok HT2.out HG.out HV.out (by omega) (by omega)).mono ?_
      rintro e w3 ⟨c, rfl, hc, h3⟩
      rw [← HOO.out] at hc h3
      rw [← HOO.out, HE.out]
      have hc' := hc HE.out
      subst hc'
      have H3 := Lib.hid (H2.out.trans h3).p3.drop
      clear h3 x0 x1 x2 x3 x4 x5 hc
      go_wp2
      go_ret2
      rw [HP.out, if_neg (by simp [HE.out])]
      exact ⟨rfl, H3.out⟩
    · have heb : ((oo.1.2 : Int) != 0) = true := by simp [bne]; omega
      have HE := Lib.hid he; clear he h0
      go_enter Try.func39, Try.ntmps39
      go_wp2_with (go_at_call 24; refine HM.out.mono ?_; rintro e w2 ⟨rfl, h2⟩; obtain ⟨⟨x0, x1, x2, x3, x4, x5⟩, -, x6⟩ := h2.p3.ok.pt6; have HT2 := Lib.hid (HT.out.to h2); have H2 := Lib.hid (H1.out.trans h2); clear h2)
      refine (rput_spec t _ S _ _ h a m most st (-1) H2.out.ok HT2.out HG.out HV.out (by omega) (by omega)).mono ?_
      rintro e w3 ⟨c, rfl, hc, h3⟩
      rw [← HOO.out] at h3
      rw [← HOO.out]
      have H3 := Lib.hid (H2.out.trans h3).p3.drop
      clear h3 x0 x1 x2 x3 x4 x5 hc
      go_wp2
      go_ret2
      rw [HP.out, if_pos HE.out]
      exact ⟨rfl, H3.out⟩
  · have hp : putP most t st = ((0, May t), st) := by unfold putP; rw [if_pos h0]
    rw [hp]
    have hb : ((May t : Int) != 0) = true := by simp [bne]; omega
    clear hp h0
    go_enter Try.func39, Try.ntmps39
    go_wp2_with (go_at_call 24; refine HM.out.mono ?_; rintro e w2 ⟨rfl, h2⟩; have H2 := Lib.hid (H1.out.trans h2).p3.drop; clear h2)
    go_ret2
    exact ⟨rfl, H2.out⟩
#print axioms rPut_spec
end Go.Proofs.Ytceahdlcbiialaa
set_option linter.unusedVariables false
set_option linter.unusedSimpArgs false
namespace Go.Proofs.Ytceahdlcbiialaa
open Go.RowKit

/-- The names' table, behind these. -/
def nmsOf (l : List ByteArray) : List ByteArray := l.foldl (fun L s => (number L s).2) names0
theorem nmsOf_take (l : List ByteArray) (j : Nat) (x : ByteArray) (hx : l[j]? = some x) : nmsOf (l.take (j + 1)) = (number (nmsOf (l.take j)) x).2 := by
  unfold nmsOf
  rw [List.take_add_one, hx, List.foldl_append]
  rfl
set_option maxRecDepth 100000 in
set_option maxHeartbeats 8000000 in
theorem gets_spec {w : World} {S : Blk} {Γ : List Asn} {A B : Option Addr} {cap cap2 : Nat} {cells : List Nat} {names : List ByteArray} {c' : Int} (hO : Ok w S Γ) (hA : WordsIn w S A cells ∧ cells.length ≤ 140737488351232) (hB : StrsIn w S B names ∧ names.length ≤ 140737488351232) (hc : (Lit.int .u64 c').wf = true) :
    Calls Try.prog 7 #[.slice A cells.length cap, .slice B names.length cap2, .int .u64 c'] w fun e w' => e = .returned (.bool true) ∧ To w S w' S Γ := by
  obtain ⟨hA, hA2⟩ := hA
  obtain ⟨hB, hB2⟩ := hB
  have H := Lib.hid hO; clear hO
  by_cases h8 : 80 < cells.length
  · clear hc
    go_enter Try.func7, Try.ntmps7
    go_wp2_with (first | (go_at_call 25; refine (awake7_spec H.out).mono ?_; rintro e w2 ⟨rfl, h5⟩))
    go_ret
    exact ⟨rfl, h5⟩
  by_cases h20 : 20 < names.length
  · clear hc
    go_enter Try.func7, Try.ntmps7
    go_wp2_with (first | (go_at_call 25; refine (awake7_spec H.out).mono ?_; rintro e w2 ⟨rfl, h5⟩))
    go_ret
    exact ⟨rfl, h5⟩
  have HA := Lib.hid hA
  have HB := Lib.hid hB
  clear hA hB
  have hcb := bu64 hc
  obtain ⟨c, rfl⟩ : ∃ c : Nat, c' = (c : Int) := ⟨c'.toNat, by omega⟩
  have hcl : c < 18446744073709551616 := by omega
  clear hc hcb
  go_enter Try.func7, Try.ntmps7
  go_wp2_with fail
  refine (new_spec H.out (100 : Int) 100 rfl (by omega)).mono ?_
  rintro e w2 ⟨p, rfl, h2⟩
  have H5 := Lib.hid h2; clear h2
  go_wp2_with fail
  refine (anew_spec H5.out.ok).mono ?_
  rintro e w3 ⟨a, rfl, h2⟩
  have H6 := Lib.hid (H5.out.trans h2); clear h2 H5
  go_wp2_with fail
  refine (rnew_spec H6.out.ok (100 : Int) 100 rfl (by omega)).mono ?_
  rintro e w4 ⟨q, rfl, h2⟩
  have H7 := Lib.hid (H6.out.trans h2); clear h2 H6
  go_wp2_with fail
  refine (ranew_spec H7.out.ok).mono ?_
  rintro e w5 ⟨b, rfl, h2⟩
  have H8 := Lib.hid (H7.out.trans h2).p1.p2.p3; clear h2 H7
  go_wp2_with fail
  go_loopw [34] (fun i wr => ∃ (j : Nat), i = .int .i64 (j : Int) ∧ j ≤ cells.length ∧ To w S wr S (HeapA p 100 (cells.take j) :: AtomsA a names0 :: HeapB q 100 (cells.take j) :: AtomsB b names0 :: Γ)) (fun i _ => cells.length - (intOf i).toNat)
  case atStart => exact ⟨0, rfl, Nat.zero_le _, H8.out⟩
  case round =>
    obtain ⟨j, rfl, hj, hTo⟩ := hrel
    by_cases hlt : j < cells.length
    · have hx : cells[j]? = some cells[j] := List.getElem?_eq_getElem hlt
      obtain ⟨hxb, g, o, rfl, hS, g0⟩ := HA.out j _ hx
      have htk : cells.take (j + 1) = cells.take j ++ [cells[j]] := by rw [List.take_add_one, hx]; rfl
      have htl : (cells.take j).length < 100 := by rw [List.length_take]; omega
      generalize cells[j] = x at hx hxb g0 htk
      have f0 := hTo.cell (a := ⟨g, _, none⟩) hS g0
      have HTK := Lib.hid htk
      have HTL := Lib.hid htl
      have HX := Lib.hid hxb
      have HT := Lib.hid hTo
      clear g0 hx hxb htk htl hTo
      go_wp2_with fail
      refine (push_ok HT.out.ok x rfl HX.out HTL.out).mono ?_
      rintro e w6 ⟨rfl, h2⟩
      have H9 := Lib.hid (HT.out.trans h2).p2
      clear h2
      go_wp2_with fail
      refine (rpush_ok H9.out.ok x rfl HX.out HTL.out).mono ?_
      rintro e w7 ⟨rfl, h2⟩
      have H10 := Lib.hid (H9.out.trans h2).p2.p2
      clear h2
      go_wp2
      go_roundw
      case rel =>
        refine ⟨j + 1, by go_num, by omega, ?_⟩
        rw [HTK.out]
        exact H10.out
      case measure => simp [intOf]; omega
    · obtain rfl : j = cells.length := by omega
      rw [List.take_length] at hTo
      have H9 := Lib.hid hTo
      clear hTo hlt H8 HA
      go_wp2_with fail
      go_loopw [47] (fun i wr => ∃ (j : Nat), i = .int .i64 (j : Int) ∧ j ≤ names.length ∧ To w S wr S (HeapA p 100 cells :: AtomsA a (nmsOf (names.take j)) :: HeapB q 100 cells :: AtomsB b (nmsOf (names.take j)) :: Γ)) (fun i _ => names.length - (intOf i).toNat)
      case atStart => exact ⟨0, rfl, Nat.zero_le _, H9.out⟩
      case round =>
        obtain ⟨j, rfl, hj2, hTo⟩ := hrel
        by_cases hlt : j < names.length
        · have hx : names[j]? = some names[j] := List.getElem?_eq_getElem hlt
          obtain ⟨hxb, g, o, rfl, hS, g0⟩ := HB.out j _ hx
          have htk := nmsOf_take names j _ hx
          generalize names[j] = x at hx hxb g0 htk
          have f0 := hTo.cell (a := ⟨g, _, none⟩) hS g0
          have HTK := Lib.hid htk
          have HX := Lib.hid hxb
          have HT := Lib.hid hTo.p1
          clear g0 hx hxb htk hTo
          go_wp2_with fail
          refine (number_spec HT.out.ok x HX.out).mono ?_
          rintro e w6 ⟨rfl, h2⟩
          have H10 := Lib.hid (HT.out.trans h2).p3
          clear h2
          go_wp2_with fail
          refine (rnumber_spec H10.out.ok x HX.out).mono ?_
          rintro e w7 ⟨rfl, h2⟩
          have H11 := Lib.hid (H10.out.trans h2).p3.p2.p3
          clear h2
          go_wp2
          go_roundw
          case rel =>
            refine ⟨j + 1, by go_num, by omega, ?_⟩
            rw [HTK.out]
            exact H11.out
          case measure => simp [intOf]; omega
        · obtain rfl : j = names.length := by omega
          rw [List.take_length] at hTo
          generalize nmsOf names = L at hTo
          have hL := hTo.p1.ok.atomsAR.2
          have heq := rd_equal (C := cells) hL c
          have hget := get_nil hTo.ok c hcl rfl
          obtain ⟨RES, hres⟩ : ∃ RES, RES = rd cells L 500 c ⟨[], 0⟩ := ⟨_, rfl⟩
          have hrg := fun (X : World) (SX : Blk) (Δ : List Asn) (hX : Ok X SX (HeapB q 100 cells :: AtomsB b L :: Δ)) => rget_nil hX c hcl rfl
          have hso := fun (X : World) (SX : Blk) (Δ : List Asn) (hX : Ok X SX (HeapA p 100 cells :: AtomsA a L :: Δ)) => sound_spec hX c hcl rfl
          rw [← hres] at heq hget hrg hso
          have HEQ := Lib.hid heq
          have HG := Lib.hid hget
          have HRG := Lib.hid hrg
          have HSO := Lib.hid hso
          have HT := Lib.hid hTo
          clear heq hget hrg hso hTo hL hres hlt H9 HB
          go_wp2_with fail
          refine HG.out.mono ?_
          rintro e w6 ⟨tc, S6, hq, rfl, h6, hk⟩
          obtain ⟨⟨k, sx, n, re, im, xs⟩, A1, cp⟩ := tc
          simp only [Tc.six, Tm.k, Tm.s, Tm.n, Tm.re, Tm.im, Tm.xs] at hk
          have h7 := (HT.out.trans h6).allocPt' #[.int .i64 k, .string sx, .int .i64 n, .int .u64 re, .int .u64 im, .slice A1 xs.length cp] 25 w6.heap.size rfl
          have hk7 := hk.to (h6.ok.to.allocPt #[.int .i64 k, .string sx, .int .i64 n, .int .u64 re, .int .u64 im, .slice A1 xs.length cp] 25)
          have hr := HRG.out _ _ _ h7.p4.p4.ok
          have HR := Lib.hid hr
          have H7 := Lib.hid h7.p4.p4
          have HK7 := Lib.hid hk7
          have HQ := Lib.hid hq
          clear h6 hk h7 hk7 hr hq HG HT HRG
          simp only [Tc.six, Tm.k, Tm.s, Tm.n, Tm.re, Tm.im, Tm.xs]
          go_wp2_with fail
          refine HR.out.mono ?_
          rintro e w8 ⟨tc2, S8, hq2, rfl, h8, hk⟩
          obtain ⟨⟨k2, sx2, n2, re2, im2, xs2⟩, A2, cp2⟩ := tc2
          simp only [Tc.six, Tm.k, Tm.s, Tm.n, Tm.re, Tm.im, Tm.xs] at hk
          have h9 := (H7.out.trans h8).allocPt' #[.int .i64 k2, .string sx2, .int .i64 n2, .int .u64 re2, .int .u64 im2, .slice A2 xs2.length cp2] 25 w8.heap.size rfl
          have hk9 := hk.to (h8.ok.to.allocPt #[.int .i64 k2, .string sx2, .int .i64 n2, .int .u64 re2, .int .u64 im2, .slice A2 xs2.length cp2] 25)
          have hk7 := (HK7.out.to h8).to (h8.ok.to.allocPt #[.int .i64 k2, .string sx2, .int .i64 n2, .int .u64 re2, .int .u64 im2, .slice A2 xs2.length cp2] 25)
          have hsame : Tm.mk k2 sx2 n2 re2 im2 xs2 = Tm.mk k sx n re im xs := hq2.trans HQ.out.symm
          cases hsame
          obtain ⟨⟨y0, y1, y2, y3, y4, y5⟩, -, y6⟩ := h9.ok.pt6
          obtain ⟨⟨x0, x1, x2, x3, x4, x5⟩, -, x6⟩ := h9.p3.ok.pt6
          have heq := HEQ.out
          rw [← HQ.out] at heq
          have hes := equal_spec h9.ok hk7 hk9 heq
          have HES := Lib.hid hes
          have H9 := Lib.hid h9
          clear h8 hk h9 hk9 hk7 hq2 heq hes HR H7 HK7 HQ HEQ
          simp only [Tc.six, Tm.k, Tm.s, Tm.n, Tm.re, Tm.im, Tm.xs]
          go_wp2_with fail
          refine HES.out.mono ?_
          rintro e w10 ⟨rfl, h10⟩
          have h11 := (H9.out.trans h10).p5.p5
          have hs := HSO.out _ _ _ h11.ok
          have HS := Lib.hid hs
          have H11 := Lib.hid h11
          clear h10 h11 hs HES H9 HSO x0 x1 x2 x3 x4 x5 x6 y0 y1 y2 y3 y4 y5 y6
          go_wp2_with fail
          refine HS.out.mono ?_
          rintro e w12 ⟨S12, rfl, h12⟩
          have H12 := Lib.hid (H11.out.trans h12)
          clear h12 HS H11
          go_wp2_with fail
          refine (awake7_spec H12.out.ok).mono ?_
          rintro e w13 ⟨rfl, h13⟩
          have H13 := Lib.hid (H12.out.trans h13).drop.drop.drop.drop.drop.drop.small
          clear h13 H12
          go_wp2
          go_ret
          exact ⟨rfl, H13.out⟩
#print axioms gets_spec
end Go.Proofs.Ytceahdlcbiialaa
