/- StorePuts: the walk. -/
import Derived.Test.YtceahdlcbiialaaC21
import Derived.Test.YtceahdlcbiialaaD4
import Derived.Test.YtceahdlcbiialaaB7
set_option linter.unusedVariables false
set_option linter.unusedSimpArgs false
namespace Go.Proofs.Ytceahdlcbiialaa
open Go.RowKit

theorem putP_err {most : Nat} {t : Tm} {st : St} (h : (putP most t st).1.2 ≠ 0) : (putP most t st).1.1 = 0 := by
  unfold putP at h ⊢
  split
  · rfl
  · rename_i hm
    rw [if_neg hm] at h
    rcases hq : lay most t (-1) st with ⟨⟨c, e⟩, s1⟩
    rw [fin_tm _ _ _ _ _ _ hq] at h ⊢
    by_cases he : e = 0
    · subst he; simp [fin] at h
    · simp [he]
theorem putP_ok {most : Nat} {t : Tm} {st : St} (h : StOk most st) : (putP most t st).1.1 < 18446744073709551616 ∧ StOk most (putP most t st).2 := by
  unfold putP
  split
  · exact ⟨by simp, h⟩
  · obtain ⟨h1, h2, -⟩ := lay_ok most t (-1) st h (by omega)
    rcases hq : lay most t (-1) st with ⟨⟨c, e⟩, s1⟩
    rw [hq] at h1 h2
    rw [fin_tm _ _ _ _ _ _ hq]
    by_cases he : e = 0
    · subst he; simpa [fin, St.atI] using ⟨h1, h2⟩
    · simpa [he] using h2
set_option maxRecDepth 100000 in
set_option maxHeartbeats 6000000 in
theorem puts_spec {w : World} {S : Blk} {Γ : List Asn} {A : Option Addr} {cap : Nat} {ts : List Tm} {most' : Int} (hO : Ok w S Γ) (hK : Kids w S A ts ∧ ts.length ≤ 140737488351232) (hm : (Lit.int .i64 most').wf = true) :
    Calls Try.prog 5 #[.slice A ts.length cap, .int .i64 most'] w fun e w' => e = .returned (.bool true) ∧ To w S w' S Γ := by
  obtain ⟨hK, hlen⟩ := hK
  have hL := Light_spec (cap := cap) hK hlen
  have H := Lib.hid hO; clear hO
  by_cases h8 : 8 < ts.length
  · clear hm hL
    go_enter Try.func5, Try.ntmps5
    go_wp2_with (first | (go_at_call 25; refine (awake7_spec H.out).mono ?_; rintro e w2 ⟨rfl, h5⟩))
    go_ret
    exact ⟨rfl, h5⟩
  have HL := Lib.hid hL; clear hL
  have HK := Lib.hid hK; clear hK
  generalize hlv : Light ts 0 4000 = lv at HL
  clear hlv
  cases lv with
  | false =>
    clear hm
    go_enter Try.func5, Try.ntmps5
    go_wp2_with (first | (go_at_call 23; refine HL.out.mono ?_; rintro e w1 ⟨rfl, hB⟩; have H4 := Lib.hid (H.out.below hB); clear hB) | (go_at_call 25; refine (awake7_spec H4.out.ok).mono ?_; rintro e w2 ⟨rfl, h5⟩; have H5 := Lib.hid (H4.out.trans h5); clear h5))
    go_ret
    exact ⟨rfl, H5.out⟩
  | true =>
    have hu := u64_wrap most'
    have hul := u64_lt most'
    generalize u64 most' = u at hu hul
    obtain ⟨m9, hm9⟩ : ∃ m9 : Nat, m9 = u % 9000 := ⟨_, rfl⟩
    have hr : (u : Int) % 9000 = (m9 : Int) := by omega
    have hr1 : m9 < 9000 := by omega
    clear hm hm9
    go_enter Try.func5, Try.ntmps5
    go_wp2_with (first | (go_at_call 23; refine HL.out.mono ?_; rintro e w1 ⟨rfl, hB⟩; have H4 := Lib.hid (H.out.below hB); clear hB))
    have hmm := @run_makeMap Try.prog
    refine (new_spec H4.out.ok (m9 : Int) m9 rfl (by omega)).mono ?_
    rintro e w2 ⟨p, rfl, h2⟩
    have H5 := Lib.hid (H4.out.trans h2); clear h2 H4
    go_wp2_with fail
    refine (anew_spec H5.out.ok).mono ?_
    rintro e w3 ⟨a, rfl, h2⟩
    have H6 := Lib.hid (H5.out.trans h2); clear h2 H5
    go_wp2_with fail
    refine (rnew_spec H6.out.ok (m9 : Int) m9 rfl (by omega)).mono ?_
    rintro e w4 ⟨q, rfl, h2⟩
    have H7 := Lib.hid (H6.out.trans h2); clear h2 H6
    go_wp2_with fail
    refine (ranew_spec H7.out.ok).mono ?_
    rintro e w5 ⟨b, rfl, h2⟩
    have h3 := H7.out.trans h2
    have h4 := ((h3.allocMap' (enc := Value.int .i64) (val := fun c : Nat => Value.int .u64 (c : Int)) w5.heap.size rfl).allocMap' (enc := Value.int .i64) (val := fun c : Nat => Value.int .u64 (c : Int)) (w5.heap.size + 1) (by simp)).p2.p3.p3.p4.p5
    have H8 := Lib.hid h4; clear h2 h3 h4 H7
    go_wp2_with fail
    obtain ⟨m1, hm1⟩ : ∃ m1, m1 = w5.heap.size := ⟨_, rfl⟩
    obtain ⟨m2, hm2⟩ : ∃ m2, m2 = w5.heap.size + 1 := ⟨_, rfl⟩
    rw [← hm2, ← hm1] at H8
    simp only [← hm2]
    simp only [← hm1]
    generalize (w5.alloc (.map #[] 0)).alloc (.map #[] 0) = w6 at H8 ⊢
    clear hm1 hm2 hmm H HL
    go_loopw [42] (fun i wr => ∃ (j : Nat) (C : List Nat) (L : List ByteArray) (V : List (Int × Nat)), i = .int .i64 (j : Int) ∧ j ≤ ts.length ∧ To w S wr S (HeapA p m9 C :: AtomsA a L :: VarsA m1 V :: HeapB q m9 C :: AtomsB b L :: VarsA m2 V :: Γ) ∧ VOk V ∧ KN V) (fun i _ => ts.length - (intOf i).toNat)
    case atStart => exact ⟨0, [], names0, [], rfl, Nat.zero_le _, H8.out, fun x hx => (by cases hx), (by simp [KN])⟩
    case round =>
      obtain ⟨j, C, L, V, rfl, hj, hTo, hV, hKN⟩ := hrel
      by_cases hlt : j < ts.length
      · have hx : ts[j]? = some ts[j] := List.getElem?_eq_getElem hlt
        obtain ⟨g, o, A', cap', rfl, hS, g0, g1, g2, g3, g4, g5, hxT⟩ := HK.out j _ hx
        generalize ts[j] = x at g0 g1 g2 g3 g4 g5 hxT
        have f0 := hTo.cell (a := ⟨g, _, none⟩) hS g0
        have f1 := hTo.cell (a := ⟨g, _, none⟩) hS g1
        have f2 := hTo.cell (a := ⟨g, _, none⟩) hS g2
        have f3 := hTo.cell (a := ⟨g, _, none⟩) hS g3
        have f4 := hTo.cell (a := ⟨g, _, none⟩) hS g4
        have f5 := hTo.cell (a := ⟨g, _, none⟩) hS g5
        have h1 := (hTo.allocPt' #[.int .i64 x.k, .string x.s, .int .i64 x.n, .int .u64 x.re, .int .u64 x.im, .slice A' x.xs.length cap'] 25 wr.heap.size rfl).p6.p6.p6.p6.p6.p6
        have hT1 := hxT.to h1
        have hput := put_map_spec h1.ok hT1 hV
        have herr := @putP_err m9 x ⟨C, L, V⟩
        have hVo : VOk (putP m9 x ⟨C, L, V⟩).2.V := by
          have hh := hTo.ok.heapAR
          exact (putP_ok (most := m9) (t := x) (st := ⟨C, L, V⟩) ⟨hh.2.2.2.1, hh.2.2.1, hTo.ok.p1.atomsAR.2, hV⟩).2.vars
        have hKN' : KN (putP m9 x ⟨C, L, V⟩).2.V := putP_kn (st := ⟨C, L, V⟩) hKN
        clear hKN
        generalize hr0 : putP m9 x ⟨C, L, V⟩ = r at hput herr hVo hKN'
        have HR0 := Lib.hid hr0
        obtain ⟨⟨rc, re⟩, ⟨C', L', V'⟩⟩ := r
        simp only at hput herr hVo hKN'
        have HPUT := Lib.hid hput
        have HVO := Lib.hid hVo
        have HKN := Lib.hid hKN'
        clear hVo hKN'
        have H1 := Lib.hid h1
        have HT1 := Lib.hid hT1
        have HERR := Lib.hid herr
        have HV := Lib.hid hV
        clear hput h1 hT1 hxT hTo g0 g1 g2 g3 g4 g5 herr hV hr0
        go_wp2_with fail
        refine HPUT.out.mono ?_
        rintro e w7 ⟨rfl, h2⟩
        obtain ⟨x0, x1, x2, x3, x4, x5⟩ := h2.p6.ok.pt6.1
        have hT2 := HT1.out.to h2
        have h3 := (H1.out.trans h2).p5.p5.p5
        have hrput := rPut_spec (st := ⟨C, L, V⟩) h3.ok hT2 HV.out
        rw [HR0.out] at hrput
        have HRP := Lib.hid hrput
        have H3 := Lib.hid h3
        clear h2 h3 hT2 hrput HPUT H1 HT1 f0 f1 f2 f3 f4 f5
        go_wp2_with fail
        refine HRP.out.mono ?_
        rintro e w8 ⟨rfl, h4⟩
        have h5 := (H3.out.trans h4).p5.p5.p5.p6.drop
        clear h4 HRP H3 x0 x1 x2 x3 x4 x5
        have hA := h5.ok.heapAR
        have hB := h5.p3.ok.heapBR
        have hsame := same7_spec (hA.drewN 1) (hB.drewN 1)
        have hal := alen_spec (h5.p1.ok.atomsAR.drewN 2)
        obtain ⟨⟨A8, c8, k1, k2⟩, k3⟩ := h5.p4.ok.atomsBR
        obtain ⟨es1, ck1, i1, -, -, -, i2⟩ := h5.p2.ok.mapRaw
        obtain ⟨es2, ck2, i3, i4, i5, i6, i7⟩ := h5.p5.ok.mapRaw
        have I4 := Lib.hid i4
        have I5 := Lib.hid i5
        have I6 := Lib.hid i6
        clear i4 i5 i6
        have HS := Lib.hid hsame
        have HAL := Lib.hid hal
        have H5 := Lib.hid h5
        clear h5 hA hB hsame hal k2
        go_wp2_with fail
        by_cases h0 : re = 0
        · subst h0
          clear HERR
          refine wp_region_held_drew (S := fun X => X.heap[m1]? = some (.map es1 ck1) ∧ X.heap[m2]? = some (.map es2 ck2) ∧ X.cell? ⟨b, 0, none⟩ = some (.slice A8 L'.length c8)) (by kernel_rfl) (⟨i1, i3, k1⟩) (fun hS => ?_)
          refine takeH (v := ?_) 0 62 rfl rfl (by kernel_rfl) (by kernel_rfl) (by kernel_rfl) (fun _ _ _ h => h) (by rfl) hS ?_ ?_
          rotate_left
          · intro X hX; obtain ⟨y0, y1, y2⟩ := hX; go_simp; first | done | rfl
          simp only [List.setIfInBounds_toArray, List.set_cons_zero, List.set_cons_succ]
          refine takeH (v := ?_) 1 63 rfl rfl (by kernel_rfl) (by kernel_rfl) (by kernel_rfl) (fun _ _ _ h => h) (by rfl) hS ?_ ?_
          rotate_left
          · intro X hX; obtain ⟨y0, y1, y2⟩ := hX; go_simp; first | done | rfl
          simp only [List.setIfInBounds_toArray, List.set_cons_zero, List.set_cons_succ]
          refine takeH (v := ?_) 2 64 rfl rfl (by kernel_rfl) (by kernel_rfl) (by kernel_rfl) (fun _ _ _ h => h) (by rfl) hS ?_ ?_
          rotate_left
          · intro X hX; obtain ⟨y0, y1, y2⟩ := hX; go_simp; first | done | rfl
          simp only [List.setIfInBounds_toArray, List.set_cons_zero, List.set_cons_succ]
          refine takeH (v := ?_) 3 65 rfl rfl (by kernel_rfl) (by kernel_rfl) (by kernel_rfl) (fun _ _ _ h => h) (by rfl) hS ?_ ?_
          rotate_left
          · intro X hX; obtain ⟨y0, y1, y2⟩ := hX; go_simp; first | done | rfl
          simp only [List.setIfInBounds_toArray, List.set_cons_zero, List.set_cons_succ]
          refine takeH (v := ?_) 4 66 rfl rfl (by kernel_rfl) (by kernel_rfl) (by kernel_rfl) (fun _ _ _ h => h) (by rfl) hS ?_ ?_
          rotate_left
          · intro X hX; obtain ⟨y0, y1, y2⟩ := hX; go_simp; first | done | rfl
          simp only [List.setIfInBounds_toArray, List.set_cons_zero, List.set_cons_succ]
          refine takeH (v := ?_) 5 67 rfl rfl (by kernel_rfl) (by kernel_rfl) (by kernel_rfl) (fun _ _ _ h => h) (by rfl) hS ?_ ?_
          rotate_left
          · intro X hX; obtain ⟨y0, y1, y2⟩ := hX; go_simp; first | done | rfl
          simp only [List.setIfInBounds_toArray, List.set_cons_zero, List.set_cons_succ]
          refine takeH (v := ?_) 6 68 rfl rfl (by kernel_rfl) (by kernel_rfl) (by kernel_rfl) (fun _ _ _ h => h) (by rfl) hS ?_ ?_
          rotate_left
          · intro X hX; obtain ⟨y0, y1, y2⟩ := hX; go_simp; first | done | rfl
          simp only [List.setIfInBounds_toArray, List.set_cons_zero, List.set_cons_succ]
          refine takeH (v := ?_) 7 69 rfl rfl (by kernel_rfl) (by kernel_rfl) (by kernel_rfl) (fun _ _ _ h => h) (by rfl) hS ?_ ?_
          rotate_left
          · intro X hX; obtain ⟨y0, y1, y2⟩ := hX; go_simp; first | done | rfl
          simp only [List.setIfInBounds_toArray, List.set_cons_zero, List.set_cons_succ]
          refine takeH (v := ?_) 8 70 rfl rfl (by kernel_rfl) (by kernel_rfl) (by kernel_rfl) (fun _ _ _ h => h) (by rfl) hS ?_ ?_
          rotate_left
          · intro X hX; obtain ⟨y0, y1, y2⟩ := hX; go_simp; first | done | rfl
          simp only [List.setIfInBounds_toArray, List.set_cons_zero, List.set_cons_succ]
          refine takeH (v := ?_) 9 71 rfl rfl (by kernel_rfl) (by kernel_rfl) (by kernel_rfl) (fun _ _ _ h => h) (by rfl) hS ?_ ?_
          rotate_left
          · intro X hX; obtain ⟨y0, y1, y2⟩ := hX; go_simp; first | done | rfl
          simp only [List.setIfInBounds_toArray, List.set_cons_zero, List.set_cons_succ]
          refine takeH (v := ?_) 10 72 rfl rfl (by kernel_rfl) (by kernel_rfl) (by kernel_rfl) (fun _ _ _ h => h) (by rfl) hS ?_ ?_
          rotate_left
          · intro X hX; obtain ⟨y0, y1, y2⟩ := hX; go_simp; first | done | rfl
          simp only [List.setIfInBounds_toArray, List.set_cons_zero, List.set_cons_succ]
          refine takeH (v := ?_) 11 73 rfl rfl (by kernel_rfl) (by kernel_rfl) (by kernel_rfl) (fun _ _ _ h => h) (by rfl) hS ?_ ?_
          rotate_left
          · intro X hX; obtain ⟨y0, y1, y2⟩ := hX; go_simp; first | done | rfl
          simp only [List.setIfInBounds_toArray, List.set_cons_zero, List.set_cons_succ]
          refine takeH (v := ?_) 12 74 rfl rfl (by kernel_rfl) (by kernel_rfl) (by kernel_rfl) (fun _ _ _ h => h) (by rfl) hS ?_ ?_
          rotate_left
          · intro X hX; obtain ⟨y0, y1, y2⟩ := hX; go_simp; first | done | rfl
          simp only [List.setIfInBounds_toArray, List.set_cons_zero, List.set_cons_succ]
          refine takeH (v := ?_) 13 75 rfl rfl (by kernel_rfl) (by kernel_rfl) (by kernel_rfl) (fun _ _ _ h => h) (by rfl) hS ?_ ?_
          rotate_left
          · intro X hX; obtain ⟨y0, y1, y2⟩ := hX; go_simp; first | done | rfl
          simp only [List.setIfInBounds_toArray, List.set_cons_zero, List.set_cons_succ]
          refine takeH (v := ?_) 14 76 rfl rfl (by kernel_rfl) (by kernel_rfl) (by kernel_rfl) (fun _ _ _ h => h) (by rfl) hS ?_ ?_
          rotate_left
          · intro X hX; obtain ⟨y0, y1, y2⟩ := hX; go_simp; first | done | rfl
          simp only [List.setIfInBounds_toArray, List.set_cons_zero, List.set_cons_succ]
          refine takeH (v := ?_) 15 77 rfl rfl (by kernel_rfl) (by kernel_rfl) (by kernel_rfl) (fun _ _ _ h => h) (by rfl) hS ?_ ?_
          rotate_left
          · intro X hX; obtain ⟨y0, y1, y2⟩ := hX; go_simp; first | done | rfl
          simp only [List.setIfInBounds_toArray, List.set_cons_zero, List.set_cons_succ]
          refine skipH 16 78 rfl rfl (by kernel_rfl) (by kernel_rfl) (by kernel_rfl) (fun _ _ _ h => h) (by rfl) hS ?_
          simp only [List.setIfInBounds_toArray, List.set_cons_zero, List.set_cons_succ]
          refine skipH 17 79 rfl rfl (by kernel_rfl) (by kernel_rfl) (by kernel_rfl) (fun _ _ _ h => h) (by rfl) hS ?_
          simp only [List.setIfInBounds_toArray, List.set_cons_zero, List.set_cons_succ]
          refine takeH (v := ?_) 18 80 rfl rfl (by kernel_rfl) (by kernel_rfl) (by kernel_rfl) (fun _ _ _ h => h) (by rfl) hS ?_ ?_
          rotate_left
          · intro X hX; obtain ⟨y0, y1, y2⟩ := hX; go_simp; first | done | rfl
          simp only [List.setIfInBounds_toArray, List.set_cons_zero, List.set_cons_succ]
          refine takeH (v := ?_) 19 81 rfl rfl (by kernel_rfl) (by kernel_rfl) (by kernel_rfl) (fun _ _ _ h => h) (by rfl) hS ?_ ?_
          rotate_left
          · intro X hX; obtain ⟨y0, y1, y2⟩ := hX; go_simp; first | done | rfl
          simp only [List.setIfInBounds_toArray, List.set_cons_zero, List.set_cons_succ]
          refine takeH (v := ?_) 20 82 rfl rfl (by kernel_rfl) (by kernel_rfl) (by kernel_rfl) (fun _ _ _ h => h) (by rfl) hS ?_ ?_
          rotate_left
          · intro X hX; obtain ⟨y0, y1, y2⟩ := hX; go_simp; first | done | rfl
          simp only [List.setIfInBounds_toArray, List.set_cons_zero, List.set_cons_succ]
          refine takeH (v := ?_) 21 83 rfl rfl (by kernel_rfl) (by kernel_rfl) (by kernel_rfl) (fun _ _ _ h => h) (by rfl) hS ?_ ?_
          rotate_left
          · intro X hX; obtain ⟨y0, y1, y2⟩ := hX; go_simp; first | done | rfl
          simp only [List.setIfInBounds_toArray, List.set_cons_zero, List.set_cons_succ]
          refine takeH (v := ?_) 22 84 rfl rfl (by kernel_rfl) (by kernel_rfl) (by kernel_rfl) (fun _ _ _ h => h) (by rfl) hS ?_ ?_
          rotate_left
          · intro X hX; obtain ⟨y0, y1, y2⟩ := hX; go_simp; first | done | rfl
          simp only [List.setIfInBounds_toArray, List.set_cons_zero, List.set_cons_succ]
          refine wpAnyH_ready (rs := [23]) (by kernel_rfl) (by simp) ?_
          refine AllReadyH.cons rfl (fun K hK => ?_) AllReadyH.nil
          go_simp
          go_at_call 40
          refine HS.out.mono ?_
          rintro e w9 ⟨rfl, hww⟩
          subst w9
          go_wp2
          refine Shut.out hK _ _ (⟨i1, i3, k1⟩) (fun hS => ?_)
          clear hK K
          try simp only [Act.put, List.setIfInBounds_toArray, List.set_cons_zero, List.set_cons_succ]
          refine takeH (v := ?_) 24 86 rfl rfl (by kernel_rfl) (by kernel_rfl) (by kernel_rfl) (fun _ _ _ h => h) (by rfl) hS ?_ ?_
          rotate_left
          · intro X hX; obtain ⟨y0, y1, y2⟩ := hX; go_simp; first | done | rfl
          simp only [List.setIfInBounds_toArray, List.set_cons_zero, List.set_cons_succ]
          refine takeH (v := ?_) 25 87 rfl rfl (by kernel_rfl) (by kernel_rfl) (by kernel_rfl) (fun _ _ _ h => h) (by rfl) hS ?_ ?_
          rotate_left
          · intro X hX; obtain ⟨y0, y1, y2⟩ := hX; go_simp; first | done | rfl
          simp only [List.setIfInBounds_toArray, List.set_cons_zero, List.set_cons_succ]
          refine takeH (v := ?_) 26 88 rfl rfl (by kernel_rfl) (by kernel_rfl) (by kernel_rfl) (fun _ _ _ h => h) (by rfl) hS ?_ ?_
          rotate_left
          · intro X hX; obtain ⟨y0, y1, y2⟩ := hX; go_simp; first | done | rfl
          simp only [List.setIfInBounds_toArray, List.set_cons_zero, List.set_cons_succ]
          refine takeH (v := ?_) 27 89 rfl rfl (by kernel_rfl) (by kernel_rfl) (by kernel_rfl) (fun _ _ _ h => h) (by rfl) hS ?_ ?_
          rotate_left
          · intro X hX; obtain ⟨y0, y1, y2⟩ := hX; go_simp; first | done | rfl
          simp only [List.setIfInBounds_toArray, List.set_cons_zero, List.set_cons_succ]
          refine takeH (v := (.int .i64 (V'.length : Int))) 28 90 rfl rfl (by kernel_rfl) (by kernel_rfl) (by kernel_rfl) (fun _ _ _ h => h) (by rfl) hS ?_ ?_
          · intro X hX; obtain ⟨y0, y1, y2⟩ := hX; go_simp; rw [run_lenMap Try.underlying52 y0 i2]; rfl
          simp only [List.setIfInBounds_toArray, List.set_cons_zero, List.set_cons_succ]
          refine takeH (v := ?_) 29 91 rfl rfl (by kernel_rfl) (by kernel_rfl) (by kernel_rfl) (fun _ _ _ h => h) (by rfl) hS ?_ ?_
          rotate_left
          · intro X hX; obtain ⟨y0, y1, y2⟩ := hX; go_simp; first | done | rfl
          simp only [List.setIfInBounds_toArray, List.set_cons_zero, List.set_cons_succ]
          refine takeH (v := (.int .i64 (V'.length : Int))) 30 92 rfl rfl (by kernel_rfl) (by kernel_rfl) (by kernel_rfl) (fun _ _ _ h => h) (by rfl) hS ?_ ?_
          · intro X hX; obtain ⟨y0, y1, y2⟩ := hX; go_simp; rw [run_lenMap Try.underlying52 y1 i7]; rfl
          simp only [List.setIfInBounds_toArray, List.set_cons_zero, List.set_cons_succ]
          refine takeH (v := ?_) 31 93 rfl rfl (by kernel_rfl) (by kernel_rfl) (by kernel_rfl) (fun _ _ _ h => h) (by rfl) hS ?_ ?_
          rotate_left
          · intro X hX; obtain ⟨y0, y1, y2⟩ := hX; go_simp; first | done | rfl
          simp only [List.setIfInBounds_toArray, List.set_cons_zero, List.set_cons_succ]
          refine takeH (v := ?_) 32 94 rfl rfl (by kernel_rfl) (by kernel_rfl) (by kernel_rfl) (fun _ _ _ h => h) (by rfl) hS ?_ ?_
          rotate_left
          · intro X hX; obtain ⟨y0, y1, y2⟩ := hX; go_simp; first | done | rfl
          simp only [List.setIfInBounds_toArray, List.set_cons_zero, List.set_cons_succ]
          refine takeH (v := ?_) 33 95 rfl rfl (by kernel_rfl) (by kernel_rfl) (by kernel_rfl) (fun _ _ _ h => h) (by rfl) hS ?_ ?_
          rotate_left
          · intro X hX; obtain ⟨y0, y1, y2⟩ := hX; go_simp; first | done | rfl
          simp only [List.setIfInBounds_toArray, List.set_cons_zero, List.set_cons_succ]
          refine takeH (v := ?_) 34 96 rfl rfl (by kernel_rfl) (by kernel_rfl) (by kernel_rfl) (fun _ _ _ h => h) (by rfl) hS ?_ ?_
          rotate_left
          · intro X hX; obtain ⟨y0, y1, y2⟩ := hX; go_simp; first | done | rfl
          simp only [List.setIfInBounds_toArray, List.set_cons_zero, List.set_cons_succ]
          refine takeH (v := ?_) 36 98 rfl rfl (by kernel_rfl) (by kernel_rfl) (by kernel_rfl) (fun _ _ _ h => h) (by rfl) hS ?_ ?_
          rotate_left
          · intro X hX; obtain ⟨y0, y1, y2⟩ := hX; go_simp; first | done | rfl
          simp only [List.setIfInBounds_toArray, List.set_cons_zero, List.set_cons_succ]
          refine takeH (v := ?_) 37 99 rfl rfl (by kernel_rfl) (by kernel_rfl) (by kernel_rfl) (fun _ _ _ h => h) (by rfl) hS ?_ ?_
          rotate_left
          · intro X hX; obtain ⟨y0, y1, y2⟩ := hX; go_simp; first | done | rfl
          simp only [List.setIfInBounds_toArray, List.set_cons_zero, List.set_cons_succ]
          refine takeH (v := ?_) 38 100 rfl rfl (by kernel_rfl) (by kernel_rfl) (by kernel_rfl) (fun _ _ _ h => h) (by rfl) hS ?_ ?_
          rotate_left
          · intro X hX; obtain ⟨y0, y1, y2⟩ := hX; go_simp; first | done | rfl
          simp only [List.setIfInBounds_toArray, List.set_cons_zero, List.set_cons_succ]
          refine takeH (v := ?_) 39 101 rfl rfl (by kernel_rfl) (by kernel_rfl) (by kernel_rfl) (fun _ _ _ h => h) (by rfl) hS ?_ ?_
          rotate_left
          · intro X hX; obtain ⟨y0, y1, y2⟩ := hX; go_simp; first | done | rfl
          simp only [List.setIfInBounds_toArray, List.set_cons_zero, List.set_cons_succ]
          refine takeH (v := ?_) 40 102 rfl rfl (by kernel_rfl) (by kernel_rfl) (by kernel_rfl) (fun _ _ _ h => h) (by rfl) hS ?_ ?_
          rotate_left
          · intro X hX; obtain ⟨y0, y1, y2⟩ := hX; go_simp; first | done | rfl
          simp only [List.setIfInBounds_toArray, List.set_cons_zero, List.set_cons_succ]
          refine wpAnyH_ready (rs := [35]) (by kernel_rfl) (by simp) ?_
          refine AllReadyH.cons rfl (fun K hK => ?_) AllReadyH.nil
          go_simp
          go_at_call 41
          refine HAL.out.mono ?_
          rintro e w9 ⟨rfl, hww⟩
          subst w9
          go_wp2
          refine Shut.out hK _ _ (⟨i1, i3, k1⟩) (fun hS => ?_)
          clear hK K
          try simp only [Act.put, List.setIfInBounds_toArray, List.set_cons_zero, List.set_cons_succ]
          refine takeH (v := ?_) 41 103 rfl rfl (by kernel_rfl) (by kernel_rfl) (by kernel_rfl) (fun _ _ _ h => h) (by rfl) hS ?_ ?_
          rotate_left
          · intro X hX; obtain ⟨y0, y1, y2⟩ := hX; go_simp; first | done | rfl
          simp only [List.setIfInBounds_toArray, List.set_cons_zero, List.set_cons_succ]
          refine takeH (v := ?_) 42 104 rfl rfl (by kernel_rfl) (by kernel_rfl) (by kernel_rfl) (fun _ _ _ h => h) (by rfl) hS ?_ ?_
          rotate_left
          · intro X hX; obtain ⟨y0, y1, y2⟩ := hX; go_simp; first | done | rfl
          simp only [List.setIfInBounds_toArray, List.set_cons_zero, List.set_cons_succ]
          refine wpAnyH_done (by kernel_rfl) ?_ _
          have h6 := H5.out.drewN 2
          have i8 : (w8.drewN 2).heap[m2]? = some (.map es2 ck2) := i3
          clear i1 i3 k1 hS HS HAL
          generalize w8.drewN 2 = WB at h6 i8 ⊢
          have H6 := Lib.hid h6; clear h6
          have hrg := run_range_map (P := Try.prog) WB 52 2 34 m2 es2 ck2 Try.underlying52 i8
          go_wp2
          go_loopw [] (fun wr => ∃ (w1 : World) (seen : Array Nat), w1.heap = WB.heap ∧ w1.os = WB.os ∧ w1.output = WB.output ∧ w1.tape = WB.tape ∧ wr = w1.alloc (.mapIter (some m2) ck2 seen ck2)) (fun wr => (leftOf es2 (wr.iterSeen WB.heap.size)).size)
          case atStart => exact ⟨WB, #[], rfl, rfl, rfl, rfl, rfl⟩
          case round =>
            obtain ⟨w1, seen, q1, q2, q3, q4, rfl⟩ := hrel
            have hsz : w1.heap.size = WB.heap.size := by rw [q1]
            have hb1 : w1.heap[m2]? = some (.map es2 ck2) := by rw [q1]; exact i8
            have hbel : Below WB.heap.size WB w1 := ⟨q2, q4, q3, by rw [q1]; exact Nat.le_refl _, fun b hb => by rw [q1]⟩
            rcases next_map (P := Try.prog) w1 m2 ck2 seen es2 hb1 I5.out I6.out with ⟨h9, hnx⟩ | ⟨en, hen, w2, z1, z2, z3, z4, hnx, hent⟩
            · rw [hsz] at hnx
              have H9 := Lib.hid ((H6.out.below hbel).alloc (.mapIter (some m2) ck2 seen ck2))
              clear hbel hrg
              go_wp2
              go_roundw
              case rel => exact ⟨j + 1, C', L', V', by go_num, by omega, H9.out, HVO.out, HKN.out⟩
              case measure => simp [intOf]; omega
            · have hin : (en.key, en.val) ∈ V'.map (fun p : Int × Nat => (Value.int .i64 p.1, Value.int .u64 (p.2 : Int))) := by
                rw [← I4.out]
                exact List.mem_map_of_mem (f := fun e : MapEntry => (e.key, e.val)) (mem_left hen).1
              obtain ⟨⟨kx, cx⟩, hkc, hpe⟩ := List.mem_map.1 hin
              simp only [Prod.mk.injEq] at hpe
              obtain ⟨hk1, hk2⟩ := hpe
              have hlk := HKN.out.lk hkc
              rw [← hk1, ← hk2, hsz] at hnx
              rw [← hk1, ← hk2, hsz] at hent
              have hbel2 : Below WB.heap.size WB w2 := ⟨z2.trans q2, z4.trans q4, z3.trans q3, by rw [z1, q1]; exact Nat.le_refl _, fun b hb => by rw [z1, q1]⟩
              have h10 := (H6.out.below hbel2).alloc (.mapIter (some m2) ck2 (seen.push en.born) ck2)
              have hlook : (Instr.lookup 52 (.map (some m1)) (.int .i64 kx) false).run Try.prog (w2.alloc (.mapIter (some m2) ck2 (seen.push en.born) ck2)) = .ok (.int .u64 (cx : Int)) (w2.alloc (.mapIter (some m2) ck2 (seen.push en.born) ck2)) := by
                have h11 := h10.p2.ok.look (P := Try.prog) (key_int .i64) Try.underlying52 Try.underlying2 zero34 kx false 0
                rw [hlk] at h11
                exact h11
              have HMEM := Lib.hid hen
              have HZ := Lib.hid (show w2.heap = WB.heap ∧ w2.os = WB.os ∧ w2.output = WB.output ∧ w2.tape = WB.tape from ⟨z1.trans q1, z2.trans q2, z3.trans q3, z4.trans q4⟩)
              have hsz2 : w2.heap.size = WB.heap.size := by rw [z1, q1]
              clear hen hin hkc hlk h10 hbel hbel2 z1 z2 z3 z4 q1 q2 q3 q4 hk1 hk2 hb1
              go_wp2
              go_roundw
              case rel => exact ⟨w2, seen.push en.born, HZ.out.1, HZ.out.2.1, HZ.out.2.2.1, HZ.out.2.2.2, rfl⟩
              case measure =>
                rw [← hsz2, World.iterSeen_alloc, hsz2, ← hsz, World.iterSeen_alloc]
                exact left_shrinks es2 seen en HMEM.out
        · obtain rfl := HERR.out h0
          have hb1 : ((re : Int) == 0) = false := beq_eq_false_iff_ne.2 (by omega)
          have hb2 : ((re : Int) != 0) = true := by simp [bne]; omega
          clear h0 HERR
          refine wp_region_held_drew (S := fun X => X.heap[m1]? = some (.map es1 ck1) ∧ X.heap[m2]? = some (.map es2 ck2) ∧ X.cell? ⟨b, 0, none⟩ = some (.slice A8 L'.length c8)) (by kernel_rfl) (⟨i1, i3, k1⟩) (fun hS => ?_)
          refine takeH (v := ?_) 0 62 rfl rfl (by kernel_rfl) (by kernel_rfl) (by kernel_rfl) (fun _ _ _ h => h) (by rfl) hS ?_ ?_
          rotate_left
          · intro X hX; obtain ⟨y0, y1, y2⟩ := hX; go_simp; first | done | rfl
          simp only [List.setIfInBounds_toArray, List.set_cons_zero, List.set_cons_succ]
          refine takeH (v := ?_) 1 63 rfl rfl (by kernel_rfl) (by kernel_rfl) (by kernel_rfl) (fun _ _ _ h => h) (by rfl) hS ?_ ?_
          rotate_left
          · intro X hX; obtain ⟨y0, y1, y2⟩ := hX; go_simp; first | done | rfl
          simp only [List.setIfInBounds_toArray, List.set_cons_zero, List.set_cons_succ]
          refine takeH (v := ?_) 2 64 rfl rfl (by kernel_rfl) (by kernel_rfl) (by kernel_rfl) (fun _ _ _ h => h) (by rfl) hS ?_ ?_
          rotate_left
          · intro X hX; obtain ⟨y0, y1, y2⟩ := hX; go_simp; first | done | rfl
          simp only [List.setIfInBounds_toArray, List.set_cons_zero, List.set_cons_succ]
          refine takeH (v := ?_) 3 65 rfl rfl (by kernel_rfl) (by kernel_rfl) (by kernel_rfl) (fun _ _ _ h => h) (by rfl) hS ?_ ?_
          rotate_left
          · intro X hX; obtain ⟨y0, y1, y2⟩ := hX; go_simp; first | done | rfl
          simp only [List.setIfInBounds_toArray, List.set_cons_zero, List.set_cons_succ]
          refine takeH (v := ?_) 4 66 rfl rfl (by kernel_rfl) (by kernel_rfl) (by kernel_rfl) (fun _ _ _ h => h) (by rfl) hS ?_ ?_
          rotate_left
          · intro X hX; obtain ⟨y0, y1, y2⟩ := hX; go_simp; first | done | rfl
          simp only [List.setIfInBounds_toArray, List.set_cons_zero, List.set_cons_succ]
          refine takeH (v := ?_) 5 67 rfl rfl (by kernel_rfl) (by kernel_rfl) (by kernel_rfl) (fun _ _ _ h => h) (by rfl) hS ?_ ?_
          rotate_left
          · intro X hX; obtain ⟨y0, y1, y2⟩ := hX; go_simp; first | done | rfl
          simp only [List.setIfInBounds_toArray, List.set_cons_zero, List.set_cons_succ]
          refine takeH (v := ?_) 6 68 rfl rfl (by kernel_rfl) (by kernel_rfl) (by kernel_rfl) (fun _ _ _ h => h) (by rfl) hS ?_ ?_
          rotate_left
          · intro X hX; obtain ⟨y0, y1, y2⟩ := hX; go_simp; first | done | rfl
          simp only [List.setIfInBounds_toArray, List.set_cons_zero, List.set_cons_succ]
          refine skipH 7 69 rfl rfl (by kernel_rfl) (by kernel_rfl) (by kernel_rfl) (fun _ _ _ h => h) (by rfl) hS ?_
          simp only [List.setIfInBounds_toArray, List.set_cons_zero, List.set_cons_succ]
          refine skipH 8 70 rfl rfl (by kernel_rfl) (by kernel_rfl) (by kernel_rfl) (fun _ _ _ h => h) (by rfl) hS ?_
          simp only [List.setIfInBounds_toArray, List.set_cons_zero, List.set_cons_succ]
          refine skipH 9 71 rfl rfl (by kernel_rfl) (by kernel_rfl) (by kernel_rfl) (fun _ _ _ h => h) (by rfl) hS ?_
          simp only [List.setIfInBounds_toArray, List.set_cons_zero, List.set_cons_succ]
          refine takeH (v := ?_) 10 72 rfl rfl (by kernel_rfl) (by kernel_rfl) (by kernel_rfl) (fun _ _ _ h => h) (by rfl) hS ?_ ?_
          rotate_left
          · intro X hX; obtain ⟨y0, y1, y2⟩ := hX; go_simp; first | done | rfl
          simp only [List.setIfInBounds_toArray, List.set_cons_zero, List.set_cons_succ]
          refine takeH (v := ?_) 11 73 rfl rfl (by kernel_rfl) (by kernel_rfl) (by kernel_rfl) (fun _ _ _ h => h) (by rfl) hS ?_ ?_
          rotate_left
          · intro X hX; obtain ⟨y0, y1, y2⟩ := hX; go_simp; first | done | rfl
          simp only [List.setIfInBounds_toArray, List.set_cons_zero, List.set_cons_succ]
          refine takeH (v := ?_) 12 74 rfl rfl (by kernel_rfl) (by kernel_rfl) (by kernel_rfl) (fun _ _ _ h => h) (by rfl) hS ?_ ?_
          rotate_left
          · intro X hX; obtain ⟨y0, y1, y2⟩ := hX; go_simp; first | done | rfl
          simp only [List.setIfInBounds_toArray, List.set_cons_zero, List.set_cons_succ]
          refine takeH (v := ?_) 13 75 rfl rfl (by kernel_rfl) (by kernel_rfl) (by kernel_rfl) (fun _ _ _ h => h) (by rfl) hS ?_ ?_
          rotate_left
          · intro X hX; obtain ⟨y0, y1, y2⟩ := hX; go_simp; first | done | rfl
          simp only [List.setIfInBounds_toArray, List.set_cons_zero, List.set_cons_succ]
          refine takeH (v := ?_) 14 76 rfl rfl (by kernel_rfl) (by kernel_rfl) (by kernel_rfl) (fun _ _ _ h => h) (by rfl) hS ?_ ?_
          rotate_left
          · intro X hX; obtain ⟨y0, y1, y2⟩ := hX; go_simp; first | done | rfl
          simp only [List.setIfInBounds_toArray, List.set_cons_zero, List.set_cons_succ]
          refine takeH (v := ?_) 15 77 rfl rfl (by kernel_rfl) (by kernel_rfl) (by kernel_rfl) (fun _ _ _ h => h) (by rfl) hS ?_ ?_
          rotate_left
          · intro X hX; obtain ⟨y0, y1, y2⟩ := hX; go_simp; first | done | rfl
          simp only [List.setIfInBounds_toArray, List.set_cons_zero, List.set_cons_succ]
          refine takeH (v := ?_) 16 78 rfl rfl (by kernel_rfl) (by kernel_rfl) (by kernel_rfl) (fun _ _ _ h => h) (by rfl) hS ?_ ?_
          rotate_left
          · intro X hX; obtain ⟨y0, y1, y2⟩ := hX; go_simp; first | done | rfl
          simp only [List.setIfInBounds_toArray, List.set_cons_zero, List.set_cons_succ]
          refine takeH (v := ?_) 17 79 rfl rfl (by kernel_rfl) (by kernel_rfl) (by kernel_rfl) (fun _ _ _ h => h) (by rfl) hS ?_ ?_
          rotate_left
          · intro X hX; obtain ⟨y0, y1, y2⟩ := hX; go_simp; first | done | rfl
          simp only [List.setIfInBounds_toArray, List.set_cons_zero, List.set_cons_succ]
          refine takeH (v := ?_) 18 80 rfl rfl (by kernel_rfl) (by kernel_rfl) (by kernel_rfl) (fun _ _ _ h => h) (by rfl) hS ?_ ?_
          rotate_left
          · intro X hX; obtain ⟨y0, y1, y2⟩ := hX; go_simp; first | done | rfl
          simp only [List.setIfInBounds_toArray, List.set_cons_zero, List.set_cons_succ]
          refine takeH (v := ?_) 19 81 rfl rfl (by kernel_rfl) (by kernel_rfl) (by kernel_rfl) (fun _ _ _ h => h) (by rfl) hS ?_ ?_
          rotate_left
          · intro X hX; obtain ⟨y0, y1, y2⟩ := hX; go_simp; first | done | rfl
          simp only [List.setIfInBounds_toArray, List.set_cons_zero, List.set_cons_succ]
          refine takeH (v := ?_) 20 82 rfl rfl (by kernel_rfl) (by kernel_rfl) (by kernel_rfl) (fun _ _ _ h => h) (by rfl) hS ?_ ?_
          rotate_left
          · intro X hX; obtain ⟨y0, y1, y2⟩ := hX; go_simp; first | done | rfl
          simp only [List.setIfInBounds_toArray, List.set_cons_zero, List.set_cons_succ]
          refine takeH (v := ?_) 21 83 rfl rfl (by kernel_rfl) (by kernel_rfl) (by kernel_rfl) (fun _ _ _ h => h) (by rfl) hS ?_ ?_
          rotate_left
          · intro X hX; obtain ⟨y0, y1, y2⟩ := hX; go_simp; first | done | rfl
          simp only [List.setIfInBounds_toArray, List.set_cons_zero, List.set_cons_succ]
          refine takeH (v := ?_) 22 84 rfl rfl (by kernel_rfl) (by kernel_rfl) (by kernel_rfl) (fun _ _ _ h => h) (by rfl) hS ?_ ?_
          rotate_left
          · intro X hX; obtain ⟨y0, y1, y2⟩ := hX; go_simp; first | done | rfl
          simp only [List.setIfInBounds_toArray, List.set_cons_zero, List.set_cons_succ]
          refine wpAnyH_ready (rs := [23]) (by kernel_rfl) (by simp) ?_
          refine AllReadyH.cons rfl (fun K hK => ?_) AllReadyH.nil
          go_simp
          go_at_call 40
          refine HS.out.mono ?_
          rintro e w9 ⟨rfl, hww⟩
          subst w9
          go_wp2
          refine Shut.out hK _ _ (⟨i1, i3, k1⟩) (fun hS => ?_)
          clear hK K
          try simp only [Act.put, List.setIfInBounds_toArray, List.set_cons_zero, List.set_cons_succ]
          refine takeH (v := ?_) 24 86 rfl rfl (by kernel_rfl) (by kernel_rfl) (by kernel_rfl) (fun _ _ _ h => h) (by rfl) hS ?_ ?_
          rotate_left
          · intro X hX; obtain ⟨y0, y1, y2⟩ := hX; go_simp; first | done | rfl
          simp only [List.setIfInBounds_toArray, List.set_cons_zero, List.set_cons_succ]
          refine takeH (v := ?_) 25 87 rfl rfl (by kernel_rfl) (by kernel_rfl) (by kernel_rfl) (fun _ _ _ h => h) (by rfl) hS ?_ ?_
          rotate_left
          · intro X hX; obtain ⟨y0, y1, y2⟩ := hX; go_simp; first | done | rfl
          simp only [List.setIfInBounds_toArray, List.set_cons_zero, List.set_cons_succ]
          refine takeH (v := ?_) 26 88 rfl rfl (by kernel_rfl) (by kernel_rfl) (by kernel_rfl) (fun _ _ _ h => h) (by rfl) hS ?_ ?_
          rotate_left
          · intro X hX; obtain ⟨y0, y1, y2⟩ := hX; go_simp; first | done | rfl
          simp only [List.setIfInBounds_toArray, List.set_cons_zero, List.set_cons_succ]
          refine takeH (v := ?_) 27 89 rfl rfl (by kernel_rfl) (by kernel_rfl) (by kernel_rfl) (fun _ _ _ h => h) (by rfl) hS ?_ ?_
          rotate_left
          · intro X hX; obtain ⟨y0, y1, y2⟩ := hX; go_simp; first | done | rfl
          simp only [List.setIfInBounds_toArray, List.set_cons_zero, List.set_cons_succ]
          refine takeH (v := (.int .i64 (V'.length : Int))) 28 90 rfl rfl (by kernel_rfl) (by kernel_rfl) (by kernel_rfl) (fun _ _ _ h => h) (by rfl) hS ?_ ?_
          · intro X hX; obtain ⟨y0, y1, y2⟩ := hX; go_simp; rw [run_lenMap Try.underlying52 y0 i2]; rfl
          simp only [List.setIfInBounds_toArray, List.set_cons_zero, List.set_cons_succ]
          refine takeH (v := ?_) 29 91 rfl rfl (by kernel_rfl) (by kernel_rfl) (by kernel_rfl) (fun _ _ _ h => h) (by rfl) hS ?_ ?_
          rotate_left
          · intro X hX; obtain ⟨y0, y1, y2⟩ := hX; go_simp; first | done | rfl
          simp only [List.setIfInBounds_toArray, List.set_cons_zero, List.set_cons_succ]
          refine takeH (v := (.int .i64 (V'.length : Int))) 30 92 rfl rfl (by kernel_rfl) (by kernel_rfl) (by kernel_rfl) (fun _ _ _ h => h) (by rfl) hS ?_ ?_
          · intro X hX; obtain ⟨y0, y1, y2⟩ := hX; go_simp; rw [run_lenMap Try.underlying52 y1 i7]; rfl
          simp only [List.setIfInBounds_toArray, List.set_cons_zero, List.set_cons_succ]
          refine takeH (v := ?_) 31 93 rfl rfl (by kernel_rfl) (by kernel_rfl) (by kernel_rfl) (fun _ _ _ h => h) (by rfl) hS ?_ ?_
          rotate_left
          · intro X hX; obtain ⟨y0, y1, y2⟩ := hX; go_simp; first | done | rfl
          simp only [List.setIfInBounds_toArray, List.set_cons_zero, List.set_cons_succ]
          refine takeH (v := ?_) 32 94 rfl rfl (by kernel_rfl) (by kernel_rfl) (by kernel_rfl) (fun _ _ _ h => h) (by rfl) hS ?_ ?_
          rotate_left
          · intro X hX; obtain ⟨y0, y1, y2⟩ := hX; go_simp; first | done | rfl
          simp only [List.setIfInBounds_toArray, List.set_cons_zero, List.set_cons_succ]
          refine takeH (v := ?_) 33 95 rfl rfl (by kernel_rfl) (by kernel_rfl) (by kernel_rfl) (fun _ _ _ h => h) (by rfl) hS ?_ ?_
          rotate_left
          · intro X hX; obtain ⟨y0, y1, y2⟩ := hX; go_simp; first | done | rfl
          simp only [List.setIfInBounds_toArray, List.set_cons_zero, List.set_cons_succ]
          refine takeH (v := ?_) 34 96 rfl rfl (by kernel_rfl) (by kernel_rfl) (by kernel_rfl) (fun _ _ _ h => h) (by rfl) hS ?_ ?_
          rotate_left
          · intro X hX; obtain ⟨y0, y1, y2⟩ := hX; go_simp; first | done | rfl
          simp only [List.setIfInBounds_toArray, List.set_cons_zero, List.set_cons_succ]
          refine takeH (v := ?_) 36 98 rfl rfl (by kernel_rfl) (by kernel_rfl) (by kernel_rfl) (fun _ _ _ h => h) (by rfl) hS ?_ ?_
          rotate_left
          · intro X hX; obtain ⟨y0, y1, y2⟩ := hX; go_simp; first | done | rfl
          simp only [List.setIfInBounds_toArray, List.set_cons_zero, List.set_cons_succ]
          refine takeH (v := ?_) 37 99 rfl rfl (by kernel_rfl) (by kernel_rfl) (by kernel_rfl) (fun _ _ _ h => h) (by rfl) hS ?_ ?_
          rotate_left
          · intro X hX; obtain ⟨y0, y1, y2⟩ := hX; go_simp; first | done | rfl
          simp only [List.setIfInBounds_toArray, List.set_cons_zero, List.set_cons_succ]
          refine takeH (v := ?_) 38 100 rfl rfl (by kernel_rfl) (by kernel_rfl) (by kernel_rfl) (fun _ _ _ h => h) (by rfl) hS ?_ ?_
          rotate_left
          · intro X hX; obtain ⟨y0, y1, y2⟩ := hX; go_simp; first | done | rfl
          simp only [List.setIfInBounds_toArray, List.set_cons_zero, List.set_cons_succ]
          refine takeH (v := ?_) 39 101 rfl rfl (by kernel_rfl) (by kernel_rfl) (by kernel_rfl) (fun _ _ _ h => h) (by rfl) hS ?_ ?_
          rotate_left
          · intro X hX; obtain ⟨y0, y1, y2⟩ := hX; go_simp; first | done | rfl
          simp only [List.setIfInBounds_toArray, List.set_cons_zero, List.set_cons_succ]
          refine takeH (v := ?_) 40 102 rfl rfl (by kernel_rfl) (by kernel_rfl) (by kernel_rfl) (fun _ _ _ h => h) (by rfl) hS ?_ ?_
          rotate_left
          · intro X hX; obtain ⟨y0, y1, y2⟩ := hX; go_simp; first | done | rfl
          simp only [List.setIfInBounds_toArray, List.set_cons_zero, List.set_cons_succ]
          refine wpAnyH_ready (rs := [35]) (by kernel_rfl) (by simp) ?_
          refine AllReadyH.cons rfl (fun K hK => ?_) AllReadyH.nil
          go_simp
          go_at_call 41
          refine HAL.out.mono ?_
          rintro e w9 ⟨rfl, hww⟩
          subst w9
          go_wp2
          refine Shut.out hK _ _ (⟨i1, i3, k1⟩) (fun hS => ?_)
          clear hK K
          try simp only [Act.put, List.setIfInBounds_toArray, List.set_cons_zero, List.set_cons_succ]
          refine takeH (v := ?_) 41 103 rfl rfl (by kernel_rfl) (by kernel_rfl) (by kernel_rfl) (fun _ _ _ h => h) (by rfl) hS ?_ ?_
          rotate_left
          · intro X hX; obtain ⟨y0, y1, y2⟩ := hX; go_simp; first | done | rfl
          simp only [List.setIfInBounds_toArray, List.set_cons_zero, List.set_cons_succ]
          refine takeH (v := ?_) 42 104 rfl rfl (by kernel_rfl) (by kernel_rfl) (by kernel_rfl) (fun _ _ _ h => h) (by rfl) hS ?_ ?_
          rotate_left
          · intro X hX; obtain ⟨y0, y1, y2⟩ := hX; go_simp; first | done | rfl
          simp only [List.setIfInBounds_toArray, List.set_cons_zero, List.set_cons_succ]
          refine wpAnyH_done (by kernel_rfl) ?_ _
          have h6 := H5.out.drewN 2
          have i8 : (w8.drewN 2).heap[m2]? = some (.map es2 ck2) := i3
          clear i1 i3 k1 hS HS HAL
          generalize w8.drewN 2 = WB at h6 i8 ⊢
          have H6 := Lib.hid h6; clear h6
          have hrg := run_range_map (P := Try.prog) WB 52 2 34 m2 es2 ck2 Try.underlying52 i8
          go_wp2
          go_loopw [] (fun wr => ∃ (w1 : World) (seen : Array Nat), w1.heap = WB.heap ∧ w1.os = WB.os ∧ w1.output = WB.output ∧ w1.tape = WB.tape ∧ wr = w1.alloc (.mapIter (some m2) ck2 seen ck2)) (fun wr => (leftOf es2 (wr.iterSeen WB.heap.size)).size)
          case atStart => exact ⟨WB, #[], rfl, rfl, rfl, rfl, rfl⟩
          case round =>
            obtain ⟨w1, seen, q1, q2, q3, q4, rfl⟩ := hrel
            have hsz : w1.heap.size = WB.heap.size := by rw [q1]
            have hb1 : w1.heap[m2]? = some (.map es2 ck2) := by rw [q1]; exact i8
            have hbel : Below WB.heap.size WB w1 := ⟨q2, q4, q3, by rw [q1]; exact Nat.le_refl _, fun b hb => by rw [q1]⟩
            rcases next_map (P := Try.prog) w1 m2 ck2 seen es2 hb1 I5.out I6.out with ⟨h9, hnx⟩ | ⟨en, hen, w2, z1, z2, z3, z4, hnx, hent⟩
            · rw [hsz] at hnx
              have H9 := Lib.hid ((H6.out.below hbel).alloc (.mapIter (some m2) ck2 seen ck2))
              clear hbel hrg
              go_wp2
              go_roundw
              case rel => exact ⟨j + 1, C', L', V', by go_num, by omega, H9.out, HVO.out, HKN.out⟩
              case measure => simp [intOf]; omega
            · have hin : (en.key, en.val) ∈ V'.map (fun p : Int × Nat => (Value.int .i64 p.1, Value.int .u64 (p.2 : Int))) := by
                rw [← I4.out]
                exact List.mem_map_of_mem (f := fun e : MapEntry => (e.key, e.val)) (mem_left hen).1
              obtain ⟨⟨kx, cx⟩, hkc, hpe⟩ := List.mem_map.1 hin
              simp only [Prod.mk.injEq] at hpe
              obtain ⟨hk1, hk2⟩ := hpe
              have hlk := HKN.out.lk hkc
              rw [← hk1, ← hk2, hsz] at hnx
              rw [← hk1, ← hk2, hsz] at hent
              have hbel2 : Below WB.heap.size WB w2 := ⟨z2.trans q2, z4.trans q4, z3.trans q3, by rw [z1, q1]; exact Nat.le_refl _, fun b hb => by rw [z1, q1]⟩
              have h10 := (H6.out.below hbel2).alloc (.mapIter (some m2) ck2 (seen.push en.born) ck2)
              have hlook : (Instr.lookup 52 (.map (some m1)) (.int .i64 kx) false).run Try.prog (w2.alloc (.mapIter (some m2) ck2 (seen.push en.born) ck2)) = .ok (.int .u64 (cx : Int)) (w2.alloc (.mapIter (some m2) ck2 (seen.push en.born) ck2)) := by
                have h11 := h10.p2.ok.look (P := Try.prog) (key_int .i64) Try.underlying52 Try.underlying2 zero34 kx false 0
                rw [hlk] at h11
                exact h11
              have HMEM := Lib.hid hen
              have HZ := Lib.hid (show w2.heap = WB.heap ∧ w2.os = WB.os ∧ w2.output = WB.output ∧ w2.tape = WB.tape from ⟨z1.trans q1, z2.trans q2, z3.trans q3, z4.trans q4⟩)
              have hsz2 : w2.heap.size = WB.heap.size := by rw [z1, q1]
              clear hen hin hkc hlk h10 hbel hbel2 z1 z2 z3 z4 q1 q2 q3 q4 hk1 hk2 hb1
              go_wp2
              go_roundw
              case rel => exact ⟨w2, seen.push en.born, HZ.out.1, HZ.out.2.1, HZ.out.2.2.1, HZ.out.2.2.2, rfl⟩
              case measure =>
                rw [← hsz2, World.iterSeen_alloc, hsz2, ← hsz, World.iterSeen_alloc]
                exact left_shrinks es2 seen en HMEM.out
      · obtain rfl : j = ts.length := by omega
        have HTo := Lib.hid hTo; clear hTo
        go_wp2_with (go_at_call 25; refine (awake7_spec HTo.out.ok).mono ?_; rintro e w9 ⟨rfl, h5⟩; have H5 := Lib.hid (HTo.out.trans h5).drop.drop.drop.drop.drop.drop; clear h5)
        go_ret
        exact ⟨rfl, H5.out⟩
#print axioms puts_spec
end Go.Proofs.Ytceahdlcbiialaa
