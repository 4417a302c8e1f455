/- What Put answers with a map of variables. -/
import Derived.Test.YtceahdlcbiialaaF5M14
set_option linter.unusedVariables false
set_option linter.unusedSimpArgs false
namespace Go.Proofs.Ytceahdlcbiialaa
open Go.RowKit

@[local go_sem] theorem eql_someMap (m : Nat) (w : World) : (binOp .eql 52 (.map (some m)) (.map none)).run Try.prog w = .ok (.bool false) w := by kernel_rfl
set_option maxRecDepth 100000 in
set_option maxHeartbeats 8000000 in
theorem put_map_spec {w : World} {S : Blk} {Γ : List Asn} {h a m most : Nat} {C : List Nat} {L : List ByteArray} {V : List (Int × Nat)} {t : Tm} {cs : List Value} (hO : Ok w S (HeapA h most C :: AtomsA a L :: VarsA m V :: Γ)) (hT : TmC w S cs t) (hVV : VOk V) :
    Calls Try.prog 28 #[.pointer (some ⟨h, 0, none⟩), .pointer (some ⟨a, 0, none⟩), .agg cs.toArray, .map (some m)] w fun e w' =>
      e = .returned (.tuple #[.int .u64 (putP most t ⟨C, L, V⟩).1.1, .int .i64 (putP most t ⟨C, L, V⟩).1.2]) ∧ To w S w' S (HeapA h most (putP most t ⟨C, L, V⟩).2.C :: AtomsA a (putP most t ⟨C, L, V⟩).2.L :: VarsA m (putP most t ⟨C, L, V⟩).2.V :: Γ) := by
  obtain ⟨A, cap, rfl⟩ := hT.form0
  generalize hres : putP most t ⟨C, L, V⟩ = res
  have hal := hO.to.allocPt #[.int .i64 t.k, .string t.s, .int .i64 t.n, .int .u64 t.re, .int .u64 t.im, .slice A t.xs.length cap] 25
  have hmay := tmay_spec hal.ok (hT.to hal)
  have HMAY := Lib.hid hmay; clear hmay
  have HAL := Lib.hid hal; clear hal
  have HT := Lib.hid hT; clear hT
  have HVB := Lib.hid hVV; clear hVV
  have H := Lib.hid hO; clear hO
  by_cases hm : May t = 0
  case neg =>
    have hr : res = ((0, May t), ⟨C, L, V⟩) := by rw [← hres]; simp [putP, hm]
    have HR := Lib.hid hr; clear hr hres
    have hb : ((May t : Int) != 0) = true := by simp [bne]; omega
    go_enter Try.func28, Try.ntmps28
    go_wp2
    refine wp_goto_ghost 0 101 (fun _ _ _ => False) rfl (fun _ _ _ h => h.elim) ?_
    intro _
    go_wp2_with (go_at_call 86; refine HMAY.out.mono ?_; rintro e w' ⟨rfl, hw⟩)
    simp only [Exit.jump]
    go_ret2
    rw [HR.out]
    exact ⟨rfl, (HAL.out.trans hw).drop⟩
  have hr : fin most [.tm t (-1)] 0 ⟨C, L, V⟩ = res := by rw [← hres]; simp [putP, hm]
  have HR := Lib.hid hr; clear hr hres
  obtain ⟨hnod, hgood⟩ := May_zero hm
  have HG := Lib.hid hgood; clear hgood
  rw [hm] at HMAY
  clear hm
  go_enter Try.func28, Try.ntmps28
  go_wp2
  refine wp_goto_ghost 0 101 (fun wt f W => f 0 = .pointer (some ⟨h, 0, none⟩) ∧ ∃ p, f 11 = .pointer (some ⟨p, 0, none⟩) ∧ PutR w S Γ p h a m most res (f 12) W wt) rfl ?pass ?first
  case first =>
    intro hp
    go_wp2_with (go_at_call 86; refine HMAY.out.mono ?_; rintro e w1 ⟨rfl, hw⟩; have x0 : w1.cell? ⟨w.heap.size, 0, none⟩ = some (.int .i64 t.k) := hw.ok.ptCell 0 _ rfl; have x1 : w1.cell? ⟨w.heap.size, 1, none⟩ = some (.string t.s) := hw.ok.ptCell 1 _ rfl; have x2 : w1.cell? ⟨w.heap.size, 2, none⟩ = some (.int .i64 t.n) := hw.ok.ptCell 2 _ rfl; have x3 : w1.cell? ⟨w.heap.size, 3, none⟩ = some (.int .u64 t.re) := hw.ok.ptCell 3 _ rfl; have x4 : w1.cell? ⟨w.heap.size, 4, none⟩ = some (.int .u64 t.im) := hw.ok.ptCell 4 _ rfl; have x5 : w1.cell? ⟨w.heap.size, 5, none⟩ = some (.slice A t.xs.length cap) := hw.ok.ptCell 5 _ rfl; have x6 := hw.ok.ptLt; have HW1 := Lib.hid (HAL.out.trans hw).drop; clear hw)
    go_step3
    go_step
    go_step
    apply hp
    have h1 := ((HW1.out.allocPt #[.int .i64 t.k, .string t.s, .int .i64 t.n, .int .u64 t.re, .int .u64 t.im, .slice A t.xs.length cap, .int .i64 (-1), .bool false, .int .u64 0] 127).re fun k => k.ptRow 9 1 rfl (by simp [maxLen])).allocPt #[.pointer (some ⟨h, 0, none⟩), .pointer (some ⟨a, 0, none⟩), .map (some m), .slice (some ⟨w1.heap.size, 0, none⟩) 1 1] 130
    simp only [World.size_alloc] at h1
    refine ⟨rfl, rfl, 2 * nodes t, rfl, w1.heap.size + 1, rfl, [.tm t A cap (-1)], 0, ⟨C, L, V⟩, .slice (some ⟨w1.heap.size, 0, none⟩) 1 1, rfl, h1.p4.p4.p4, ?_, HR.out, ?_, ?_, ?_⟩
    · intro i hi
      simp at hi
      subst hi
      exact ⟨⟨HT.out, by omega, by omega⟩, HG.out⟩
    · exact HVB.out
    · simp [weight, Ti.td, Td.weight]
    · omega
  case pass =>
    rintro wt f W ⟨f0, p, f11, stk, first, st, v, f12, hO, hI, hq, hV, hwt, hw4⟩
    clear HMAY HAL HT H HR HG
    obtain ⟨A7, c7, rfl⟩ := hO.ok.p4.rowShape
    have hp3 : W.cell? ⟨p, 3, none⟩ = some (.slice A7 stk.length c7) := hO.ok.p3.ptCell 3 _ rfl
    have hpf := hO.ok.p3.ptFree 3
    have hplt := hO.ok.p3.ptLt
    cases stk with
    | nil =>
      have HO := Lib.hid hO.p3.drop.p3.drop; clear hO
      have HQ := Lib.hid hq; clear hq hI
      show Code.wp _ _ _ ⟨#[f 0, f 1, f 2, f 3, f 4, f 5, f 6, f 7, f 8, f 9, f 10, f 11, f 12, f 13, f 14, f 15, f 16, f 17, f 18, f 19, f 20, f 21, f 22, f 23, f 24, f 25, f 26, f 27, f 28, f 29, f 30, f 31, f 32, f 33, f 34, f 35, f 36, f 37, f 38, f 39, f 40, f 41, f 42, f 43, f 44, f 45, f 46, f 47, f 48, f 49, f 50, f 51, f 52, f 53, f 54, f 55, f 56, f 57, f 58, f 59, f 60, f 61, f 62, f 63, f 64, f 65, f 66, f 67, f 68, f 69, f 70, f 71, f 72, f 73, f 74, f 75, f 76, f 77, f 78, f 79, f 80, f 81, f 82, f 83, f 84, f 85, f 86, f 87, f 88, f 89, f 90, f 91, f 92, f 93, f 94, f 95, f 96, f 97, f 98, f 99, f 100], []⟩ _
      rw [f0, f11, f12]
      go_wp2
      simp only [Exit.jump]
      go_ret2
      rw [← HQ.out]
      exact ⟨rfl, HO.out⟩
    | cons top rest =>
      obtain ⟨g, c8, e8, hcap, hgl, hgS, hg⟩ := hO.ok.p4.rowLast (last := top.v) (tiV_length rest)
      simp only [List.length_cons, Value.slice.injEq, true_and] at e8
      obtain ⟨rfl, rfl⟩ := e8
      show Code.wp _ _ _ ⟨#[f 0, f 1, f 2, f 3, f 4, f 5, f 6, f 7, f 8, f 9, f 10, f 11, f 12, f 13, f 14, f 15, f 16, f 17, f 18, f 19, f 20, f 21, f 22, f 23, f 24, f 25, f 26, f 27, f 28, f 29, f 30, f 31, f 32, f 33, f 34, f 35, f 36, f 37, f 38, f 39, f 40, f 41, f 42, f 43, f 44, f 45, f 46, f 47, f 48, f 49, f 50, f 51, f 52, f 53, f 54, f 55, f 56, f 57, f 58, f 59, f 60, f 61, f 62, f 63, f 64, f 65, f 66, f 67, f 68, f 69, f 70, f 71, f 72, f 73, f 74, f 75, f 76, f 77, f 78, f 79, f 80, f 81, f 82, f 83, f 84, f 85, f 86, f 87, f 88, f 89, f 90, f 91, f 92, f 93, f 94, f 95, f 96, f 97, f 98, f 99, f 100], []⟩ _
      rw [f0, f11, f12]
      have hrow := hO.p4.rowPop (last := top.v) (tiV_length rest)
      have HROW := Lib.hid hrow; clear hrow
      have HO := Lib.hid hO; clear hO
      have HI := Lib.hid hI; clear hI
      have HQ := Lib.hid hq; clear hq
      clear f0 f11 f12
      have hne : ((rest.length : Int) + 1 == 0) = false := beq_eq_false_iff_ne.2 (by omega)
      have hlen : rest.length ≤ 4000 := by
        have e1 := weight_len ((top :: rest).map Ti.td)
        rw [hwt] at e1
        simp at e1
        omega
      cases top with
      | cl c i =>
        have g0 := hg 0 _ rfl
        have g1 := hg 1 _ rfl
        have g2 := hg 2 _ rfl
        have g3 := hg 3 _ rfl
        have g4 := hg 4 _ rfl
        have g5 := hg 5 _ rfl
        have g6 := hg 6 _ rfl
        have g7 := hg 7 _ rfl
        have g8 := hg 8 _ rfl
        rw [Nat.add_zero] at g0
        clear hg
        go_wp2
        have nn := World.new_ne W.drew ⟨g, 0, none⟩ (u := .int .i64 0)
        have hgl' : ¬ W.heap.size = g := by omega
        have hpl' : ¬ W.heap.size = p := by omega
        go_big_region
        go_wp2
        go_big_region
        have hX := (((HROW.out.p4.ptSet 3 (.slice (some ⟨g, 0, none⟩) rest.length c7)).allocPt' #[.int .i64 0, .string ⟨#[]⟩, .int .i64 0, .int .u64 0, .int .u64 0, .slice none 0 0, .int .i64 i, .bool true, .int .u64 (c : Int)] 127 W.heap.size (by simp [World.setCell])).drew.drew).p1.p2.p1.p5.p5.p5
        generalize ((W.setCell ⟨p, 3, none⟩ (.slice (some ⟨g, 0, none⟩) rest.length c7)).alloc (.cells #[.int .i64 0, .string ⟨#[]⟩, .int .i64 0, .int .u64 0, .int .u64 0, .slice none 0 0, .int .i64 i, .bool true, .int .u64 (c : Int)] 127)).drew.drew = W9 at hX ⊢
        have c0 : W9.cell? ⟨W.heap.size, 0, none⟩ = some (.int .i64 0) := hX.p5.ok.ptCell 0 _ rfl
        have c6 : W9.cell? ⟨W.heap.size, 6, none⟩ = some (.int .i64 i) := hX.p5.ok.ptCell 6 _ rfl
        have c7' : W9.cell? ⟨W.heap.size, 7, none⟩ = some (.bool true) := hX.p5.ok.ptCell 7 _ rfl
        have c8 : W9.cell? ⟨W.heap.size, 8, none⟩ = some (.int .u64 (c : Int)) := hX.p5.ok.ptCell 8 _ rfl
        have hok := (HI.out _ (List.mem_cons_self ..)).1
        obtain ⟨hcb, hi1, hi2⟩ := hok
        have hfin : fin most (rest.map Ti.td) (if i < 0 then c else first) (st.atI i c) = res := by
          have := HQ.out
          rwa [List.map_cons, Ti.td, fin] at this
        have HF := Lib.hid hfin; clear hfin
        have HX := Lib.hid hX; clear hX
        clear g0 g1 g2 g3 g4 g5 g6 g7 g8 hp3 hpf nn
        have hwt' : weight (rest.map Ti.td) + 1 = wt := by
          rw [List.map_cons, weight_cons] at hwt
          simp only [Ti.td, Td.weight] at hwt
          omega
        by_cases hi : i < 0
        · have hib : (decide (i < 0)) = true := by simpa using hi
          go_wp2
          go_step3
          refine ⟨rfl, ⟨rfl, rfl, weight (rest.map Ti.td), by omega, rfl, p, rfl, rest, c, st, .slice (some ⟨g, 0, none⟩) rest.length c7, rfl, HX.out.p5.drop, fun x hx => HI.out x (List.mem_cons_of_mem _ hx), ?_, hV, rfl, by omega⟩⟩
          have := HF.out
          rwa [if_pos hi, St.atI, if_pos hi] at this
        · obtain ⟨o, rfl⟩ : ∃ o : Nat, i = o := ⟨i.toNat, by omega⟩
          have hfin : fin most (rest.map Ti.td) first { st with C := st.C.set o c } = res := by
            have := HF.out
            rwa [if_neg hi, St.atI, if_neg hi, Int.toNat_natCast] at this
          have HF2 := Lib.hid hfin; clear hfin HF hi
          have hib : (decide ((o : Int) < 0)) = false := by simp
          by_cases ho : o < st.C.length
          · go_wp2_with (go_at_call 88; refine (set_ok HX.out.ok o c rfl rfl ho hcb).mono ?_; rintro e w' ⟨rfl, h2⟩)
            go_step3
            exact ⟨rfl, ⟨rfl, rfl, weight (rest.map Ti.td), by omega, rfl, p, rfl, rest, first, { st with C := st.C.set o c }, .slice (some ⟨g, 0, none⟩) rest.length c7, rfl, (HX.out.trans h2).p5.drop, fun x hx => HI.out x (List.mem_cons_of_mem _ hx), HF2.out, hV, rfl, by omega⟩⟩
          · have hse : st.C.set o c = st.C := List.set_eq_of_length_le (by omega)
            rw [hse] at HF2
            clear hse
            go_wp2_with (go_at_call 88; refine (set_out HX.out.ok.heapAR o (c : Int) (.inr (by omega))).mono ?_; rintro e w' ⟨rfl, hww⟩; subst w')
            go_step3
            exact ⟨rfl, ⟨rfl, rfl, weight (rest.map Ti.td), by omega, rfl, p, rfl, rest, first, st, .slice (some ⟨g, 0, none⟩) rest.length c7, rfl, HX.out.p5.drop, fun x hx => HI.out x (List.mem_cons_of_mem _ hx), HF2.out, hV, rfl, by omega⟩⟩
      | tm t A cap i =>
        obtain ⟨k, s, n, re, im, xs⟩ := t
        have g0 := hg 0 _ rfl
        have g1 := hg 1 _ rfl
        have g2 := hg 2 _ rfl
        have g3 := hg 3 _ rfl
        have g4 := hg 4 _ rfl
        have g5 := hg 5 _ rfl
        have g6 := hg 6 _ rfl
        have g7 := hg 7 _ rfl
        have g8 := hg 8 _ rfl
        rw [Nat.add_zero] at g0
        simp only [Tm.k, Tm.s, Tm.n, Tm.re, Tm.im, Tm.xs] at g0 g1 g2 g3 g4 g5
        clear hg
        go_wp2
        have hgl' : ¬ W.heap.size = g := by omega
        have hpl' : ¬ W.heap.size = p := by omega
        go_big_region
        go_wp2
        go_big_region
        have hX := (((HROW.out.p4.ptSet 3 (.slice (some ⟨g, 0, none⟩) rest.length c7)).allocPt' #[.int .i64 k, .string s, .int .i64 n, .int .u64 re, .int .u64 im, .slice A xs.length cap, .int .i64 i, .bool false, .int .u64 0] 127 W.heap.size (by simp [World.setCell])).drew.drew).p1.p2.p1.p5.p5.p5
        generalize ((W.setCell ⟨p, 3, none⟩ (.slice (some ⟨g, 0, none⟩) rest.length c7)).alloc (.cells #[.int .i64 k, .string s, .int .i64 n, .int .u64 re, .int .u64 im, .slice A xs.length cap, .int .i64 i, .bool false, .int .u64 0] 127)).drew.drew = W9 at hX ⊢
        have c0 : W9.cell? ⟨W.heap.size, 0, none⟩ = some (.int .i64 k) := hX.p5.ok.ptCell 0 _ rfl
        have c1 : W9.cell? ⟨W.heap.size, 1, none⟩ = some (.string s) := hX.p5.ok.ptCell 1 _ rfl
        have c2 : W9.cell? ⟨W.heap.size, 2, none⟩ = some (.int .i64 n) := hX.p5.ok.ptCell 2 _ rfl
        have c3 : W9.cell? ⟨W.heap.size, 3, none⟩ = some (.int .u64 re) := hX.p5.ok.ptCell 3 _ rfl
        have c4 : W9.cell? ⟨W.heap.size, 4, none⟩ = some (.int .u64 im) := hX.p5.ok.ptCell 4 _ rfl
        have c5 : W9.cell? ⟨W.heap.size, 5, none⟩ = some (.slice A xs.length cap) := hX.p5.ok.ptCell 5 _ rfl
        have c6 : W9.cell? ⟨W.heap.size, 6, none⟩ = some (.int .i64 i) := hX.p5.ok.ptCell 6 _ rfl
        have c7' : W9.cell? ⟨W.heap.size, 7, none⟩ = some (.bool false) := hX.p5.ok.ptCell 7 _ rfl
        have c8 : W9.cell? ⟨W.heap.size, 8, none⟩ = some (.int .u64 0) := hX.p5.ok.ptCell 8 _ rfl
        obtain ⟨⟨hT, hi1, hi2⟩, hgd⟩ := HI.out _ (List.mem_cons_self ..)
        simp only [Tm.k, Tm.s, Tm.n, Tm.re, Tm.im, Tm.xs] at hT
        have hT9 := hT.to hX
        clear hT
        have hq' := HQ.out
        rw [List.map_cons, Ti.td] at hq'
        clear HQ g0 g1 g2 g3 g4 g5 g6 g7 g8 hp3 hpf
        have HX := Lib.hid hX; clear hX
        obtain ⟨hone, hgk⟩ := hgd
        have hkk : 1 ≤ k ∧ k ≤ 5 := one_k hone
        by_cases k5 : k = 5
        · subst k5
          have hx2 := one_len (t := .mk 5 s n re im xs) hone rfl
          have hx1 := one_pos (t := .mk 5 s n re im xs) hone rfl
          simp only [Tm.xs] at hx1 hx2
          have hcs := cell_comp HX.out.ok hT9 i hi1 hi2 hx1 hx2 (by omega)
          rw [fin_comp] at hq'
          have hVo : VOk (opn most s xs.length st).2.V := by rw [opn_V]; exact hV
          generalize opn most s xs.length st = oo at hcs hq' hVo
          have HC := Lib.hid hcs; clear hcs
          have HT9 := Lib.hid hT9; clear hT9
          have HGK := Lib.hid (hgk rfl); clear hgk hone hkk
          obtain ⟨⟨oc, oe⟩, so⟩ := oo
          simp only at hq' hVo
          have hwt' : 2 * nodesL xs + 1 + weight (rest.map Ti.td) + 1 = wt := by
            rw [List.map_cons, weight_cons] at hwt
            simp only [Ti.td, Td.weight, nodes, if_true] at hwt
            omega
          by_cases hoe : oe = 0
          · subst hoe
            rw [if_neg (by simp)] at hq'
            have HQ' := Lib.hid hq'; clear hq'
            go_wp2_with (go_at_call 87; refine HC.out.mono ?_; rintro e w' ⟨v2, l, cc, rfl, q1, q2, q3⟩; have d0 : w'.cell? ⟨W.heap.size, 0, none⟩ = some (.int .i64 5) := q3.p5.ok.ptCell 0 _ rfl; have d6 : w'.cell? ⟨W.heap.size, 6, none⟩ = some (.int .i64 i) := q3.p5.ok.ptCell 6 _ rfl; have Q1 := Lib.hid q1; have Q2 := Lib.hid q2; have Q3 := Lib.hid q3; clear q1 q2 q3)
            go_step3
            obtain ⟨-, hm⟩ := Q1.out (by simp)
            refine ⟨rfl, ⟨rfl, rfl, weight (l.map Ti.td), ?_, rfl, p, rfl, l, first, so, v2, rfl, (HX.out.trans Q3.out).p5.drop, fun x hx => ?_, ?_, hVo, rfl, ?_⟩⟩
            · rw [hm, weight_append, weight_cons, weight_tds]; simp only [Td.weight]; omega
            · constructor
              · rcases Q2.out x hx with hx | hx
                · exact (HI.out x (List.mem_cons_of_mem _ hx)).1
                · cases x with
                  | tm t A cap i => exact ⟨hx.1.back HX.out, hx.2⟩
                  | cl c i => exact hx
              · have hx2 : x.td ∈ l.map Ti.td := List.mem_map_of_mem hx
                rw [hm] at hx2
                rcases List.mem_append.1 hx2 with hx2 | hx2
                · exact good_tds xs HGK.out _ _ hx2
                · rcases List.mem_cons.1 hx2 with hx2 | hx2
                  · rw [hx2]; trivial
                  · obtain ⟨y, hy, e⟩ := List.mem_map.1 hx2
                    rw [← e]
                    exact (HI.out y (List.mem_cons_of_mem _ hy)).2
            · rw [hm]; exact HQ'.out
            · rw [hm, weight_append, weight_cons, weight_tds]; simp only [Td.weight]; omega
          · rw [if_pos hoe] at hq'
            have HQ' := Lib.hid hq'; clear hq'
            have heb : ((oe : Int) != 0) = true := by simp [bne]; omega
            have HOE := Lib.hid hoe; clear hoe
            go_wp2_with (go_at_call 87; refine HC.out.mono ?_; rintro e w' ⟨v2, l, cc, rfl, q1, q2, q3⟩; have d0 : w'.cell? ⟨W.heap.size, 0, none⟩ = some (.int .i64 5) := q3.p5.ok.ptCell 0 _ rfl; have d6 : w'.cell? ⟨W.heap.size, 6, none⟩ = some (.int .i64 i) := q3.p5.ok.ptCell 6 _ rfl; have Q1 := Lib.hid q1; have Q2 := Lib.hid q2; have Q3 := Lib.hid q3; clear q1 q2 q3)
            simp only [Exit.jump]
            go_ret2
            rw [← HQ'.out]
            exact ⟨rfl, ((HX.out.trans Q3.out).p5.drop.p4.drop.p3.drop)⟩
        · have hcs := cell_leaf HX.out.ok hT9 i hi1 hi2 hkk.1 (by omega)
          rw [fin_leaf _ _ _ _ _ _ _ _ _ _ _ k5] at hq'
          have hCb : st.C.length ≤ 1048576 := Nat.le_trans HX.out.ok.heapAR.2.2.2.1 HX.out.ok.heapAR.2.2.1
          have hlo := leaf_ok (most := most) (t := .mk k s n re im []) (own := i) hCb HX.out.ok.p1.atomsAR.2 hi2 hV
          generalize leaf most (.mk k s n re im []) i st = oo at hcs hq' hlo
          have HC := Lib.hid hcs; clear hcs
          have HT9 := Lib.hid hT9; clear hT9
          obtain ⟨⟨oc, oe⟩, so⟩ := oo
          obtain ⟨hob, hVo⟩ := hlo
          simp only at hq' hVo hob
          have hkb : (k == 5) = false := beq_eq_false_iff_ne.2 k5
          clear hgk hone
          have hwt' : weight (rest.map Ti.td) + 2 = wt := by
            rw [List.map_cons, weight_cons] at hwt
            simp only [Ti.td, Td.weight, nodes, if_neg k5] at hwt
            omega
          by_cases hoe : oe = 0
          · subst hoe
            rw [if_neg (by simp)] at hq'
            have HQ' := Lib.hid hq'; clear hq'
            by_cases hi : i < 0
            · have hib : (decide (i < 0)) = true := by simpa using hi
              go_wp2_with (go_at_call 87; refine HC.out.mono ?_; rintro e w' ⟨rfl, q3⟩; have d0 : w'.cell? ⟨W.heap.size, 0, none⟩ = some (.int .i64 k) := q3.p5.ok.ptCell 0 _ rfl; have d6 : w'.cell? ⟨W.heap.size, 6, none⟩ = some (.int .i64 i) := q3.p5.ok.ptCell 6 _ rfl; have Q3 := Lib.hid q3; clear q3)
              go_step3
              refine ⟨rfl, ⟨rfl, rfl, weight (rest.map Ti.td), by omega, rfl, p, rfl, rest, oc, so, .slice (some ⟨g, 0, none⟩) rest.length c7, rfl, (HX.out.trans Q3.out).p5.drop, fun x hx => HI.out x (List.mem_cons_of_mem _ hx), ?_, hVo, rfl, by omega⟩⟩
              have := HQ'.out
              rwa [if_pos hi, St.atI, if_pos hi] at this
            · obtain ⟨o, rfl⟩ : ∃ o : Nat, i = o := ⟨i.toNat, by omega⟩
              have hfin : fin most (rest.map Ti.td) first { so with C := so.C.set o oc } = res := by
                have := HQ'.out
                rwa [if_neg hi, St.atI, if_neg hi, Int.toNat_natCast] at this
              have HF2 := Lib.hid hfin; clear hfin HQ' hi
              have hib : (decide ((o : Int) < 0)) = false := by simp
              by_cases ho : o < so.C.length
              · go_wp2_with (first | (go_at_call 87; refine HC.out.mono ?_; rintro e w' ⟨rfl, q3⟩; have d0 : w'.cell? ⟨W.heap.size, 0, none⟩ = some (.int .i64 k) := q3.p5.ok.ptCell 0 _ rfl; have d6 : w'.cell? ⟨W.heap.size, 6, none⟩ = some (.int .i64 (o : Int)) := q3.p5.ok.ptCell 6 _ rfl; have Q3 := Lib.hid q3; clear q3) | (go_at_call 88; refine (set_ok Q3.out.ok o oc rfl rfl ho hob).mono ?_; rintro e w'' ⟨rfl, h2⟩))
                go_step3
                exact ⟨rfl, ⟨rfl, rfl, weight (rest.map Ti.td), by omega, rfl, p, rfl, rest, first, { so with C := so.C.set o oc }, .slice (some ⟨g, 0, none⟩) rest.length c7, rfl, ((HX.out.trans Q3.out).trans h2).p5.drop, fun x hx => HI.out x (List.mem_cons_of_mem _ hx), HF2.out, hVo, rfl, by omega⟩⟩
              · have hse : so.C.set o oc = so.C := List.set_eq_of_length_le (by omega)
                rw [hse] at HF2
                clear hse
                go_wp2_with (first | (go_at_call 87; refine HC.out.mono ?_; rintro e w' ⟨rfl, q3⟩; have d0 : w'.cell? ⟨W.heap.size, 0, none⟩ = some (.int .i64 k) := q3.p5.ok.ptCell 0 _ rfl; have d6 : w'.cell? ⟨W.heap.size, 6, none⟩ = some (.int .i64 (o : Int)) := q3.p5.ok.ptCell 6 _ rfl; have Q3 := Lib.hid q3; clear q3) | (go_at_call 88; refine (set_out Q3.out.ok.heapAR o (oc : Int) (.inr (by omega))).mono ?_; rintro e w'' ⟨rfl, hww⟩; subst w''))
                go_step3
                exact ⟨rfl, ⟨rfl, rfl, weight (rest.map Ti.td), by omega, rfl, p, rfl, rest, first, so, .slice (some ⟨g, 0, none⟩) rest.length c7, rfl, (HX.out.trans Q3.out).p5.drop, fun x hx => HI.out x (List.mem_cons_of_mem _ hx), HF2.out, hVo, rfl, by omega⟩⟩
          · rw [if_pos hoe] at hq'
            have HQ' := Lib.hid hq'; clear hq'
            have heb : ((oe : Int) != 0) = true := by simp [bne]; omega
            have HOE := Lib.hid hoe; clear hoe
            go_wp2_with (go_at_call 87; refine HC.out.mono ?_; rintro e w' ⟨rfl, q3⟩; have d0 : w'.cell? ⟨W.heap.size, 0, none⟩ = some (.int .i64 k) := q3.p5.ok.ptCell 0 _ rfl; have d6 : w'.cell? ⟨W.heap.size, 6, none⟩ = some (.int .i64 i) := q3.p5.ok.ptCell 6 _ rfl; have Q3 := Lib.hid q3; clear q3)
            simp only [Exit.jump]
            go_ret2
            rw [← HQ'.out]
            exact ⟨rfl, ((HX.out.trans Q3.out).p5.drop.p4.drop.p3.drop)⟩
end Go.Proofs.Ytceahdlcbiialaa
