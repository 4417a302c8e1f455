/- What copying a cell keeps: bounds. No condition. The copier: its loop. copy.Term, of heaps and of none; copy.Collect of none. -/
import Derived.Test.YtceahdlcbiialaaF8M1
import Derived.Test.YtceahdlcbiialaaF8M3
import Derived.Test.YtceahdlcbiialaaF5M14
set_option linter.unusedVariables false
set_option linter.unusedSimpArgs false
namespace Go.Proofs.Ytceahdlcbiialaa
open Go.RowKit

def MOk (M : List (Nat × Nat)) : Prop := ∀ x ∈ M, x.2 < 18446744073709551616
theorem MOk.up {M : List (Nat × Nat)} (h : MOk M) (d o : Nat) (ho : o < 18446744073709551616) : MOk (up M d o) := by
  intro x hx
  rcases up_mem d o M x hx with e | hx
  · rw [e]; exact ho
  · exact h x hx
theorem MOk.lk {M : List (Nat × Nat)} (h : MOk M) {d o : Nat} (hq : lk M d = some o) : o < 18446744073709551616 := by
  obtain ⟨x, hx, rfl⟩ := lk_mem hq
  exact h x hx
/-- One step keeps the bounds. -/
def FreshOk (src : List Nat → List Nat) (n : Nat) : Fresh → Prop
  | .bad e s => e ≠ 0 ∧ s.n ≤ n ∧ MOk s.M
  | .leaf o s => o < 18446744073709551616 ∧ MOk s.M ∧ s.n = n
  | .comp at' args s => (at' ≤ 1048576 ∧ at' + args.length + 1 ≤ s.K.length) ∧ (∀ x ∈ args, x ∈ src s.K) ∧ args.length ≤ 20 ∧ MOk s.M ∧ s.n = n
theorem pushAll_err (most : Nat) : ∀ (l C : List Nat), (pushAll most l C).1 = 0 ∨ (pushAll most l C).1 = 4
  | [], C => .inl rfl
  | x :: l, C => by
    unfold pushAll
    split
    · exact pushAll_err most l _
    · exact .inr rfl
theorem varAll_err (most : Nat) : ∀ (n : Nat) (C : List Nat), (varAll most n C).1 = 0 ∨ (varAll most n C).1 = 4
  | 0, C => .inl rfl
  | n + 1, C => by
    unfold varAll
    split
    · exact varAll_err most n _
    · exact .inr rfl
theorem cpF_ok {src : List Nat → List Nat} {most d : Nat} {own : Int} {s : CS} (hK : s.K.length ≤ 1048576) (ho : own ≤ 1048576) (hM : MOk s.M) : FreshOk src s.n (cpF src most d own s) := by
  have hW : ∀ tag l, tag < 8 → FreshOk src s.n (if (cpW most tag l s).1.2 = 0 then .leaf (cpW most tag l s).1.1 (cpW most tag l s).2 else .bad (cpW most tag l s).1.2 (cpW most tag l s).2) := by
    intro tag l ht
    by_cases hp : (pushAll most l s.K).1 = 0
    · have e : cpW most tag l s = ((mkc tag s.K.length, 0), { s with K := (pushAll most l s.K).2 }) := by unfold cpW; rw [if_pos hp]
      rw [e, if_pos rfl]
      exact ⟨mkc_lt _ _ ht (by omega), hM, rfl⟩
    · have e : cpW most tag l s = ((0, (pushAll most l s.K).1), { s with K := (pushAll most l s.K).2 }) := by unfold cpW; rw [if_neg hp]
      rw [e, if_neg hp]
      exact ⟨hp, Nat.le_refl _, hM⟩
  unfold cpF
  split
  · split
    · unfold cpV
      split
      · split
        · rw [if_pos rfl]; exact ⟨mkc_lt _ _ (by omega) (by omega), hM, rfl⟩
        · rw [if_neg (by simp)]; exact ⟨by simp, Nat.le_refl _, hM⟩
      · rw [if_pos rfl]; exact ⟨mkc_lt _ _ (by omega) (by omega), hM, rfl⟩
    · exact ⟨by omega, Nat.le_refl _, hM⟩
  · split
    · cases hf : funC (src s.K) d with
      | none => exact ⟨by omega, Nat.le_refl _, hM⟩
      | some fn =>
        obtain ⟨f, n⟩ := fn
        have hn : n ≤ 20 := by
          unfold funC at hf
          cases hx : (src s.K)[vl d]? with
          | none => rw [hx] at hf; cases hf
          | some x =>
            rw [hx] at hf
            simp only at hf
            split at hf
            · rename_i hc
              simp only [Option.some.injEq, Prod.mk.injEq] at hf
              rw [← hf.2]
              exact hc.2.2.1
            · cases hf
        dsimp only
        by_cases hk : s.K.length < most
        · by_cases hv : (varAll most n (s.K ++ [f])).1 = 0
          · have e : cpO most f n s = ((s.K.length, 0), { s with K := (varAll most n (s.K ++ [f])).2 }) := by unfold cpO; rw [if_pos hk, if_pos hv]
            rw [e, if_pos rfl]
            have hl : (varAll most n (s.K ++ [f])).2.length = s.K.length + 1 + n := by
              have := varAll_len most n (s.K ++ [f]) (varAll most n (s.K ++ [f])).2 (Prod.ext hv rfl)
              rw [this]
              simp
            have hal : (((src (varAll most n (s.K ++ [f])).2).drop (vl d + 1)).take n).length ≤ n := List.length_take_le _ _
            refine ⟨⟨hK, by simp only; omega⟩, fun x hx => List.mem_of_mem_drop (List.mem_of_mem_take hx), by simp only; omega, hM, rfl⟩
          · have e : cpO most f n s = ((0, (varAll most n (s.K ++ [f])).1), { s with K := (varAll most n (s.K ++ [f])).2 }) := by unfold cpO; rw [if_pos hk, if_neg hv]
            rw [e, if_neg hv]
            exact ⟨hv, Nat.le_refl _, hM⟩
        · have e : cpO most f n s = ((0, 4), s) := by unfold cpO; rw [if_neg hk]
          rw [e, if_neg (by simp)]
          exact ⟨by simp, Nat.le_refl _, hM⟩
    · split
      · cases (src s.K)[vl d]? with
        | none => exact ⟨by omega, Nat.le_refl _, hM⟩
        | some x => exact hW 4 [x] (by omega)
      · split
        · cases (src s.K)[vl d]? with
          | none => exact ⟨by omega, Nat.le_refl _, hM⟩
          | some x =>
            cases (src s.K)[vl d + 1]? with
            | none => exact ⟨by omega, Nat.le_refl _, hM⟩
            | some y => exact hW 5 [x, y] (by omega)
        · exact ⟨by omega, Nat.le_refl _, hM⟩
theorem cpS_ok {src : List Nat → List Nat} {most c : Nat} {own : Int} {s : CS} (hK : s.K.length ≤ 1048576) (hs : ∀ x ∈ src s.K, x < 18446744073709551616) (hc : c < 18446744073709551616) (ho : own ≤ 1048576) (hM : MOk s.M) (hn : s.n ≤ 100000) :
    (cpS src most c own s = .bad 3 s ∧ s.n = 100000) ∨ (s.n < 100000 ∧ FreshOk src (s.n + 1) (cpS src most c own s)) := by
  unfold cpS
  by_cases hb : 100000 ≤ s.n
  · rw [if_pos hb]; exact .inl ⟨rfl, by omega⟩
  · rw [if_neg hb]
    refine .inr ⟨by omega, ?_⟩
    dsimp only
    have hd := deref_lt (most := most) hs (src s.K).length c hc
    split
    · exact ⟨hd, hM, rfl⟩
    · cases hq : lk s.M (deref (src s.K) (src s.K).length c) with
      | some o => exact ⟨hM.lk hq, hM, rfl⟩
      | none =>
        have hF := cpF_ok (src := src) (most := most) (d := deref (src s.K) (src s.K).length c) (own := own) (s := ⟨s.K, s.M, s.n + 1⟩) hK ho hM
        dsimp only
        cases hf : cpF src most (deref (src s.K) (src s.K).length c) own ⟨s.K, s.M, s.n + 1⟩ with
        | bad e s2 => rw [hf] at hF; exact ⟨hF.1, hF.2.1, hF.2.2⟩
        | leaf o s2 =>
          rw [hf] at hF
          exact ⟨hF.1, hF.2.1.up _ _ hF.1, hF.2.2⟩
        | comp at' args s2 =>
          rw [hf] at hF
          have hb2 : mkc 1 at' < 18446744073709551616 := mkc_lt _ _ (by omega) (by have := hF.1.1; omega)
          exact ⟨hF.1, hF.2.1, hF.2.2.1, hF.2.2.2.1.up _ _ hb2, hF.2.2.2.2⟩
end Go.Proofs.Ytceahdlcbiialaa
set_option linter.unusedVariables false
set_option linter.unusedSimpArgs false
namespace Go.Proofs.Ytceahdlcbiialaa
open Go.RowKit

def CopyR (w : World) (S : Blk) (Γ : List Asn) (X : Src) (p m : Nat) (res : (Nat × Nat) × CS) (fv : Value) (W : World) (wt : Nat) : Prop :=
  ∃ (stk : List Ct) (first : Nat) (s : CS) (v : Value), fv = .int .u64 (first : Int) ∧ To w S W S (CopG X p m s v (Row v 197 3 stk.length (ctV stk) :: Γ)) ∧ (∀ x ∈ stk, x.c < 18446744073709551616 ∧ x.i ≤ 1048576) ∧
    finC X.src X.most stk first s = res ∧ MOk s.M ∧ s.n ≤ 100000 ∧ 22 * (100000 - s.n) + stk.length = wt ∧ wt ≤ 2200001
section
variable {w : World} {S : Blk} {Γ : List Asn} {X : Src} {p m : Nat} {s : CS} {v : Value}
set_option maxRecDepth 100000 in
set_option maxHeartbeats 8000000 in
theorem cterm_spec (hO : Ok w S (CopG X p m s v Γ)) (c : Nat) (hc : c < 18446744073709551616) (hM : MOk s.M) (hn : s.n ≤ 100000) {res : (Nat × Nat) × CS} (hres : res = finC X.src X.most [⟨c, -1, false⟩] 0 s) :
    Calls Try.prog 96 #[.pointer (some ⟨p, 0, none⟩), .int .u64 (c : Int)] w fun e w' => e = .returned (.tuple #[.int .u64 (res.1.1 : Int), .int .i64 (res.1.2 : Int)]) ∧ ∃ v', To w S w' S (CopG X p m res.2 v' Γ) := by
  have h1 := (((hO.to.p2.ptSet 4 (.slice (some ⟨w.heap.size, 0, none⟩) 1 1)).allocPt' #[.int .u64 (c : Int), .int .i64 (-1), .bool false] 197 w.heap.size (by simp [World.setCell])).re fun k => k.ptRow 3 1 rfl (by simp [maxLen])).p4.p2.p4.p4
  obtain ⟨-, ⟨-, k5⟩, k6⟩ := hO.copPt
  have k4 : w.cell? ⟨p, 4, none⟩ = some v := hO.copPt.1.2.2.2.2
  have H1 := Lib.hid h1
  have HR := Lib.hid hres.symm
  have HM := Lib.hid hM
  clear h1 hO hres hM
  go_enter Try.func96, Try.ntmps96
  go_wp2
  refine wp_goto_ghost 0 91 (fun wt f W => f 0 = .pointer (some ⟨p, 0, none⟩) ∧ CopyR w S Γ X p m res (f 6) W wt) rfl ?pass ?first
  case first =>
    intro hp
    go_wp2
    go_step3
    go_step
    go_step
    apply hp
    refine ⟨rfl, rfl, 22 * (100000 - s.n) + 1, rfl, [⟨c, -1, false⟩], 0, s, .slice (some ⟨w.heap.size, 0, none⟩) 1 1, rfl, H1.out, ?_, HR.out, HM.out, hn, rfl, by omega⟩
    intro x hx
    simp at hx
    subst hx
    exact ⟨hc, by simp only; omega⟩
  case pass =>
    rintro wt f W ⟨f0, stk, first, st, v1, f6, hO, hI, hq, hMM, hnn, hwt, hw4⟩
    clear k4 k5 k6 HR HM H1 hn hc
    obtain ⟨A7, c7, rfl⟩ := hO.ok.p4.rowShape
    have hp3 : W.cell? ⟨p, 4, none⟩ = some (.slice A7 stk.length c7) := hO.ok.p2.ptCell 4 _ rfl
    have hpf := hO.ok.p2.ptFree 4
    have hplt := hO.ok.p2.ptLt
    cases stk with
    | nil =>
      have HO := Lib.hid hO.p4.drop; clear hO
      have HQ := Lib.hid hq; clear hq hI
      show Code.wp _ _ _ ⟨#[f 0, f 1, f 2, f 3, f 4, f 5, f 6, f 7, f 8, f 9, f 10, f 11, f 12, f 13, f 14, f 15, f 16, f 17, f 18, f 19, f 20, f 21, f 22, f 23, f 24, f 25, f 26, f 27, f 28, f 29, f 30, f 31, f 32, f 33, f 34, f 35, f 36, f 37, f 38, f 39, f 40, f 41, f 42, f 43, f 44, f 45, f 46, f 47, f 48, f 49, f 50, f 51, f 52, f 53, f 54, f 55, f 56, f 57, f 58, f 59, f 60, f 61, f 62, f 63, f 64, f 65, f 66, f 67, f 68, f 69, f 70, f 71, f 72, f 73, f 74, f 75, f 76, f 77, f 78, f 79, f 80, f 81, f 82, f 83, f 84, f 85, f 86, f 87, f 88, f 89, f 90], []⟩ _
      rw [f0, f6]
      go_wp2
      simp only [Exit.jump]
      go_ret2
      rw [← HQ.out]
      exact ⟨rfl, _, HO.out⟩
    | cons top rest =>
      obtain ⟨tc, ti, td⟩ := top
      obtain ⟨g, c8, e8, hcap, hgl, hgS, hg⟩ := hO.ok.p4.rowLast (n := rest.length) (xs := ctV rest) (last := (⟨tc, ti, td⟩ : Ct).v) (ctV_length rest)
      simp only [List.length_cons, Value.slice.injEq, true_and] at e8
      obtain ⟨rfl, rfl⟩ := e8
      show Code.wp _ _ _ ⟨#[f 0, f 1, f 2, f 3, f 4, f 5, f 6, f 7, f 8, f 9, f 10, f 11, f 12, f 13, f 14, f 15, f 16, f 17, f 18, f 19, f 20, f 21, f 22, f 23, f 24, f 25, f 26, f 27, f 28, f 29, f 30, f 31, f 32, f 33, f 34, f 35, f 36, f 37, f 38, f 39, f 40, f 41, f 42, f 43, f 44, f 45, f 46, f 47, f 48, f 49, f 50, f 51, f 52, f 53, f 54, f 55, f 56, f 57, f 58, f 59, f 60, f 61, f 62, f 63, f 64, f 65, f 66, f 67, f 68, f 69, f 70, f 71, f 72, f 73, f 74, f 75, f 76, f 77, f 78, f 79, f 80, f 81, f 82, f 83, f 84, f 85, f 86, f 87, f 88, f 89, f 90], []⟩ _
      rw [f0, f6]
      have hrow := hO.p4.rowPop (n := rest.length) (xs := ctV rest) (last := (⟨tc, ti, td⟩ : Ct).v) (ctV_length rest)
      have HROW := Lib.hid hrow; clear hrow
      have HO := Lib.hid hO; clear hO
      have htop := hI _ (List.mem_cons_self ..)
      have hrst := fun x hx => hI x (List.mem_cons_of_mem _ hx)
      have HI := Lib.hid hrst; clear hI hrst
      have HQ := Lib.hid hq; clear hq
      clear f0 f6
      have hne : ((rest.length : Int) + 1 == 0) = false := beq_eq_false_iff_ne.2 (by omega)
      have hlen : rest.length ≤ 2200001 := by simp only [List.length_cons] at hwt; omega
      have g0 : W.cell? ⟨g, rest.length * 3, none⟩ = some (.int .u64 (tc : Int)) := by have := hg 0 _ rfl; rwa [Nat.add_zero] at this
      have g1 : W.cell? ⟨g, rest.length * 3 + 1, none⟩ = some (.int .i64 ti) := hg 1 _ rfl
      have g2 : W.cell? ⟨g, rest.length * 3 + 2, none⟩ = some (.bool td) := hg 2 _ rfl
      clear hg
      go_wp2
      have nn := World.new_ne W.drew ⟨g, 0, none⟩ (u := .int .i64 0)
      have hgl' : ¬ W.heap.size = g := by omega
      have hpl' : ¬ W.heap.size = p := by omega
      go_big_region
      go_wp2
      go_big_region
      have hX := ((((HROW.out.p3.ptSet 4 (.slice (some ⟨g, 0, none⟩) rest.length c7)).allocPt' #[.int .u64 (tc : Int), .int .i64 ti, .bool td] 197 W.heap.size (by simp [World.setCell])).drew.drew).p1.p2.p1).p2.p2.p5.p3.p5.p5
      generalize ((W.setCell ⟨p, 4, none⟩ (.slice (some ⟨g, 0, none⟩) rest.length c7)).alloc (.cells #[.int .u64 (tc : Int), .int .i64 ti, .bool td] 197)).drew.drew = W9 at hX ⊢
      have q4 : W9.cell? ⟨p, 4, none⟩ = some (.slice (some ⟨g, 0, none⟩) rest.length c7) := hX.ok.p2.ptCell 4 _ rfl
      have b0 : W9.cell? ⟨W.heap.size, 0, none⟩ = some (.int .u64 (tc : Int)) := hX.ok.p5.ptCell 0 _ rfl
      have b1 : W9.cell? ⟨W.heap.size, 1, none⟩ = some (.int .i64 ti) := hX.ok.p5.ptCell 1 _ rfl
      have b2 : W9.cell? ⟨W.heap.size, 2, none⟩ = some (.bool td) := hX.ok.p5.ptCell 2 _ rfl
      have HX : Hid (To w S W9 S (CopG X p m st (.slice (some ⟨g, 0, none⟩) rest.length c7) (Row (.slice (some ⟨g, 0, none⟩) rest.length c7) 197 3 rest.length (ctV rest) :: Pt W.heap.size #[.int .u64 (tc : Int), .int .i64 ti, .bool td] 197 :: Γ))) := Lib.hid hX
      have hK : st.K.length ≤ 1048576 := Nat.le_trans hX.ok.heapAR.2.2.2.1 hX.ok.heapAR.2.2.1
      clear g0 g1 g2 hp3 hpf hplt nn hX HROW HO hgl hgS hcap hgl' hpl'
      cases td with
      | true =>
        have hq' : finC X.src X.most rest (if ti < 0 then tc else first) (st.atI ti tc) = res := by rw [← HQ.out, finC]
        have HQ' := Lib.hid hq'
        clear hq'
        simp only [List.length_cons] at hwt
        by_cases hi : ti < 0
        · have hib : (decide (ti < 0)) = true := by simpa using hi
          have hq2 := HQ'.out
          rw [if_pos hi, CS.atI, if_pos hi] at hq2
          go_wp2
          go_step3
          exact ⟨rfl, ⟨rfl, rfl, 22 * (100000 - st.n) + rest.length, by omega, rfl, rest, tc, st, .slice (some ⟨g, 0, none⟩) rest.length c7, rfl, HX.out.p5.drop, HI.out, hq2, hMM, hnn, rfl, by omega⟩⟩
        · obtain ⟨o, rfl⟩ : ∃ o : Nat, ti = o := ⟨ti.toNat, by omega⟩
          have hq2 := HQ'.out
          rw [if_neg hi, CS.atI, if_neg hi, Int.toNat_natCast, CS.at] at hq2
          have HQ2 := Lib.hid hq2
          clear hq2 HQ' hi
          have hib : (decide ((o : Int) < 0)) = false := by simp
          have q1 : W9.cell? ⟨p, 1, none⟩ = some (.pointer (some ⟨X.th, 0, none⟩)) := HX.out.ok.p2.ptCell 1 _ rfl
          by_cases ho : o < st.K.length
          · have hst := set_ok HX.out.drew.ok o tc rfl rfl ho htop.1
            have HST := Lib.hid hst
            clear hst
            go_wp2_with fail
            go_region_held3 (fun Y => Y.cell? ⟨p, 1, none⟩ = some (.pointer (some ⟨X.th, 0, none⟩)) ∧ Y.cell? ⟨W.heap.size, 1, none⟩ = some (.int .i64 (o : Int))) (go_keep) (first | (go_at_call 88; refine HST.out.mono ?_; rintro e w' ⟨rfl, h2⟩; have q1' : w'.cell? ⟨p, 1, none⟩ = some (.pointer (some ⟨X.th, 0, none⟩)) := h2.ok.p2.ptCell 1 _ rfl; have b1' : w'.cell? ⟨W.heap.size, 1, none⟩ = some (.int .i64 (o : Int)) := h2.ok.p5.ptCell 1 _ rfl; have H2 := Lib.hid (HX.out.drew.trans h2); clear h2))
            go_wp2
            go_step3
            exact ⟨rfl, ⟨rfl, rfl, 22 * (100000 - st.n) + rest.length, by omega, rfl, rest, first, { st with K := st.K.set o tc }, .slice (some ⟨g, 0, none⟩) rest.length c7, rfl, H2.out.p5.drop, HI.out, HQ2.out, hMM, hnn, rfl, by omega⟩⟩
          · have hse : st.K.set o tc = st.K := List.set_eq_of_length_le (by omega)
            rw [hse] at HQ2
            have hst := set_out HX.out.drew.ok.heapAR o (tc : Int) (.inr (by omega))
            have HST := Lib.hid hst
            clear hse hst
            go_wp2_with fail
            go_region_held3 (fun Y => Y.cell? ⟨p, 1, none⟩ = some (.pointer (some ⟨X.th, 0, none⟩)) ∧ Y.cell? ⟨W.heap.size, 1, none⟩ = some (.int .i64 (o : Int))) (go_keep) (first | (go_at_call 88; refine HST.out.mono ?_; rintro e w' ⟨rfl, hww⟩; subst w'))
            go_wp2
            go_step3
            exact ⟨rfl, ⟨rfl, rfl, 22 * (100000 - st.n) + rest.length, by omega, rfl, rest, first, st, .slice (some ⟨g, 0, none⟩) rest.length c7, rfl, HX.out.drew.p5.drop, HI.out, HQ2.out, hMM, hnn, rfl, by omega⟩⟩
      | false =>
        have hcs := ccell_spec (stk := rest) HX.out.ok tc htop.1 (by omega) ti htop.2 hnn false
        have hok := cpS_ok (src := X.src) (most := X.most) (c := tc) (own := ti) hK (X.rd HX.out.ok).2.2.2.2 htop.1 htop.2 hMM hnn
        have hq' := HQ.out
        rw [finC_step] at hq'
        generalize cpS X.src X.most tc ti st = F at hcs hok hq'
        have HCS := Lib.hid hcs
        have HOK := Lib.hid hok
        have HQ' := Lib.hid hq'
        simp only [List.length_cons] at hwt
        clear hcs hok hq' HQ
        go_wp2_with fail
        refine HCS.out.mono ?_
        rintro e w10 ⟨v10, stk10, h10, hm10⟩
        have h11 := HX.out.trans h10
        obtain ⟨A10, c10, rfl⟩ := h10.ok.p4.rowShape
        have q4' : w10.cell? ⟨p, 4, none⟩ = some (.slice A10 stk10.length c10) := h10.ok.p2.ptCell 4 _ rfl
        have q1' : w10.cell? ⟨p, 1, none⟩ = some (.pointer (some ⟨X.th, 0, none⟩)) := h10.ok.p2.ptCell 1 _ rfl
        have b1' : w10.cell? ⟨W.heap.size, 1, none⟩ = some (.int .i64 ti) := h10.ok.p5.ptCell 1 _ rfl
        have hKb : F.s.K.length ≤ 1048576 := Nat.le_trans h10.ok.heapAR.2.2.2.1 h10.ok.heapAR.2.2.1
        have hsrc := (X.rd h10.ok).2.2.2.2
        have H11 := Lib.hid h11
        clear h10 h11 q4 b0 b1 b2 HX
        cases F with
        | bad e1 s1 =>
          obtain ⟨he1, c1, rfl⟩ := hm10
          have hq1 := HQ'.out
          simp only [if_pos he1] at hq1
          have HQ1 := Lib.hid hq1
          have heb : ((e1 : Int) != 0) = true := by simp [bne]; omega
          clear hq1 he1 HQ' HOK hsrc hKb
          go_wp2
          simp only [Exit.jump]
          go_ret2
          rw [← HQ1.out]
          exact ⟨rfl, _, H11.out.p4.drop.p4.drop⟩
        | leaf o s1 =>
          obtain ⟨rfl, rfl⟩ := hm10
          obtain ⟨hlt, hob, hM1, hn1⟩ : st.n < 100000 ∧ o < 18446744073709551616 ∧ MOk s1.M ∧ s1.n = st.n + 1 := by
            rcases HOK.out with ⟨h, _⟩ | ⟨h, h2⟩
            · cases h
            · exact ⟨h, h2⟩
          simp only [Fresh.s] at hKb
          by_cases hi : ti < 0
          · have hib : (decide (ti < 0)) = true := by simpa using hi
            have hq2 := HQ'.out
            simp only [if_pos hi, CS.atI] at hq2
            clear HQ' HOK hsrc
            go_wp2
            go_step3
            exact ⟨rfl, ⟨rfl, rfl, 22 * (100000 - s1.n) + stk10.length, by omega, rfl, stk10, o, s1, .slice A10 stk10.length c10, rfl, H11.out.p5.drop, HI.out, hq2, hM1, by omega, rfl, by omega⟩⟩
          · obtain ⟨o9, rfl⟩ : ∃ o9 : Nat, ti = o9 := ⟨ti.toNat, by omega⟩
            have hq2 := HQ'.out
            simp only [if_neg hi, CS.atI, Int.toNat_natCast, CS.at] at hq2
            have HQ2 := Lib.hid hq2
            clear hq2 HQ' hi HOK hsrc
            have hib : (decide ((o9 : Int) < 0)) = false := by simp
            by_cases ho : o9 < s1.K.length
            · have hst := set_ok H11.out.drew.ok o9 o rfl rfl ho hob
              have HST := Lib.hid hst
              clear hst
              go_wp2_with fail
              go_region_held3 (fun Y => Y.cell? ⟨p, 1, none⟩ = some (.pointer (some ⟨X.th, 0, none⟩)) ∧ Y.cell? ⟨W.heap.size, 1, none⟩ = some (.int .i64 (o9 : Int))) (go_keep) (first | (go_at_call 88; refine HST.out.mono ?_; rintro e w' ⟨rfl, h2⟩; have q1' : w'.cell? ⟨p, 1, none⟩ = some (.pointer (some ⟨X.th, 0, none⟩)) := h2.ok.p2.ptCell 1 _ rfl; have b1' : w'.cell? ⟨W.heap.size, 1, none⟩ = some (.int .i64 (o9 : Int)) := h2.ok.p5.ptCell 1 _ rfl; have H2 := Lib.hid (H11.out.drew.trans h2); clear h2))
              go_wp2
              go_step3
              exact ⟨rfl, ⟨rfl, rfl, 22 * (100000 - s1.n) + stk10.length, by omega, rfl, stk10, first, { s1 with K := s1.K.set o9 o }, .slice A10 stk10.length c10, rfl, H2.out.p5.drop, HI.out, HQ2.out, hM1, by simp only; omega, rfl, by omega⟩⟩
            · have hse : s1.K.set o9 o = s1.K := List.set_eq_of_length_le (by omega)
              rw [hse] at HQ2
              have hst := set_out H11.out.drew.ok.heapAR o9 (o : Int) (.inr (by simp only [Fresh.s]; omega))
              have HST := Lib.hid hst
              clear hse hst
              go_wp2_with fail
              go_region_held3 (fun Y => Y.cell? ⟨p, 1, none⟩ = some (.pointer (some ⟨X.th, 0, none⟩)) ∧ Y.cell? ⟨W.heap.size, 1, none⟩ = some (.int .i64 (o9 : Int))) (go_keep) (first | (go_at_call 88; refine HST.out.mono ?_; rintro e w' ⟨rfl, hww⟩; subst w'))
              go_wp2
              go_step3
              exact ⟨rfl, ⟨rfl, rfl, 22 * (100000 - s1.n) + stk10.length, by omega, rfl, stk10, first, s1, .slice A10 stk10.length c10, rfl, H11.out.drew.p5.drop, HI.out, HQ2.out, hM1, by omega, rfl, by omega⟩⟩
        | comp at' args s1 =>
          obtain ⟨rfl, hst⟩ := hm10
          obtain ⟨hlt, hat, harg, hal, hM1, hn1⟩ : st.n < 100000 ∧ (at' ≤ 1048576 ∧ at' + args.length + 1 ≤ s1.K.length) ∧ (∀ x ∈ args, x ∈ X.src s1.K) ∧ args.length ≤ 20 ∧ MOk s1.M ∧ s1.n = st.n + 1 := by
            rcases HOK.out with ⟨h, _⟩ | ⟨h, h2⟩
            · cases h
            · exact ⟨h, h2⟩
          simp only [Fresh.s] at hKb hsrc
          have hsl : stk10.length = args.length + 1 + rest.length := by rw [hst]; simp [cts]; omega
          have hq2 := HQ'.out
          simp only at hq2
          rw [← hst] at hq2
          have HQ2 := Lib.hid hq2
          have hin : ∀ x ∈ stk10, x.c < 18446744073709551616 ∧ x.i ≤ 1048576 := by
            intro x hx
            rw [hst] at hx
            rcases List.mem_append.1 hx with hx | hx
            · simp only [cts, List.mem_map] at hx
              obtain ⟨q, hq, rfl⟩ := hx
              have hz := List.mem_zipIdx hq
              refine ⟨hsrc _ (harg _ (by rw [hz.2.2]; exact List.getElem_mem _)), ?_⟩
              simp only
              omega
            · rcases List.mem_cons.1 hx with rfl | hx
              · exact ⟨mkc_lt _ _ (by omega) (by omega), htop.2⟩
              · exact HI.out x hx
          have HIN := Lib.hid hin
          have hgt : decide ((rest.length : Int) < (stk10.length : Int)) = true := by simp; omega
          clear hq2 HQ' HOK hsrc hst hin harg
          go_wp2
          go_step3
          exact ⟨rfl, ⟨rfl, rfl, 22 * (100000 - s1.n) + stk10.length, by omega, rfl, stk10, first, s1, .slice A10 stk10.length c10, rfl, H11.out.p5.drop, HIN.out, HQ2.out, hM1, by omega, rfl, by omega⟩⟩
end
#print axioms cterm_spec
end Go.Proofs.Ytceahdlcbiialaa
set_option linter.unusedVariables false
set_option linter.unusedSimpArgs false
namespace Go.Proofs.Ytceahdlcbiialaa
open Go.RowKit

section
variable {w : World} {S : Blk} {Γ : List Asn} {X : Src} {K : List Nat}
/-- What Term answers. -/
def copyP (src : List Nat → List Nat) (most c : Nat) (K : List Nat) : (Nat × Nat) × CS := finC src most [⟨c, -1, false⟩] 0 ⟨K, [], 0⟩
set_option maxRecDepth 100000 in
set_option maxHeartbeats 2000000 in
theorem copyTerm_spec (hO : Ok w S (HeapA X.th X.most K :: X.R :: Γ)) (c : Nat) (hc : c < 18446744073709551616) {c' : Int} (ec : c' = c) :
    Calls Try.prog 55 #[.pointer (some ⟨X.fh, 0, none⟩), .pointer (some ⟨X.th, 0, none⟩), .int .u64 c'] w fun e w' =>
      e = .returned (.tuple #[.int .u64 ((copyP X.src X.most c K).1.1 : Int), .int .i64 ((copyP X.src X.most c K).1.2 : Int)]) ∧ To w S w' S (HeapA X.th X.most (copyP X.src X.most c K).2.K :: X.R :: Γ) := by
  subst ec
  have h1 : To w S ((w.alloc (.map #[] 0)).alloc (.cells #[.pointer (some ⟨X.fh, 0, none⟩), .pointer (some ⟨X.th, 0, none⟩), .map (some w.heap.size), .int .i64 0, .slice none 0 0] 151)) S (CopG X (w.heap.size + 1) w.heap.size ⟨K, [], 0⟩ (.slice none 0 0) Γ) :=
    ((hO.to.allocMap' (enc := encU) (val := encU) w.heap.size rfl).allocPt' #[.pointer (some ⟨X.fh, 0, none⟩), .pointer (some ⟨X.th, 0, none⟩), .map (some w.heap.size), .int .i64 0, .slice none 0 0] 151 (w.heap.size + 1) (by simp)).p3.p3
  obtain ⟨res, hres⟩ : ∃ res, res = copyP X.src X.most c K := ⟨_, rfl⟩
  have hcall := cterm_spec h1.ok c hc (fun x hx => by cases hx) (by simp) hres
  rw [← hres]
  have HC := Lib.hid hcall
  have H1 := Lib.hid h1
  have hmm := @run_makeMap Try.prog
  clear hcall h1 hO hres
  go_enter Try.func55, Try.ntmps55
  go_wp2_with fail
  refine HC.out.mono ?_
  rintro e w3 ⟨rfl, v', h3⟩
  have H3 := Lib.hid (H1.out.trans h3).p2.drop.p2.drop
  clear h3 HC hmm
  go_wp2
  go_ret2
  exact ⟨rfl, H3.out⟩
set_option maxRecDepth 100000 in
set_option maxHeartbeats 400000 in
theorem copyTerm_nil1 (t : Value) (c : Int) (w : World) : Calls Try.prog 55 #[.pointer none, t, .int .u64 c] w fun e w' => e = .returned (.tuple #[.int .u64 0, .int .i64 1]) ∧ w' = w := by
  go_enter Try.func55, Try.ntmps55
  go_wp2
  go_ret2
  exact ⟨rfl, rfl⟩
set_option maxRecDepth 100000 in
set_option maxHeartbeats 400000 in
theorem copyTerm_nil2 (p : Nat) (c : Int) (w : World) : Calls Try.prog 55 #[.pointer (some ⟨p, 0, none⟩), .pointer none, .int .u64 c] w fun e w' => e = .returned (.tuple #[.int .u64 0, .int .i64 1]) ∧ w' = w := by
  go_enter Try.func55, Try.ntmps55
  go_wp2
  go_ret2
  exact ⟨rfl, rfl⟩
set_option maxRecDepth 100000 in
set_option maxHeartbeats 400000 in
theorem collect_nil (v : Value) (w : World) : Calls Try.prog 59 #[.pointer none, v] w fun e w' => e = .returned (.tuple #[.pointer none, .slice none 0 0, .int .i64 1]) ∧ w' = w := by
  go_enter Try.func59, Try.ntmps59
  go_wp2
  refine bodyPost_ret (v := .tuple #[.pointer none, .slice none 0 0, .int .i64 1]) (by simp [results, Try.results59, *, go_sem]) rfl ?_
  exact ⟨rfl, rfl⟩
end
#print axioms copyTerm_spec
#print axioms collect_nil
end Go.Proofs.Ytceahdlcbiialaa
