/- The reader: names, words, variables. The reader: variables. -/
import Derived.Test.YtceahdlcbiialaaF5M18
import Derived.Test.YtceahdlcbiialaaF5M21
import Derived.Test.YtceahdlcbiialaaF5M20
set_option linter.unusedVariables false
set_option linter.unusedSimpArgs false
namespace Go.Proofs.Ytceahdlcbiialaa
open Go.RowKit

abbrev encN (n : Nat) : Value := .int .i64 (n : Int)
abbrev NumA (m : Nat) (V : List (Nat × Nat)) : Asn := MapA m encN encN V
abbrev ReadG (r h a m most : Nat) (C : List Nat) (L : List ByteArray) (s : RS) (Γ : List Asn) : List Asn :=
  HeapA h most C :: AtomsA a L :: NumA m s.V :: Pt r #[.pointer (some ⟨h, 0, none⟩), .pointer (some ⟨a, 0, none⟩), .map (some m), .int .i64 (s.n : Int)] 139 :: Γ
section
variable {w : World} {S : Blk} {Γ : List Asn} {r h a m most : Nat} {C : List Nat} {L : List ByteArray} {s : RS}
theorem Ok.readPt (hO : Ok w S (ReadG r h a m most C L s Γ)) : w.cell? ⟨r, 0, none⟩ = some (.pointer (some ⟨h, 0, none⟩)) ∧ w.cell? ⟨r, 1, none⟩ = some (.pointer (some ⟨a, 0, none⟩)) ∧ w.cell? ⟨r, 2, none⟩ = some (.map (some m)) ∧ w.cell? ⟨r, 3, none⟩ = some (.int .i64 (s.n : Int)) ∧ w.frozen? ⟨r, 3, none⟩ = false ∧ r < w.heap.size :=
  ⟨hO.p3.ptCell 0 _ rfl, hO.p3.ptCell 1 _ rfl, hO.p3.ptCell 2 _ rfl, hO.p3.ptCell 3 _ rfl, hO.p3.ptFree 3, hO.p3.ptLt⟩
set_option maxRecDepth 100000 in
set_option maxHeartbeats 1000000 in
theorem rname_in (hO : Ok w S (ReadG r h a m most C L s Γ)) {i' : Int} (i : Nat) (x : ByteArray) (hi : i' = i) (hx : L[i]? = some x) :
    Calls Try.prog 129 #[.pointer (some ⟨r, 0, none⟩), .int .u64 i'] w fun e w' => e = .returned (.tuple #[.string x, .bool true]) ∧ w' = w := by
  subst hi
  have hn := hO.p1.atomsAR
  have hl : L.length ≤ 4096 := hn.2.1
  have hlt := (List.getElem?_eq_some_iff.1 hx).1
  have hc := name_in hn (i' := (i : Int)) i x rfl hx
  obtain ⟨-, k1, -⟩ := hO.readPt
  have HC := Lib.hid hc
  clear hc hn hO hx
  go_enter Try.func129, Try.ntmps129
  go_wp2_with (go_at_call 161; refine HC.out.mono ?_; rintro e w' ⟨rfl, hww⟩; subst w')
  go_ret2
  exact ⟨rfl, rfl⟩
set_option maxRecDepth 100000 in
set_option maxHeartbeats 1000000 in
theorem rname_out (hO : Ok w S (ReadG r h a m most C L s Γ)) {i' : Int} (i : Nat) (hi : i' = i) (hx : L.length ≤ i) :
    Calls Try.prog 129 #[.pointer (some ⟨r, 0, none⟩), .int .u64 i'] w fun e w' => e = .returned (.tuple #[.string ⟨#[]⟩, .bool false]) ∧ w' = w := by
  subst hi
  by_cases h4 : 4096 ≤ i
  · clear hO hx
    go_enter Try.func129, Try.ntmps129
    go_wp2
    go_ret2
    exact ⟨rfl, rfl⟩
  · have hn := hO.p1.atomsAR
    have hc := name_out hn (i : Int) (.inr (by omega))
    obtain ⟨-, k1, -⟩ := hO.readPt
    have HC := Lib.hid hc
    clear hc hn hO hx
    go_enter Try.func129, Try.ntmps129
    go_wp2_with (go_at_call 161; refine HC.out.mono ?_; rintro e w' ⟨rfl, hww⟩; subst w')
    go_ret2
    exact ⟨rfl, rfl⟩
theorem info22 : (Try.prog.info? 22).map (fun i => (i.zero, i.size, i.bytes)) = some (some (.int .u64 0), 1, 8) := by kernel_rfl
def WordsQ (w : World) (S : Blk) (Γ : List Asn) (r h a m most : Nat) (C : List Nat) (L : List ByteArray) (s : RS) (c n : Nat) (e : Ending) (w' : World) : Prop :=
  if vl c + n ≤ C.length then ∃ v, e = .returned (.tuple #[v, .bool true]) ∧ To w S w' S (Row v 22 1 n (nums ((C.drop (vl c)).take n)) :: ReadG r h a m most C L s Γ)
  else e = .returned (.tuple #[.slice none 0 0, .bool false]) ∧ To w S w' S (ReadG r h a m most C L s Γ)
set_option maxRecDepth 100000 in
set_option maxHeartbeats 4000000 in
theorem rwords_spec (hO : Ok w S (ReadG r h a m most C L s Γ)) (c n : Nat) (hc : c < 18446744073709551616) (hn1 : 1 ≤ n) (hn : n ≤ 300) {n' : Int} (en : n' = n) :
    Calls Try.prog 131 #[.pointer (some ⟨r, 0, none⟩), .int .u64 (c : Int), .int .i64 n'] w (WordsQ w S Γ r h a m most C L s c n) := by
  subst en
  have hR := hO.heapAR
  have hC : C.length ≤ 1048576 := Nat.le_trans hR.2.2.2.1 hR.2.2.1
  have hvl := vl_lt c hc
  have HO := Lib.hid hO; clear hO hR
  go_enter Try.func131, Try.ntmps131
  go_wp2
  go_loopw [13, 8] (fun i v wr => ∃ j : Nat, i = .int .i64 (j : Int) ∧ j ≤ n ∧ (j = 0 ∨ vl c + j ≤ C.length) ∧ To w S wr S (Row v 22 1 j (nums ((C.drop (vl c)).take j)) :: ReadG r h a m most C L s Γ)) (fun i _ _ => n - (intOf i).toNat)
  case atStart => exact ⟨0, rfl, Nat.zero_le _, .inl rfl, HO.out.to.re fun kk => kk.rowNil 22 1⟩
  case round =>
    obtain ⟨j, rfl, hj, hin, hTo⟩ := hrel
    obtain ⟨A8, c8, rfl⟩ := hTo.ok.rowShape
    by_cases hlt : j < n
    · obtain ⟨k0, -, -, -, -, k1⟩ := (hTo.ok.drop).readPt
      have hval := value_spec c hc
      have HVAL := Lib.hid hval; clear hval
      by_cases hbig : 1048576 < vl c
      · have hneg : ¬ vl c + n ≤ C.length := by omega
        have hres : WordsQ w S Γ r h a m most C L s c n (.returned (.tuple #[.slice none 0 0, .bool false])) wr := by
          unfold WordsQ
          rw [if_neg hneg]
          exact ⟨rfl, hTo.drop⟩
        have HRES := Lib.hid hres; clear hres hTo hneg
        go_wp2_with (go_at_call 111; refine (HVAL.out _).mono ?_; rintro e w' ⟨rfl, hww⟩; subst w')
        go_ret2
        exact HRES.out
      · by_cases hget : vl c + j < C.length
        · have hx : C[vl c + j]? = some C[vl c + j] := List.getElem?_eq_getElem hget
          have hg := get_in hTo.drop.drew.ok.heapAR (i' := ((vl c : Int) + j)) (vl c + j) C[vl c + j] (by omega) hx
          have hxb : C[vl c + j] < 18446744073709551616 := hTo.drop.ok.heapAR.2.2.2.2 _ (List.getElem_mem _)
          have htk : nums ((C.drop (vl c)).take (j + 1)) = nums ((C.drop (vl c)).take j) ++ [.int .u64 ((C[vl c + j] : Nat) : Int)] := by
            rw [List.take_add_one, List.getElem?_drop, hx]
            simp [nums]
          generalize C[vl c + j] = x at hg hx hxb htk
          have e8 : IntKind.i64.wrap (vl c : Int) = (vl c : Int) := IntWalk.i64_in _ ⟨by omega, by omega⟩
          have e9 : IntKind.i64.wrap ((vl c : Int) + j) = (vl c : Int) + j := IntWalk.i64_in _ ⟨by omega, by omega⟩
          have e10 : wrap64 ((vl c : Int) + j) = (vl c : Int) + j := IntWalk.wrap64_in _ ⟨by omega, by omega⟩
          have HG := Lib.hid hg
          have HTK := Lib.hid htk
          have HTo := Lib.hid hTo
          clear hg hx hTo hin htk
          go_wp2_with (go_at_call 111; refine (HVAL.out _).mono ?_; rintro e w' ⟨rfl, hww⟩; subst w')
          go_region_held3 (fun X => X.cell? ⟨r, 0, none⟩ = some (.pointer (some ⟨h, 0, none⟩))) (go_keep) (first | (go_at_call 111; refine (HVAL.out _).mono ?_; rintro e w' ⟨rfl, hww⟩; subst w') | (go_at_call 36; refine HG.out.mono ?_; rintro e w' ⟨rfl, hww⟩; subst w'))
          clear e8 e9 e10
          go_wp2_with (at_builtin; refine wpList_append_new rfl (.tmp 34) (.tmp 36) 188 22 (.int .u64 0) 1 8 rfl Try.underlying188 info22 rfl (by decide) (by decide) HTo.out.drew rfl #[.int .u64 (x : Int)] rfl rfl (by simp [Value.oneCell']) (by omega) ?_)
          intro A4 c4 W4 h4
          have H4 := Lib.hid h4; clear h4
          go_wp2
          go_roundw
          case rel =>
            refine ⟨j + 1, by go_num, by omega, .inr (by omega), ?_⟩
            rw [HTK.out]
            exact H4.out
          case measure => simp [intOf]; omega
        · have hneg : ¬ vl c + n ≤ C.length := by omega
          have hg := get_out hTo.drop.drew.ok.heapAR ((vl c : Int) + j) (.inr (by omega))
          have hres : ∀ W, W = wr.drew → WordsQ w S Γ r h a m most C L s c n (.returned (.tuple #[.slice none 0 0, .bool false])) W := by
            rintro W rfl
            unfold WordsQ
            rw [if_neg hneg]
            exact ⟨rfl, hTo.drop.drew⟩
          have e8 : IntKind.i64.wrap (vl c : Int) = (vl c : Int) := IntWalk.i64_in _ ⟨by omega, by omega⟩
          have e9 : IntKind.i64.wrap ((vl c : Int) + j) = (vl c : Int) + j := IntWalk.i64_in _ ⟨by omega, by omega⟩
          have e10 : wrap64 ((vl c : Int) + j) = (vl c : Int) + j := IntWalk.wrap64_in _ ⟨by omega, by omega⟩
          have HG := Lib.hid hg
          have HRES := Lib.hid hres
          clear hg hTo hin hneg hres
          go_wp2_with (go_at_call 111; refine (HVAL.out _).mono ?_; rintro e w' ⟨rfl, hww⟩; subst w')
          go_region_held3 (fun X => X.cell? ⟨r, 0, none⟩ = some (.pointer (some ⟨h, 0, none⟩))) (go_keep) (first | (go_at_call 111; refine (HVAL.out _).mono ?_; rintro e w' ⟨rfl, hww⟩; subst w') | (go_at_call 36; refine HG.out.mono ?_; rintro e w' ⟨rfl, hww⟩; subst w'))
          clear e8 e9 e10
          go_wp2
          go_ret2
          exact HRES.out _ rfl
    · obtain rfl : j = n := by omega
      have hyes : vl c + j ≤ C.length := by omega
      have hres : WordsQ w S Γ r h a m most C L s c j (.returned (.tuple #[.slice A8 j c8, .bool true])) wr := by
        unfold WordsQ
        rw [if_pos hyes]
        exact ⟨_, rfl, hTo⟩
      have HRES := Lib.hid hres
      clear hres hTo hin hyes
      go_wp2
      go_ret2
      exact HRES.out
#print axioms rwords_spec
theorem zero2 (w : World) : (zeroValue 2).run Try.prog w = .ok (.int .i64 0) w := by kernel_rfl
def TermQ (w : World) (S : Blk) (r h a m most : Nat) (C : List Nat) (L : List ByteArray) (Γ : List Asn) (res : (Tm × Nat) × RS) (e : Ending) (w' : World) : Prop :=
  ∃ (tc : Tc) (S' : Blk), tc.t = res.1.1 ∧ e = .returned (.tuple #[.agg tc.six.toArray, .int .i64 (res.1.2 : Int)]) ∧ To w S w' S' (ReadG r h a m most C L res.2 Γ) ∧ TmC w' S' tc.six tc.t
end
end Go.Proofs.Ytceahdlcbiialaa
set_option linter.unusedVariables false
set_option linter.unusedSimpArgs false
namespace Go.Proofs.Ytceahdlcbiialaa
open Go.RowKit

section
variable {w : World} {S : Blk} {Γ : List Asn} {r h a m most : Nat} {C : List Nat} {L : List ByteArray} {s : RS}
set_option maxRecDepth 100000 in
set_option maxHeartbeats 4000000 in
theorem rvariable_spec (hO : Ok w S (ReadG r h a m most C L s Γ)) (d : Nat) (hd : d < 18446744073709551616) (hV : ∀ x ∈ s.V, x.2 ≤ 1000000) (hl : s.V.length ≤ 1000000) :
    Calls Try.prog 127 #[.pointer (some ⟨r, 0, none⟩), .int .u64 (d : Int)] w (TermQ w S r h a m most C L Γ (rdVar C d s)) := by
  have hR := hO.heapAR
  have hC : C.length ≤ 1048576 := Nat.le_trans hR.2.2.2.1 hR.2.2.1
  have hvl := vl_lt d hd
  have h1 := hO.to.allocPt' zero6 25 w.heap.size rfl
  obtain ⟨⟨z0, z1, z2, z3, z4, z5⟩, ⟨y0, y1, y2, y3, y4, y5⟩, y6⟩ := h1.ok.pt6
  obtain ⟨k0, -, k2, -, -, k5⟩ := h1.drop.ok.readPt
  have hval := value_spec d hd
  have hlen := fun n => len_spec (h1.drop.ok.heapAR.drewN n)
  have HVAL := Lib.hid hval
  have HLEN := Lib.hid hlen
  have H1 := Lib.hid h1
  clear hO hR h1 hval hlen
  have e8 : IntKind.u64.wrap (C.length : Int) = (C.length : Int) := IntWalk.u64_in _ ⟨by omega, by omega⟩
  have hlt : ∀ b : Bool, b = decide (C.length ≤ vl d) → decide ((C.length : Int) ≤ (vl d : Int)) = b := by
    rintro b rfl
    by_cases hx : C.length ≤ vl d
    · simp [hx]
    · simp [hx]
  by_cases hout : C.length ≤ vl d
  · have hres : rdVar C d s = ((tNone, 2), s) := by
      unfold rdVar
      rw [List.getElem?_eq_none hout, if_neg (by simp)]
    rw [hres]
    have hb := hlt true (by simp [hout])
    clear hres hlt k2
    go_enter Try.func127, Try.ntmps127
    go_wp2_with fail
    go_region_held3 (fun X => X.cell? ⟨r, 0, none⟩ = some (.pointer (some ⟨h, 0, none⟩))) (go_keep) (first | (go_at_call 111; refine (HVAL.out _).mono ?_; rintro e w' ⟨rfl, hww⟩; subst w') | (go_at_call 31; refine (HLEN.out 1).mono ?_; rintro e w' ⟨rfl, hww⟩; subst w'))
    have h2 := H1.out.drewN 1
    clear z0 z1 z2 z3 z4 z5 y0 y1 y2 y3 y4 y5 y6 k0 k5 e8 hb
    generalize (w.alloc (.cells zero6 25)).drewN 1 = WB at h2 ⊢
    obtain ⟨⟨z0, z1, z2, z3, z4, z5⟩, ⟨y0, y1, y2, y3, y4, y5⟩, y6⟩ := h2.ok.pt6
    have H3 := Lib.hid (h2.ptSet6 (.int .i64 0) (.string ⟨#[]⟩) (.int .i64 0) (.int .u64 0) (.int .u64 0) (.slice none 0 0)).drop
    clear h2
    go_wp2
    refine bodyPost_ret (v := .tuple #[.agg zero6, .int .i64 2]) (by simp [results, Try.results127, *, go_sem]) rfl ?_
    exact ⟨⟨tNone, none, 0⟩, S, rfl, rfl, H3.out, none_tm⟩
  · have hin : vl d < C.length := by omega
    have hx : C[vl d]? = some C[vl d] := List.getElem?_eq_getElem hin
    have hb := hlt false (by simp; omega)
    have e9 : IntKind.i64.wrap (vl d : Int) = (vl d : Int) := IntWalk.i64_in _ ⟨by omega, by omega⟩
    have hget := get_in (H1.out.drop.drewN 1).ok.heapAR (i' := (vl d : Int)) (vl d) C[vl d] rfl hx
    have hres0 : rdVar C d s = if C[vl d] = d then (match lk s.V (vl d) with | some k => ((tVar k, 0), s) | none => ((tVar s.V.length, 0), { s with V := up s.V (vl d) s.V.length })) else ((tNone, 2), s) := by
      unfold rdVar
      by_cases hq : C[vl d] = d
      · rw [if_pos (by rw [hx, hq]), if_pos hq]
        cases lk s.V (vl d) <;> rfl
      · rw [if_neg (by rw [hx]; simpa using hq), if_neg hq]
    rw [hres0]
    have hxb : C[vl d] < 18446744073709551616 := H1.out.drop.ok.heapAR.2.2.2.2 _ (List.getElem_mem _)
    generalize C[vl d] = x at hget hxb
    have HGET := Lib.hid hget
    clear hget hres0 hx hlt k2
    by_cases hown : x = d
    · rw [if_pos hown]
      subst x
      have hnb : ((d : Int) != (d : Int)) = false := by simp
      cases hq : lk s.V (vl d) with
      | some kk =>
        simp only
        have hkk : kk ≤ 1000000 := by
          obtain ⟨x, hx, rfl⟩ := lk_mem hq
          exact hV x hx
        have HQ := Lib.hid hq
        clear hq hV
        go_enter Try.func127, Try.ntmps127
        go_wp2_with fail
        go_region_held3 (fun X => X.cell? ⟨r, 0, none⟩ = some (.pointer (some ⟨h, 0, none⟩))) (go_keep) (first | (go_at_call 111; refine (HVAL.out _).mono ?_; rintro e w' ⟨rfl, hww⟩; subst w') | (go_at_call 31; refine (HLEN.out 1).mono ?_; rintro e w' ⟨rfl, hww⟩; subst w'))
        have h2 := H1.out.drewN 1
        have HGET' := HGET
        clear z0 z1 z2 z3 z4 z5 y0 y1 y2 y3 y4 y5 y6 k0 k5 e8 hb
        generalize (w.alloc (.cells zero6 25)).drewN 1 = WB at h2 HGET' ⊢
        obtain ⟨⟨z0, z1, z2, z3, z4, z5⟩, ⟨y0, y1, y2, y3, y4, y5⟩, y6⟩ := h2.ok.pt6
        obtain ⟨k0, -, k2, -, -, k5⟩ := h2.drop.ok.readPt
        have hlk' : (Instr.lookup 71 (.map (some m)) (.int .i64 (vl d : Int)) true).run Try.prog WB = .ok (.tuple #[.int .i64 (kk : Int), .bool true]) WB := by
          have h9 := h2.drop.p2.ok.look (P := Try.prog) (key_nat .i64) Try.underlying71 Try.underlying3 zero2 (vl d) true 0
          rw [HQ.out] at h9
          exact h9
        have H9 := Lib.hid (h2.ptSet6 (.int .i64 1) (.string ⟨#[]⟩) (.int .i64 (kk : Int)) (.int .u64 0) (.int .u64 0) (.slice none 0 0)).drop
        clear h2
        go_wp2_with (first | (go_at_call 111; refine (HVAL.out _).mono ?_; rintro e w' ⟨rfl, hww⟩; subst w') | (go_at_call 36; refine HGET'.out.mono ?_; rintro e w' ⟨rfl, hww⟩; subst w'))
        refine bodyPost_ret (v := .tuple #[.agg #[.int .i64 1, .string ⟨#[]⟩, .int .i64 (kk : Int), .int .u64 0, .int .u64 0, .slice none 0 0], .int .i64 0]) (by simp [results, Try.results127, *, go_sem]) rfl ?_
        exact ⟨⟨tVar kk, none, 0⟩, S, rfl, rfl, H9.out, leaf_any (k := 1) (s := ⟨#[]⟩) (n := kk) (re := 0) (im := 0) (by omega) (by decide) (by omega) (by omega) (by omega) 0⟩
      | none =>
        simp only
        have HQ := Lib.hid hq
        clear hq hV
        go_enter Try.func127, Try.ntmps127
        go_wp2_with fail
        go_region_held3 (fun X => X.cell? ⟨r, 0, none⟩ = some (.pointer (some ⟨h, 0, none⟩))) (go_keep) (first | (go_at_call 111; refine (HVAL.out _).mono ?_; rintro e w' ⟨rfl, hww⟩; subst w') | (go_at_call 31; refine (HLEN.out 1).mono ?_; rintro e w' ⟨rfl, hww⟩; subst w'))
        have h2 := H1.out.drewN 1
        have HGET' := HGET
        clear z0 z1 z2 z3 z4 z5 y0 y1 y2 y3 y4 y5 y6 k0 k5 e8 hb
        generalize (w.alloc (.cells zero6 25)).drewN 1 = WB at h2 HGET' ⊢
        obtain ⟨⟨z0, z1, z2, z3, z4, z5⟩, ⟨y0, y1, y2, y3, y4, y5⟩, y6⟩ := h2.ok.pt6
        obtain ⟨k0, -, k2, -, -, k5⟩ := h2.drop.ok.readPt
        have hlk' : (Instr.lookup 71 (.map (some m)) (.int .i64 (vl d : Int)) true).run Try.prog WB = .ok (.tuple #[.int .i64 0, .bool false]) WB := by
          have h9 := h2.drop.p2.ok.look (P := Try.prog) (key_nat .i64) Try.underlying71 Try.underlying3 zero2 (vl d) true 0
          rw [HQ.out] at h9
          exact h9
        obtain ⟨es, ck, i1, -, -, -, i2⟩ := h2.drop.p2.ok.mapRaw
        have hlm := run_lenMap (P := Try.prog) Try.underlying71 i1 i2 3
        obtain ⟨w3, hr, hT⟩ := h2.p3.ok.mapPut (P := Try.prog) (key_nat .i64) Try.underlying71 Try.underlying3 (vl d) s.V.length
        have hrun : (Instr.mapUpdate 71 (.map (some m)) (.int .i64 (vl d : Int)) (.int .i64 (s.V.length : Int))).run Try.prog WB = .ok () w3 := hr
        obtain ⟨⟨x0, x1, x2, x3, x4, x5⟩, ⟨u0, u1, u2, u3, u4, u5⟩, u6⟩ := hT.p1.ok.pt6
        have H9 := Lib.hid (((h2.p3.trans hT).p1.ptSet6 (.int .i64 1) (.string ⟨#[]⟩) (.int .i64 (s.V.length : Int)) (.int .u64 0) (.int .u64 0) (.slice none 0 0)).drop.p2.p2)
        clear h2 hT hr i1 i2
        go_wp2_with (first | (go_at_call 111; refine (HVAL.out _).mono ?_; rintro e w' ⟨rfl, hww⟩; subst w') | (go_at_call 36; refine HGET'.out.mono ?_; rintro e w' ⟨rfl, hww⟩; subst w'))
        refine bodyPost_ret (v := .tuple #[.agg #[.int .i64 1, .string ⟨#[]⟩, .int .i64 (s.V.length : Int), .int .u64 0, .int .u64 0, .slice none 0 0], .int .i64 0]) (by simp [results, Try.results127, *, go_sem]) rfl ?_
        exact ⟨⟨tVar s.V.length, none, 0⟩, S, rfl, rfl, H9.out, leaf_any (k := 1) (s := ⟨#[]⟩) (n := s.V.length) (re := 0) (im := 0) (by omega) (by decide) (by omega) (by omega) (by omega) 0⟩
    · rw [if_neg hown]
      have hnb : ((x : Int) != (d : Int)) = true := by simp [bne]; omega
      clear hown
      go_enter Try.func127, Try.ntmps127
      go_wp2_with fail
      go_region_held3 (fun X => X.cell? ⟨r, 0, none⟩ = some (.pointer (some ⟨h, 0, none⟩))) (go_keep) (first | (go_at_call 111; refine (HVAL.out _).mono ?_; rintro e w' ⟨rfl, hww⟩; subst w') | (go_at_call 31; refine (HLEN.out 1).mono ?_; rintro e w' ⟨rfl, hww⟩; subst w'))
      have h2 := H1.out.drewN 1
      have HGET' := HGET
      clear z0 z1 z2 z3 z4 z5 y0 y1 y2 y3 y4 y5 y6 k0 k5 e8 hb
      generalize (w.alloc (.cells zero6 25)).drewN 1 = WB at h2 HGET' ⊢
      obtain ⟨⟨z0, z1, z2, z3, z4, z5⟩, ⟨y0, y1, y2, y3, y4, y5⟩, y6⟩ := h2.ok.pt6
      obtain ⟨k0, -, -, -, -, k5⟩ := h2.drop.ok.readPt
      have H2 := Lib.hid h2
      have H3 := Lib.hid (h2.ptSet6 (.int .i64 0) (.string ⟨#[]⟩) (.int .i64 0) (.int .u64 0) (.int .u64 0) (.slice none 0 0)).drop
      clear h2
      go_wp2_with (first | (go_at_call 111; refine (HVAL.out _).mono ?_; rintro e w' ⟨rfl, hww⟩; subst w') | (go_at_call 36; refine HGET'.out.mono ?_; rintro e w' ⟨rfl, hww⟩; subst w'))
      refine bodyPost_ret (v := .tuple #[.agg zero6, .int .i64 2]) (by simp [results, Try.results127, *, go_sem]) rfl ?_
      exact ⟨⟨tNone, none, 0⟩, S, rfl, rfl, H3.out, none_tm⟩
end
#print axioms rvariable_spec
end Go.Proofs.Ytceahdlcbiialaa
