/- The reference's put: a term that is no compound. A range over a map that is only read. -/
import Derived.Deep.RegionLaw
import Derived.Laws.IdiomRangeMap
import Derived.Test.YtceahdlcbiialaaF5M20
import Derived.Test.YtceahdlcbiialaaF5M17
set_option linter.unusedVariables false
set_option linter.unusedSimpArgs false
namespace Go.Proofs.Ytceahdlcbiialaa
open Go.RowKit

abbrev RefG (h a m most : Nat) (st : St) (Γ : List Asn) : List Asn := HeapB h most st.C :: AtomsB a st.L :: VarsA m st.V :: Γ
/-- What put answers of oo: on an error the cell is whatever. -/
def RPutQ (w : World) (S : Blk) (Γ : List Asn) (h a m most : Nat) (oo : (Nat × Nat) × St) (e : Ending) (w' : World) : Prop :=
  ∃ c : Nat, e = .returned (.tuple #[.int .u64 (c : Int), .int .i64 (oo.1.2 : Int)]) ∧ (oo.1.2 = 0 → c = oo.1.1) ∧ To w S w' S (RefG h a m most oo.2 Γ)
theorem lk_up {α β : Type} [DecidableEq α] (a : α) (b : β) : ∀ l : List (α × β), lk (up l a b) a = some b
  | [] => by simp [up, lk]
  | (x, y) :: l => by
    unfold up
    split
    · rename_i h
      simp [lk, h]
    · rename_i h
      simp only [lk, if_neg h]
      exact lk_up a b l
set_option maxRecDepth 100000 in
set_option maxHeartbeats 4000000 in
theorem rput_leaf {w : World} {S : Blk} {Γ : List Asn} {h a m most : Nat} {st : St} {k : Int} {s : ByteArray} {n re im : Int} {xs : List Tm} {A : Option Addr} {cap : Nat} (hO : Ok w S (RefG h a m most st Γ))
    (hT : TmC w S [.int .i64 k, .string s, .int .i64 n, .int .u64 re, .int .u64 im, .slice A xs.length cap] (.mk k s n re im xs)) (own : Int) (ho1 : -1 ≤ own) (ho2 : own ≤ 1048576) (hk1 : 1 ≤ k) (hk2 : k ≤ 4) :
    Calls Try.prog 91 #[.pointer (some ⟨h, 0, none⟩), .pointer (some ⟨a, 0, none⟩), .agg #[.int .i64 k, .string s, .int .i64 n, .int .u64 re, .int .u64 im, .slice A xs.length cap], .map (some m), .int .i64 own] w
      (RPutQ w S Γ h a m most (leaf most (.mk k s n re im []) own st)) := by
  obtain ⟨A, cap, he, ⟨hk, hsz, hn, hre, him, hxl⟩, -⟩ := hT.form
  cases he
  simp only [Tm.k, Tm.s, Tm.n, Tm.re, Tm.im, Tm.xs] at hk hsz hn hre him hxl
  obtain ⟨C, L, V⟩ := st
  have hal := (hO.to.allocPt' #[.int .i64 k, .string s, .int .i64 n, .int .u64 re, .int .u64 im, .slice A xs.length cap] 25 w.heap.size rfl).p3.p3.p3
  have hR := hal.ok.heapBR
  have hC : C.length ≤ most ∧ most ≤ 1048576 := ⟨hR.2.2.2.1, hR.2.2.1⟩
  have HAL := Lib.hid hal; clear hal hO hT hR
  by_cases k2 : k = 2
  · subst k2
    have hn := rnumber_spec HAL.out.p1.ok s hsz
    rw [leaf_2]
    simp only
    obtain ⟨⟨⟨q1, q2⟩, L2⟩, hq⟩ : ∃ r, r = number L s := ⟨_, rfl⟩
    rw [← hq] at hn ⊢
    simp only at hn ⊢
    have hq1 : q1 ≤ 4096 := number_lt' HAL.out.p1.ok.atomsBR.2 s hq.symm
    have HN := Lib.hid hn; clear hn hq
    by_cases h0 : q2 = 0
    · subst h0
      go_enter Try.func91, Try.ntmps91
      go_wp2_with (first | (go_at_call 47; refine HN.out.mono ?_; rintro e w' ⟨rfl, h2⟩; have H2 := Lib.hid (HAL.out.p1.trans h2).p1.p3.drop; clear h2) | (go_at_call 85; refine (rmake_spec 2 q1 rfl rfl (by omega) (by omega) _).mono ?_; rintro e w' ⟨rfl, rfl⟩))
      go_ret2
      exact ⟨_, rfl, fun _ => rfl, H2.out⟩
    · have hb : ((q2 : Int) != 0) = true := by simp [bne]; omega
      go_enter Try.func91, Try.ntmps91
      go_wp2_with (first | (go_at_call 47; refine HN.out.mono ?_; rintro e w' ⟨rfl, h2⟩; have H2 := Lib.hid (HAL.out.p1.trans h2).p1.p3.drop; clear h2))
      go_ret2
      exact ⟨0, rfl, fun h => absurd h h0, H2.out⟩
  by_cases k3 : k = 3
  · subst k3
    rw [leaf_3]
    by_cases hs : smallOk n = true
    · rw [if_pos hs]
      have HS := Lib.hid hs; clear hs
      go_enter Try.func91, Try.ntmps91
      go_wp2_with (go_at_call 30; refine (rsmall_yes n HS.out _).mono ?_; rintro e w' ⟨rfl, hww⟩; subst w')
      go_ret2
      exact ⟨_, rfl, fun _ => rfl, HAL.out.p3.drop⟩
    · rw [if_neg hs]
      have hs' : smallOk n = false := by simpa using hs
      have HS := Lib.hid hs'; clear hs hs'
      have hu := u64_wrap n
      have hul := u64_lt n
      by_cases hf : C.length < most
      · have hp : wordsP most 4 [u64 n] ⟨C, L, V⟩ = ((mkc 4 C.length, 0), ⟨C ++ [u64 n], L, V⟩) := by simp [wordsP, pushAll, hf]
        rw [hp]
        go_enter Try.func91, Try.ntmps91
        go_wp2_with (first | (go_at_call 30; refine (rsmall_no n HS.out _).mono ?_; rintro e w' ⟨rfl, hww⟩; subst w') | (go_at_call 45; refine (rpush_ok HAL.out.ok (u64 n) (by first | exact hu | rfl) hul hf).mono ?_; rintro e w' ⟨rfl, h2⟩; have H2 := Lib.hid (HAL.out.trans h2).p3.drop; clear h2) | (go_at_call 85; refine (rmake_spec 4 C.length rfl rfl (by omega) (by omega) _).mono ?_; rintro e w' ⟨rfl, rfl⟩))
        go_ret2
        exact ⟨_, rfl, fun _ => rfl, H2.out⟩
      · have hp : wordsP most 4 [u64 n] ⟨C, L, V⟩ = ((0, 4), ⟨C, L, V⟩) := by simp [wordsP, pushAll, hf]
        rw [hp]
        have hfl : C.length = most := by omega
        have HFL := Lib.hid hfl; clear hfl
        go_enter Try.func91, Try.ntmps91
        go_wp2_with (first | (go_at_call 30; refine (rsmall_no n HS.out _).mono ?_; rintro e w' ⟨rfl, hww⟩; subst w') | (go_at_call 45; refine (rpush_full HAL.out.ok.heapBR _ HFL.out).mono ?_; rintro e w' ⟨rfl, q, rfl⟩) | (go_at_call 85; refine (rmake_spec 4 0 rfl rfl (by omega) (by omega) _).mono ?_; rintro e w' ⟨rfl, rfl⟩))
        go_ret2
        exact ⟨_, rfl, fun h => by simp at h, (HAL.out.drewN _).p3.drop⟩
  by_cases k4 : k = 4
  · subst k4
    rw [leaf_4]
    obtain ⟨re, rfl⟩ : ∃ r : Nat, re = r := ⟨re.toNat, by omega⟩
    obtain ⟨im, rfl⟩ : ∃ r : Nat, im = r := ⟨im.toNat, by omega⟩
    simp only [Int.toNat_natCast]
    have hrb : re < 18446744073709551616 := by omega
    have hib : im < 18446744073709551616 := by omega
    by_cases hf : C.length < most
    · by_cases hf2 : C.length + 1 < most
      · have hp : wordsP most 5 [re, im] ⟨C, L, V⟩ = ((mkc 5 C.length, 0), ⟨C ++ [re] ++ [im], L, V⟩) := by simp [wordsP, pushAll, hf, hf2]
        rw [hp]
        go_enter Try.func91, Try.ntmps91
        go_wp2_with fail
        refine (rpush_ok HAL.out.ok re rfl hrb hf).mono ?_
        rintro e w1 ⟨rfl, h2⟩
        obtain ⟨⟨z0, z1, z2, z3, z4, z5⟩, -, -⟩ := h2.p3.ok.pt6
        have H2 := Lib.hid (HAL.out.trans h2); clear h2
        go_wp2_with fail
        refine (rpush_ok H2.out.ok im rfl hib (by simpa using hf2)).mono ?_
        rintro e w2 ⟨rfl, h3⟩
        have H3 := Lib.hid (H2.out.trans h3).p3.drop; clear h3
        go_wp2_with (go_at_call 85; refine (rmake_spec 5 C.length rfl rfl (by omega) (by omega) _).mono ?_; rintro e w' ⟨rfl, rfl⟩)
        go_ret2
        exact ⟨_, rfl, fun _ => rfl, H3.out⟩
      · have hp : wordsP most 5 [re, im] ⟨C, L, V⟩ = ((0, 4), ⟨C ++ [re], L, V⟩) := by simp [wordsP, pushAll, hf, hf2]
        rw [hp]
        have hfl : (C ++ [re]).length = most := by simp; omega
        have HFL := Lib.hid hfl; clear hfl
        go_enter Try.func91, Try.ntmps91
        go_wp2_with fail
        refine (rpush_ok HAL.out.ok re rfl hrb hf).mono ?_
        rintro e w1 ⟨rfl, h2⟩
        obtain ⟨⟨z0, z1, z2, z3, z4, z5⟩, -, -⟩ := h2.p3.ok.pt6
        have H2 := Lib.hid (HAL.out.trans h2); clear h2
        go_wp2_with fail
        refine (rpush_full H2.out.ok.heapBR im HFL.out).mono ?_
        rintro e w2 ⟨rfl, q, rfl⟩
        go_wp2_with (go_at_call 85; refine (rmake_spec 5 C.length rfl rfl (by omega) (by omega) _).mono ?_; rintro e w' ⟨rfl, rfl⟩)
        go_ret2
        exact ⟨_, rfl, fun h => by simp at h, (H2.out.drewN _).p3.drop⟩
    · have hp : wordsP most 5 [re, im] ⟨C, L, V⟩ = ((0, 4), ⟨C, L, V⟩) := by simp [wordsP, pushAll, hf]
      rw [hp]
      have hfl : C.length = most := by omega
      have HFL := Lib.hid hfl; clear hfl
      go_enter Try.func91, Try.ntmps91
      go_wp2_with fail
      refine (rpush_full HAL.out.ok.heapBR re HFL.out).mono ?_
      rintro e w2 ⟨rfl, q, rfl⟩
      go_wp2_with (go_at_call 85; refine (rmake_spec 5 0 rfl rfl (by omega) (by omega) _).mono ?_; rintro e w' ⟨rfl, rfl⟩)
      go_ret2
      exact ⟨_, rfl, fun h => by simp at h, (HAL.out.drewN _).p3.drop⟩
  obtain rfl : k = 1 := by omega
  rw [leaf_1]
  have hlk := fun q => HAL.out.p2.ok.look (P := Try.prog) (key_int .i64) Try.underlying52 Try.underlying2 zero34 n true q
  unfold varP
  simp only at hlk ⊢
  cases hq : lk V n with
  | some c =>
    simp only [hq]
    rw [hq] at hlk
    have hlk' : (Instr.lookup 52 (.map (some m)) (.int .i64 n) true).run Try.prog (w.alloc (.cells #[.int .i64 1, .string s, .int .i64 n, .int .u64 re, .int .u64 im, .slice A xs.length cap] 25)) = .ok (.tuple #[.int .u64 (c : Nat), .bool true]) (w.alloc (.cells #[.int .i64 1, .string s, .int .i64 n, .int .u64 re, .int .u64 im, .slice A xs.length cap] 25)) := hlk 0
    clear hlk hq
    go_enter Try.func91, Try.ntmps91
    go_wp2
    go_ret2
    exact ⟨_, rfl, fun _ => rfl, HAL.out.p3.drop⟩
  | none =>
    simp only [hq]
    rw [hq] at hlk
    have hlk' : (Instr.lookup 52 (.map (some m)) (.int .i64 n) true).run Try.prog (w.alloc (.cells #[.int .i64 1, .string s, .int .i64 n, .int .u64 re, .int .u64 im, .slice A xs.length cap] 25)) = .ok (.tuple #[.int .u64 0, .bool false]) (w.alloc (.cells #[.int .i64 1, .string s, .int .i64 n, .int .u64 re, .int .u64 im, .slice A xs.length cap] 25)) := hlk 0
    clear hlk hq
    by_cases hown : own < 0
    · rw [if_pos hown]
      by_cases hf : C.length < most
      · rw [if_pos hf]
        go_enter Try.func91, Try.ntmps91
        go_wp2_with fail
        refine (rvar_ok HAL.out.ok hf).mono ?_
        rintro e w2 ⟨rfl, h2⟩
        have h3 := (HAL.out.trans h2).p2
        clear hlk' h2
        have h4 : To w S w2 S (VarsA m V :: HeapB h most (C ++ [mkc 0 C.length]) :: AtomsB a L :: Pt w.heap.size #[.int .i64 1, .string s, .int .i64 n, .int .u64 re, .int .u64 im, .slice A xs.length cap] 25 :: Γ) := h3
        clear h3
        obtain ⟨⟨z0, z1, z2, z3, z4, z5⟩, -, z6⟩ := h4.p3.ok.pt6
        have e9 : IntKind.u64.wrap (C.length : Int) = (C.length : Int) := IntWalk.u64_in _ ⟨by omega, by omega⟩
        obtain ⟨w3, hr, hT⟩ := h4.drew.ok.mapPut (P := Try.prog) (key_int .i64) Try.underlying52 Try.underlying2 n (mkc 0 C.length)
        have hrun : (Instr.mapUpdate 52 (.map (some m)) (.int .i64 n) (.int .u64 ((mkc 0 C.length : Nat) : Int))).run Try.prog w2.drew = .ok () w3 := hr
        have hT2 := h4.drew.trans hT
        obtain ⟨⟨y0, y1, y2, y3, y4, y5⟩, -, y6⟩ := hT2.p3.ok.pt6
        have hl3 : (Instr.lookup 52 (.map (some m)) (.int .i64 n) false).run Try.prog w3 = .ok (.int .u64 ((mkc 0 C.length : Nat) : Int)) w3 := by
          have h9 := hT2.ok.look (P := Try.prog) (key_int .i64) Try.underlying52 Try.underlying2 zero34 n false 0
          rw [lk_up] at h9
          exact h9
        have HT2 := Lib.hid hT2
        clear h4 hT hT2 hr
        go_wp2_with fail
        go_region_held3 (fun W => W.cell? ⟨w.heap.size, 2, none⟩ = some (.int .i64 n)) (go_keep) (first | (go_at_call 85; refine (rmake_spec 0 C.length rfl rfl (by omega) (by omega) _).mono ?_; rintro e w' ⟨rfl, rfl⟩))
        clear hrun z0 z1 z2 z3 z4 z5
        go_wp2
        go_ret2
        exact ⟨_, rfl, fun _ => rfl, HT2.out.p3.drop.p2.p2⟩
      · rw [if_neg hf]
        have hfl : C.length = most := by omega
        have HFL := Lib.hid hfl; clear hfl
        go_enter Try.func91, Try.ntmps91
        go_wp2_with fail
        refine (rvar_full HAL.out.ok.heapBR HFL.out).mono ?_
        rintro e w2 ⟨rfl, q, rfl⟩
        go_wp2
        go_ret2
        exact ⟨0, rfl, fun h => by simp at h, (HAL.out.drewN _).p3.drop⟩
    · rw [if_neg hown]
      obtain ⟨o, rfl⟩ : ∃ o : Nat, own = o := ⟨own.toNat, by omega⟩
      simp only [Int.toNat_natCast]
      have h4 : To w S (w.alloc (.cells #[.int .i64 1, .string s, .int .i64 n, .int .u64 re, .int .u64 im, .slice A xs.length cap] 25)) S (VarsA m V :: HeapB h most C :: AtomsB a L :: Pt w.heap.size #[.int .i64 1, .string s, .int .i64 n, .int .u64 re, .int .u64 im, .slice A xs.length cap] 25 :: Γ) := HAL.out.p2
      go_enter Try.func91, Try.ntmps91
      go_wp2_with fail
      generalize w.alloc (.cells #[.int .i64 1, .string s, .int .i64 n, .int .u64 re, .int .u64 im, .slice A xs.length cap] 25) = w2 at h4 ⊢
      clear hlk'
      obtain ⟨⟨z0, z1, z2, z3, z4, z5⟩, -, z6⟩ := h4.p3.ok.pt6
      have e9 : IntKind.u64.wrap (o : Int) = (o : Int) := IntWalk.u64_in _ ⟨by omega, by omega⟩
      obtain ⟨w3, hr, hT⟩ := h4.drew.ok.mapPut (P := Try.prog) (key_int .i64) Try.underlying52 Try.underlying2 n (mkc 0 o)
      have hrun : (Instr.mapUpdate 52 (.map (some m)) (.int .i64 n) (.int .u64 ((mkc 0 o : Nat) : Int))).run Try.prog w2.drew = .ok () w3 := hr
      have hT2 := h4.drew.trans hT
      obtain ⟨⟨y0, y1, y2, y3, y4, y5⟩, -, y6⟩ := hT2.p3.ok.pt6
      have hl3 : (Instr.lookup 52 (.map (some m)) (.int .i64 n) false).run Try.prog w3 = .ok (.int .u64 ((mkc 0 o : Nat) : Int)) w3 := by
        have h9 := hT2.ok.look (P := Try.prog) (key_int .i64) Try.underlying52 Try.underlying2 zero34 n false 0
        rw [lk_up] at h9
        exact h9
      have HT2 := Lib.hid hT2
      clear h4 hT hT2 hr
      go_wp2_with fail
      go_region_held3 (fun W => W.cell? ⟨w.heap.size, 2, none⟩ = some (.int .i64 n)) (go_keep) (first | (go_at_call 85; refine (rmake_spec 0 o rfl rfl (by omega) (by omega) _).mono ?_; rintro e w' ⟨rfl, rfl⟩))
      clear hrun z0 z1 z2 z3 z4 z5
      go_wp2
      go_ret2
      exact ⟨_, rfl, fun _ => rfl, HT2.out.p3.drop.p2.p2⟩
#print axioms rput_leaf
end Go.Proofs.Ytceahdlcbiialaa
set_option linter.unusedVariables false
set_option linter.unusedSimpArgs false
namespace Go.Proofs.Ytceahdlcbiialaa
open Go.RowKit

/-- What leaves the tape as it was. -/
def Tame {α : Type} (P : Program) (m : Sem α) : Prop := ∀ (w : World) (v : α) (w' : World), m.run P w = .ok v w' → w'.tape = w.tape
section
variable {P : Program}
theorem tame_pure {α : Type} (a : α) : Tame P (pure a : Sem α) := fun w v w' h => by
  simp only [Sem.run_pure, Result.ok.injEq] at h
  rw [h.2]
theorem tame_bind {α β : Type} {m : Sem α} {f : α → Sem β} (hm : Tame P m) (hf : ∀ a, Tame P (f a)) : Tame P (m >>= f) := fun w v w' h => by
  rw [Sem.run_bind] at h
  cases hr : m.run P w with
  | ok a w1 =>
    rw [hr] at h
    exact (hf a w1 v w' h).trans (hm w a w1 hr)
  | halt x w1 => rw [hr] at h; cases h
theorem tame_getObj (r : Nat) : Tame P (getObj r) := fun w v w' h => by
  unfold getObj at h
  simp only [Sem.run] at h
  split at h
  · cases h
  · cases h; rfl
  · cases h
theorem tame_setObj (r : Nat) (o : Obj) : Tame P (setObj r o) := fun w v w' h => by
  unfold setObj at h
  simp only [Sem.run] at h
  split at h
  · cases h
  · cases h; rfl
  · cases h
theorem tame_choose (q : Question) : Tame P (choose q) := fun w v w' h => by
  unfold choose at h
  simp only [Sem.run] at h
  split at h <;> (cases h; rfl)
theorem tame_stuck {α : Type} (s : String) : Tame P (stuck s : Sem α) := fun w v w' h => by cases h
theorem tame_unsupported {α : Type} (s : Unsupported) : Tame P (unsupported s : Sem α) := fun w v w' h => by cases h
theorem next_tame (it : Value) (b : Bool) (t : TypeId) : Tame P (Instr.next it b t) := by
  unfold Instr.next
  repeat' (first | exact tame_pure _ | exact tame_stuck _ | exact tame_unsupported _ | exact tame_getObj _ | exact tame_setObj _ _ | exact tame_choose _ | refine tame_bind ?_ (fun _ => ?_) | split)
/-- What the map's block is. -/
theorem Ok.mapRaw {α β : Type} {enc : α → Value} {val : β → Value} {w : World} {S : Blk} {Γ : List Asn} {b : Nat} {l : List (α × β)} (h : Ok w S (MapA b enc val l :: Γ)) :
    ∃ es clock, w.heap[b]? = some (.map es clock) ∧ es.toList.map (fun e => (e.key, e.val)) = l.map (fun p => (enc p.1, val p.2)) ∧ (∀ e ∈ es.toList, e.born < clock) ∧ (es.toList.map MapEntry.born).Nodup ∧ es.size = l.length := by
  obtain ⟨_, F, _, ⟨_, es, clock, h1, h2, h3, h4⟩, _⟩ := h
  refine ⟨es, clock, h1, h2, h3, h4, ?_⟩
  have := congrArg List.length h2
  simpa using this
/-- One more look at a map. -/
theorem next_map (w : World) (bm clock : Nat) (seen : Array Nat) (es : Array MapEntry) (hb : w.heap[bm]? = some (.map es clock)) (hold : ∀ x ∈ es.toList, x.born < clock) (hnd : (es.toList.map MapEntry.born).Nodup) :
    ((leftOf es seen).size = 0 ∧ ∀ ty, (Instr.next (.pointer (some ⟨w.heap.size, 0, none⟩)) false ty).run P (w.alloc (.mapIter (some bm) clock seen clock)) = .ok (.tuple #[.bool false]) (w.alloc (.mapIter (some bm) clock seen clock))) ∨
    ∃ e ∈ (leftOf es seen).toList, ∃ w1 : World, w1.heap = w.heap ∧ w1.os = w.os ∧ w1.output = w.output ∧ w1.tape = w.tape ∧ (∀ ty, (Instr.next (.pointer (some ⟨w.heap.size, 0, none⟩)) false ty).run P (w.alloc (.mapIter (some bm) clock seen clock)) = .ok (.tuple #[.bool true, e.key, e.val]) (w1.alloc (.mapIter (some bm) clock (seen.push e.born) clock))) ∧
      (Instr.entry (.pointer (some ⟨w.heap.size, 0, none⟩))).run P (w1.alloc (.mapIter (some bm) clock (seen.push e.born) clock)) = .ok (.tuple #[e.key, e.val]) (w1.alloc (.mapIter (some bm) clock (seen.push e.born) clock)) := by
  rcases run_next_map (P := P) w 0 bm clock clock seen es clock hb hold (Nat.le_refl _) with ⟨h0, hr⟩ | ⟨e, he, w1, hal, hr⟩
  · exact .inl ⟨h0, fun _ => hr⟩
  · refine .inr ⟨e, he, w1, hal.1, hal.2.1, hal.2.2, ?_, fun _ => hr, ?_⟩
    · have := next_tame _ _ _ _ _ _ hr
      exact this
    · have hb1 : w1.heap[bm]? = some (.map es clock) := by rw [hal.1]; exact hb
      have hen := run_entry_map (P := P) w1 bm clock seen es clock e hb1 (mem_left he).1 hnd
      rw [hal.1] at hen
      exact hen
end
/-- An operation that its guard passes over. -/
theorem skipH {P : Program} {ops : Array Oper} {Q : Exit → Act → World → Prop} {md : Region.Mode} {S : World → Prop} {oi : Oper} {fuel : Nat} {listed : Array Bool} {tmps : Array Value} {ds : List Deferred} {w : World} (i d : Nat) (hi : ops[i]? = some oi) (hdst : oi.dst = some d)
    (hs : Region.noSelect ops = true) (hf : Region.free md ops listed i = true) (hr : (Region.ready md ops listed).contains i = true)
    (hQ : ∀ c a w, Q (.panic c) (a.put oi.dst undef) w → Q (.panic c) a w) (hw : Region.wanted oi (yielded ops tmps) = false) (hS : S w)
    (h : wpAnyH P md ops Q S fuel (listed.setIfInBounds i true) ⟨tmps.setIfInBounds d undef, ds⟩ w) : wpAnyH P md ops Q S (fuel + 1) listed ⟨tmps, ds⟩ w :=
  wpAnyH_take hi hs hf hr hQ (.inr ⟨hw, rfl⟩) hS (by rw [hdst]; exact h)
/-- len of a map. -/
theorem run_lenMap {P : Program} {w : World} {t k e : TypeId} {b n ck : Nat} {es : Array MapEntry} (ht : P.underlying t = some (.map k e)) (h : w.heap[b]? = some (.map es ck)) (hn : es.size = n) (ty : TypeId) : (Builtin.len_ #[t] ty #[.map (some b)]).run P w = .ok (.int .i64 (n : Int)) w := by
  simp [Builtin.len_, run_underlying ht, getObj, Sem.run, h, hn, goInt, Result.andThen]
end Go.Proofs.Ytceahdlcbiialaa
