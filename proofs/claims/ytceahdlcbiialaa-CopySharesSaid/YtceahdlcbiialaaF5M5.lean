/- A range over slices.Backward: one rule. Rows of structs; appends within a round. A region that draws its order, within a round: walked as elsewhere. -/
import Derived.RangeFuncNested
import Derived.RangeFuncBound
import Derived.RangeFuncCalls
import Derived.RangeFuncLeaves
import Derived.Shelf.Abstract
import Derived.Shelf.RegionOpen
import Derived.WalkKit
import Derived.OwnWalkIn
import Derived.TacticsInMore
import Derived.LoopNIn
import Derived.LoopIn
import Derived.Maps.OwnIn
import Derived.Deep.RegionHeldLaw
import Derived.Test.YtceahdlcbiialaaF5M4
set_option linter.unusedVariables false
set_option linter.unusedSimpArgs false
namespace Go.Proofs.Ytceahdlcbiialaa
open Go.RowKit
attribute [local go_sem] Oper.semAt_some

/-- Any block. -/
def Raw (b : Nat) (o : Obj) : Asn := ⟨fun w F => (∀ x, F x ↔ x = b) ∧ w.heap[b]? = some o, fun h ⟨h1, h2⟩ => ⟨h1, by rw [h b ((h1 b).2 rfl)]; exact h2⟩⟩
section
variable {w0 w : World} {S0 S : Blk} {b : Nat} {o : Obj} {Γ : List Asn}
theorem Ok.rawHeap (h : Ok w S (Raw b o :: Γ)) : w.heap[b]? = some o := by
  obtain ⟨F, hF, hA, _⟩ := h.head
  exact hA.2
theorem Ok.rawPut (h : Ok w S (Raw b o :: Γ)) (o' : Obj) : To w S (w.putObj b o') S (Raw b o' :: Γ) := by
  obtain ⟨F, hF, ⟨h1, h2⟩, hk⟩ := h.head
  have hlt := (hF b ((h1 b).2 rfl)).2
  exact hk _ F _ rfl rfl rfl (by simp) (fun k hk hf => World.putObj_heap_other (fun e => hf ((h1 k).2 e))) (fun k hk => ⟨.inl hk, by simpa using (hF k hk).2⟩) ⟨h1, World.putObj_heap_same hlt⟩
theorem To.rawPut (h : To w0 S0 w S (Raw b o :: Γ)) (o' : Obj) : To w0 S0 (w.putObj b o') S (Raw b o' :: Γ) := h.trans (h.ok.rawPut o')
theorem Ok.allocRaw (h : Ok w S Γ) (o : Obj) : To w S (w.alloc o) S (Raw w.heap.size o :: Γ) := by
  have h1 := h.below ((Below.refl _ _).alloc (Nat.le_refl _) o)
  refine ⟨h1.os, h1.tape, h1.output, h1.size, h1.kept, h1.sub, h1.ok.old, fun x => x = w.heap.size, ?_, ⟨fun _ => Iff.rfl, World.alloc_heap_new w _⟩, ?_⟩
  · rintro x rfl
    exact ⟨fun hs => by have := h.old _ hs; omega, by simp⟩
  · refine h.sat.keep2 h1.size (fun x hx hu => hu.elim id (fun e => by omega)) (fun x hx _ => Below.heap_alloc w _ x hx)
theorem To.allocRaw (h : To w0 S0 w S Γ) (o : Obj) : To w0 S0 (w.alloc o) S (Raw w.heap.size o :: Γ) := h.trans (h.ok.allocRaw o)
/-- Fewer blocks are kept. -/
theorem To.less {S' : Blk} (h : To w0 S0 w S' Γ) (h0 : ∀ b, S0 b → S b) (h1 : ∀ b, S b → S' b) : To w0 S0 w S Γ := ⟨h.os, h.tape, h.output, h.size, h.kept, h0, ⟨fun b hb => h.ok.old b (h1 b hb), h.ok.sat.anti h1⟩⟩
theorem To.plain {S' : Blk} (h : To w0 S0 w S' Γ) : To w0 S0 w S0 Γ := h.less (fun _ h => h) h.sub
end
theorem To.cell {w w' : World} {S S' : Blk} {Γ : List Asn} (h : To w S w' S' Γ) {a : Addr} {v : Value} (hs : S a.block) (hc : w.cell? a = some v) : w'.cell? a = some v := (World.cell?_of_block (w := w) (h.kept _ hs)).trans hc
theorem Kids.to {w w' : World} {S S' : Blk} {Γ : List Asn} {A : Option Addr} {xs : List Tm} (h : Kids w S A xs) (ht : To w S w' S' Γ) : Kids w' S' A xs := fun i x hx => by
  obtain ⟨g, o, A', cap', e, hS, h0, h1, h2, h3, h4, h5, hT⟩ := h i x hx
  exact ⟨g, o, A', cap', e, ht.sub _ hS, ht.cell (a := ⟨g, _, none⟩) hS h0, ht.cell (a := ⟨g, _, none⟩) hS h1, ht.cell (a := ⟨g, _, none⟩) hS h2, ht.cell (a := ⟨g, _, none⟩) hS h3, ht.cell (a := ⟨g, _, none⟩) hS h4, ht.cell (a := ⟨g, _, none⟩) hS h5, hT.to ht⟩

theorem Kids.in {w w' : World} {Sk S S' : Blk} {Γ : List Asn} {A : Option Addr} {xs : List Tm} (h : Kids w Sk A xs) (hs : ∀ b, Sk b → S b) (ht : To w S w' S' Γ) : Kids w' Sk A xs := fun i x hx => by
  obtain ⟨g, o, A', cap', e, hS, h0, h1, h2, h3, h4, h5, hT⟩ := h i x hx
  exact ⟨g, o, A', cap', e, hS, ht.cell (a := ⟨g, _, none⟩) (hs _ hS) h0, ht.cell (a := ⟨g, _, none⟩) (hs _ hS) h1, ht.cell (a := ⟨g, _, none⟩) (hs _ hS) h2, ht.cell (a := ⟨g, _, none⟩) (hs _ hS) h3, ht.cell (a := ⟨g, _, none⟩) (hs _ hS) h4, ht.cell (a := ⟨g, _, none⟩) (hs _ hS) h5, hT.mono (fun a v ha hv => ht.cell (hs _ ha) hv) (fun _ h => h)⟩
theorem TmC.in {w w' : World} {Sk S S' : Blk} {Γ : List Asn} {cs : List Value} {t : Tm} (h : TmC w Sk cs t) (hs : ∀ b, Sk b → S b) (ht : To w S w' S' Γ) : TmC w' Sk cs t := h.mono (fun a v ha hv => ht.cell (hs _ ha) hv) (fun _ h => h)
theorem TmC.back {w w' : World} {S S' : Blk} {Γ : List Asn} {cs : List Value} {t : Tm} (h : TmC w' S cs t) (ht : To w S w' S' Γ) : TmC w S cs t := h.mono (fun a v ha hv => (World.cell?_of_block (w := w') (ht.kept _ ha).symm).trans hv) (fun _ h => h)

abbrev tmV (x : Tm) (A : Option Addr) (cap : Nat) : Value := .agg #[.int .i64 x.k, .string x.s, .int .i64 x.n, .int .u64 x.re, .int .u64 x.im, .slice A x.xs.length cap]

set_option maxRecDepth 100000 in
set_option maxHeartbeats 2000000 in
theorem back_in (n : Nat) (hn : 1 ≤ n) (l B : Nat) {S : Blk} {A : Option Addr} {cap : Nat} {xs : List Tm} (J : Nat → World → Prop) (W0 : World) (hlen : xs.length ≤ 140737488351232)
    (hJ : ∀ k W, J k W → W.cell? ⟨B, 0, none⟩ = some (.slice A xs.length cap) ∧ Kids W S A xs)
    (hY : ∀ (k j : Nat) (x : Tm) (A' : Option Addr) (cap' : Nat) (W : World), J k W → j + k + 1 = xs.length → xs[j]? = some x → TmC W S [.int .i64 x.k, .string x.s, .int .i64 x.n, .int .u64 x.re, .int .u64 x.im, .slice A' x.xs.length cap'] x →
      YieldAt Fence.wide (n - 1) Try.prog l #[.int .i64 (j : Int), tmV x A' cap'] W fun e W' => e = .returned (.bool true) ∧ J (k + 1) W')
    (h0 : J 0 W0) : CallsIn Fence.wide n Try.prog 165 #[.func (.yield l) #[] #[], .pointer (some ⟨B, 0, none⟩)] W0 fun e W' => (∃ v, e = .returned v) ∧ J xs.length W' := by
  refine callsIn_of_wp Try.func165 rfl trivial ?_ rfl
  simp only [Try.ntmps165, List.size_toArray, List.length_cons, List.length_nil, Nat.reduceAdd, Nat.reduceSub, Array.replicate_succ, Array.replicate_zero, List.push_toArray, List.append_toArray, List.nil_append, List.cons_append]
  have hB := (hJ 0 _ h0).1
  gi_wp2
  gi_loopw [3] (fun i wr => ∃ k : Nat, k ≤ xs.length ∧ i = .int .i64 ((xs.length : Int) - 1 - k) ∧ J k wr) (fun i _ => (intOf i + 1).toNat)
  case atStart => exact ⟨0, Nat.zero_le _, by simp, h0⟩
  case round =>
    obtain ⟨k, hk, rfl, hJs⟩ := hrel
    obtain ⟨hBr, hKr⟩ := hJ k _ hJs
    by_cases hlt : k < xs.length
    · obtain ⟨j, hj⟩ : ∃ j, j + k + 1 = xs.length := ⟨xs.length - k - 1, by omega⟩
      have ej : (xs.length : Int) - 1 - k = (j : Int) := by omega
      rw [ej]
      have hx : xs[j]? = some xs[j] := List.getElem?_eq_getElem (by omega)
      obtain ⟨gb, go, A', cap', rfl, hS, g0, g1, g2, g3, g4, g5, hxT⟩ := hKr j _ hx
      obtain ⟨fn, tmps, assign, body, hy, hR⟩ := hY k j _ A' cap' wr hJs hj hx hxT
      clear hxT
      have hjl : (j : Int) < (xs.length : Int) := by omega
      have hjn : j ≤ 140737488351232 := by omega
      gi_wp2
      refine hR.mono ?_
      rintro e W3 ⟨rfl, hJ3⟩
      gi_wp2
      go_roundw
      case rel => exact ⟨k + 1, by omega, by go_num, hJ3⟩
      case measure => simp [intOf]
    · obtain rfl : k = xs.length := by omega
      have e1 : (xs.length : Int) - 1 - xs.length = -1 := by omega
      rw [e1]
      gi_wp2
      go_end0
      exact ⟨⟨_, rfl⟩, hJs⟩

/-- What is asked of one round. -/
def RoundS (Sk S : Blk) (ps : Array Tmp) (assign body : Code) (a : Act) (xs : List Tm) (I : Nat → List Asn) (w : World) : Prop :=
  ∀ (l D : Nat) (r : LoopState → Loop) (k j : Nat) (x : Tm) (A' : Option Addr) (cap' : Nat) (W : World), j + k + 1 = xs.length → xs[j]? = some x → TmC W Sk [.int .i64 x.k, .string x.s, .int .i64 x.n, .int .u64 x.re, .int .u64 x.im, .slice A' x.xs.length cap'] x →
    To w S W S (Raw l (.loop (r .ready)) :: Raw D (.deferred (some [])) :: I k) →
    assign.wpIn (Fence.wide.inRound l) 3 Try.prog (Exit.then (fun a1 w1 => ∃ Γ1, To w S w1 S (Raw l (.loop (r .ready)) :: Γ1) ∧ ∀ W2, To w S W2 S (Raw l (.loop (r .busy)) :: Γ1) →
      body.wpIn (Fence.wide.inRound l) 3 Try.prog (fun e _ w' => e = .normal ∧ To w S w' S (Raw l (.loop (r .busy)) :: Raw D (.deferred (some [])) :: I (k + 1))) a1 W2) (fun _ _ _ => False))
      { tmps := (ps.zip #[.int .i64 (j : Int), tmV x A' cap']).foldl (fun t (p, v) => t.setIfInBounds p v) a.tmps, defers := [] } W

theorem wp_backward {g : Operand} {ps : Array Tmp} {assign body : Code} {Q : Exit → Act → World → Prop} {a : Act} {w : World} {Sk S : Blk} {B : Nat} {A : Option Addr} {cap : Nat} {xs : List Tm} (I : Nat → List Asn)
    (hg : a.eval g = .func (.func 165) #[] #[.pointer (some ⟨B, 0, none⟩)]) (hps : ps.size = 2) (hS : S B) (hB : w.cell? ⟨B, 0, none⟩ = some (.slice A xs.length cap)) (hK : Kids w Sk A xs) (hsk : ∀ b, Sk b → S b) (hlen : xs.length ≤ 140737488351232)
    (h0 : Ok w S (I 0)) (hround : RoundS Sk S ps assign body a xs I w)
    (hdone : ∀ (D : Nat) (W : World), To w S W S (Raw D (.deferred (some [])) :: I xs.length) → Q .normal { a with defers := { target := .collected D, args := #[] } :: a.defers } W) :
    (Code.rangeFunc g ps assign body).wp Try.prog Q a w := by
  refine (wpIn_wide (n := 5)).1 (wpIn_rangeFunc ?_)
  intro fn hfn
  obtain ⟨rec, hrec⟩ : ∃ rec : LoopState → Loop, rec = fun st => { state := st, pending := none, fn, tmps := a.tmps, params := ps, assign, body, defers := w.heap.size } := ⟨_, rfl⟩
  obtain ⟨W1, hW1⟩ : ∃ W1, (w.alloc (.deferred (some []))).alloc (.loop (rec .ready)) = W1 := ⟨_, rfl⟩
  have hT : To w S W1 S (Raw (w.heap.size + 1) (.loop (rec .ready)) :: Raw w.heap.size (.deferred (some [])) :: I 0) := by
    rw [← hW1]
    have := (h0.allocRaw (.deferred (some []))).allocRaw (.loop (rec .ready))
    rwa [World.size_alloc] at this
  refine ⟨w.heap.size + 1, [{ target := .collected w.heap.size, args := #[] }], W1, { target := .fn (.func 165) #[.pointer (some ⟨B, 0, none⟩)], args := #[.func (.yield (w.heap.size + 1)) #[] #[]] }, W1, 165,
    #[.func (.yield (w.heap.size + 1)) #[] #[]] ++ #[.pointer (some ⟨B, 0, none⟩)], W1, ?_, ?_, ?_, ?_, fun h => by simp [Fence.wide] at h, ?_⟩
  · rw [← hW1, hrec]; exact run_enterLoop_outer _ _ _ _ _
  · simp only [resolve, hg]
    simp [go_sem]
  · intro f' hf'; trivial
  · simp [invoke, go_sem, enters_of Try.func165 (by kernel_rfl) rfl]
  · refine (back_in (5 - 1) (by decide) (w.heap.size + 1) B (A := A) (cap := cap) (xs := xs) (S := Sk) (fun k W => To w S W S (Raw (w.heap.size + 1) (.loop (rec .ready)) :: Raw w.heap.size (.deferred (some [])) :: I k)) W1 hlen ?_ ?_ hT).mono ?_
    · exact fun k W h => ⟨h.cell (a := ⟨B, 0, none⟩) hS hB, hK.in hsk h⟩
    · intro k j x A' cap' W hW hj hx hxT
      have hy := run_yield (P := Try.prog) (args := #[.int .i64 (j : Int), tmV x A' cap']) hW.ok.rawHeap (by rw [hrec]; exact hps.symm)
      have hr0 := hround (w.heap.size + 1) w.heap.size rec k j x A' cap' W hj hx hxT hW
      rw [hrec] at hy
      refine ⟨fn, _, assign, body, hy, roundIn_of_wpIn hfn (wpIn_mono hr0 ?_)⟩
      clear hy hr0
      rintro e a1 w1 he
      cases e with
      | normal =>
        obtain ⟨Γ1, h1, h2⟩ := he
        refine ⟨_, run_beginRound h1.ok.rawHeap (by rw [hrec]), ?_⟩
        have e1 : ({ rec .ready with state := .busy } : Loop) = rec .busy := by rw [hrec]
        rw [e1]
        refine wpIn_mono (h2 _ (h1.rawPut _)) ?_
        rintro e a3 w3 ⟨rfl, h3⟩
        refine ⟨_, _, run_endRound none h3.ok.rawHeap, rfl, ?_⟩
        have e2 : ({ rec .busy with state := if (none : Option Code).isNone then .ready else .done, pending := none } : Loop) = rec .ready := by rw [hrec]; rfl
        rw [e2]
        exact h3.rawPut _
      | _ => exact he.elim
    · rintro e W2 ⟨⟨v, rfl⟩, h2⟩
      refine ⟨none, _, by have := run_endLoop (P := Try.prog) h2.ok.rawHeap (by rw [hrec]; simp); rw [hrec] at this; exact this, ?_⟩
      exact hdone _ _ (((h2.rawPut _).drop))
end Go.Proofs.Ytceahdlcbiialaa
set_option linter.unusedVariables false
set_option linter.unusedSimpArgs false
namespace Go.Proofs.Ytceahdlcbiialaa
open Go.RowKit

section
variable {w0 w : World} {S0 S : Blk} {Γ : List Asn} {e : TypeId} {size n : Nat}
theorem Ok.rowPop {A : Option Addr} {c : Nat} {xs last : List Value} (h : Ok w S (Row (.slice A (n + 1) c) e size (n + 1) (xs ++ last) :: Γ)) (hx : xs.length = n * size) : Ok w S (Row (.slice A n c) e size n xs :: Γ) := by
  obtain ⟨ho, F, hF, ⟨h1, h2⟩, hr⟩ := h
  refine ⟨ho, F, hF, ⟨fun b => ?_, ?_⟩, hr⟩
  · rw [h1 b]; cases A <;> simp [Value.ownBlock]
  · rcases h2.2 with ⟨e1, e2⟩ | ⟨g, cap, cur, e1, _⟩
    · cases e1
    · cases e1
      exact ownsRow_pop hx h2
theorem To.rowPop {A : Option Addr} {c : Nat} {xs last : List Value} (h : To w0 S0 w S (Row (.slice A (n + 1) c) e size (n + 1) (xs ++ last) :: Γ)) (hx : xs.length = n * size) : To w0 S0 w S (Row (.slice A n c) e size n xs :: Γ) := h.re fun k => k.rowPop hx
theorem Ok.rowShape {v : Value} {xs : List Value} (h : Ok w S (Row v e size n xs :: Γ)) : ∃ A c, v = .slice A n c := by
  rcases h.rowOwns.2 with ⟨e1, hn⟩ | ⟨g, cap, cur, e1, _⟩
  · exact ⟨none, 0, by rw [e1, hn]⟩
  · exact ⟨_, _, e1⟩
/-- The last of a row. -/
theorem Ok.rowLast {v : Value} {xs last : List Value} (h : Ok w S (Row v e size (n + 1) (xs ++ last) :: Γ)) (hx : xs.length = n * size) :
    ∃ g c, v = .slice (some ⟨g, 0, none⟩) (n + 1) c ∧ n + 1 ≤ c ∧ g < w.heap.size ∧ ¬ S g ∧ ∀ (i : Nat) (u : Value), last[i]? = some u → w.cell? ⟨g, n * size + i, none⟩ = some u := by
  have ho := h.rowOwns
  obtain ⟨F, hF, ⟨h1, _⟩, _⟩ := h.head
  rcases ho.2 with ⟨e1, hn⟩ | ⟨g, cap, cur, e1, h3, h2, h4⟩
  · omega
  · subst e1
    refine ⟨g, cap, rfl, h4.1, (hF g ((h1 g).2 rfl)).2, (hF g ((h1 g).2 rfl)).1, fun i u hu => ?_⟩
    rw [← add0]
    refine ho.cells (g := g) rfl _ _ ?_
    rw [← hx, List.getElem?_append_right (by omega)]
    simpa using hu
end

section
variable {F : Fence} {nF : Nat} {P : Program} {ops : Array Oper} {rest : List Oper} {o : Oper} {a : Act} {Q : Exit → Act → World → Prop}
theorem wpListIn_append_ok (hgd : o.guard = none) (s x : Operand) (t e : TypeId) (z : Value) (size bytes : Nat)
    (ho : o.op = .call { callee := .builtin .append, args := #[s, x], argTypes := #[t, t] })
    (ht : P.underlying t = some (.slice e)) (hinfo : (P.info? e).map (fun i => (i.zero, i.size, i.bytes)) = some (some z, size, bytes)) (hzs : z.cells.size = size) (hsz : 0 < size) (hby : 0 < bytes)
    {w0 W : World} {S0 S : Blk} {Γ : List Asn} {v : Value} {n : Nat} {xs : List Value} (H : To w0 S0 W S (Row v e size n xs :: Γ)) (hs : a.eval s = v)
    (ys : List Value) (ad : Addr) (hx : a.eval x = .slice (some ad) 1 1) (hys : ys.length = size) (hnews : ∀ j u, ys[j]? = some u → W.cell? (ad.add j) = some u) (h1 : ∀ u ∈ ys, u.oneCell' = true) (hl : (n + 1) * bytes ≤ 140737488355328)
    (h : ∀ A' c' W', To w0 S0 W' S (Row (.slice A' (n + 1) c') e size (n + 1) (xs ++ ys) :: Γ) → wpListIn F nF P ops Q rest (a.put o.dst (.slice A' (n + 1) c')) W') : wpListIn F nF P ops Q (o :: rest) a W := by
  obtain ⟨i0, hi, hzz⟩ := Option.map_eq_some_iff.1 hinfo
  simp only [Prod.mk.injEq] at hzz
  obtain ⟨hz0, hz1, hz2⟩ := hzz
  have hle : n + 1 ≤ 140737488355328 := Nat.le_trans (Nat.le_mul_of_pos_right _ hby) hl
  refine wpListIn_append_own_at (w := W) hgd s x t ho 0 e i0 z size bytes ht hi hz0 hz1 hz2 hzs hsz v n xs hs H.ok.rowOwns ad 1 1 ys hx (by omega) hnews h1 (by simp only [maxLen]; omega) hl (Nat.zero_le _) ?_
  intro v' w' hown hg _ hat
  have H2 := H.trans (H.ok.rowGrown hg hown (hat.imp id (by
    intro e b hb
    rw [e] at hb
    cases hb
    exact Nat.le_refl _)))
  rcases hown.2 with ⟨_, h0⟩ | ⟨g, cap, cur, rfl, _⟩
  · omega
  · exact h _ _ w' H2
theorem wpListIn_append_new (hgd : o.guard = none) (s x : Operand) (t e : TypeId) (z : Value) (size bytes : Nat)
    (ho : o.op = .call { callee := .builtin .append, args := #[s, x], argTypes := #[t, t] })
    (ht : P.underlying t = some (.slice e)) (hinfo : (P.info? e).map (fun i => (i.zero, i.size, i.bytes)) = some (some z, size, bytes)) (hzs : z.cells.size = size) (hsz : 0 < size) (hby : 0 < bytes)
    {w0 W : World} {S0 S : Blk} {Γ : List Asn} {v : Value} {n : Nat} {xs : List Value} (H : To w0 S0 W S (Row v e size n xs :: Γ)) (hs : a.eval s = v)
    (ys : Array Value) (hx : a.eval x = .slice (some ⟨W.heap.size, 0, none⟩) 1 1) (hys : ys.size = size) (h1 : ∀ u ∈ ys.toList, u.oneCell' = true) (hl : (n + 1) * bytes ≤ 140737488355328)
    (h : ∀ A' c' W', To w0 S0 W' S (Row (.slice A' (n + 1) c') e size (n + 1) (xs ++ ys.toList) :: Γ) → wpListIn F nF P ops Q rest (a.put o.dst (.slice A' (n + 1) c')) W') : wpListIn F nF P ops Q (o :: rest) a (W.alloc (.cells ys e)) :=
  wpListIn_append_ok hgd s x t e z size bytes ho ht hinfo hzs hsz hby (H.alloc _) hs ys.toList ⟨W.heap.size, 0, none⟩ hx (by simpa using hys) (World.news_of_block (heap_alloc_new W _)) h1 hl h
end
/-- Terms on the way: a stack, the first is its top. -/
structure It where
  t : Tm
  A : Option Addr
  c : Nat
  d : Nat
abbrev It.six (i : It) : List Value := [.int .i64 i.t.k, .string i.t.s, .int .i64 i.t.n, .int .u64 i.t.re, .int .u64 i.t.im, .slice i.A i.t.xs.length i.c]
abbrev It.v (i : It) : List Value := [.int .i64 i.t.k, .string i.t.s, .int .i64 i.t.n, .int .u64 i.t.re, .int .u64 i.t.im, .slice i.A i.t.xs.length i.c, .int .i64 i.d]
def stkV : List It → List Value
  | [] => []
  | i :: l => stkV l ++ i.v
theorem stkV_length : ∀ l : List It, (stkV l).length = l.length * 7
  | [] => rfl
  | i :: l => by simp [stkV, stkV_length l]; omega
/-- At a return ahead of a range over a function; behind one. -/
theorem bodyM_ret {P : Program} {fn : Func} {R : Ending → World → Prop} {tmps : Array Value} {w : World} {v : Value} (hv : (results fn tmps).run P w = .ok v w) (h : R (.returned v) w) : bodyPostM Fence.wide 5 P fn R .ret { tmps := tmps, defers := [] } w := ⟨v, hv, h⟩
theorem bodyM_done {P : Program} {fn : Func} {R : Ending → World → Prop} {tmps : Array Value} {D : Nat} {w w0 : World} {S S0 : Blk} {Γ : List Asn} {v : Value} (h : To w0 S0 w S (Raw D (.deferred (some [])) :: Γ)) (hv : ∀ W, (results fn tmps).run P W = .ok v W)
    (hR : ∀ W, To w0 S0 W S Γ → R (.returned v) W) : bodyPostM Fence.wide 5 P fn R .ret { tmps := tmps, defers := [{ target := .collected D, args := #[] }] } w :=
  ⟨by simp, .inl ⟨_, _, rfl, run_takeDeferred h.ok.rawHeap, ⟨v, hv _, hR _ (h.rawPut _).drop⟩⟩⟩
end Go.Proofs.Ytceahdlcbiialaa
set_option linter.unusedVariables false
set_option linter.unusedSimpArgs false
namespace Go.Proofs.Ytceahdlcbiialaa
open Go.RowKit

section
variable {P : Program} {ops : Array Oper} {Q : Exit → Act → World → Prop} {l n : Nat}
theorem rowsIn_round {row : String} {args : Array Value} {w : World} {R : Value → World → Prop} (h : Rows P row args w R) : RowsIn (Fence.wide.inRound l) n P row args w R := by
  intro c cs _
  obtain ⟨v, w', r, s⟩ := h c cs
  exact ⟨v, w', r, stepsIn_wide.2 s⟩
theorem uponIn_of (hL : ¬ LetsOut Q) (o : Oper) (a : Act) (K : Act → World → Prop) : ∀ r : Result Next, o.upon P a K Q r → o.uponIn (Fence.wide.inRound l) n P a K Q r
  | .ok (.value v) w', h => h
  | .ok .skip w', h => h
  | .ok (.defer d) w', h => h
  | .ok (.enter f args) w', h => ⟨fun e => by simp [Fence.wide, Fence.inRound] at e, (callsIn_wide (n := n - 1)).2 h⟩
  | .ok (.row row args) w', h => ⟨fun e => by simp [Fence.wide, Fence.inRound] at e, rowsIn_round h⟩
  | .halt (.panic v) w', h => h
theorem wpOpIn_of (hL : ¬ LetsOut Q) (hd : ∀ o ∈ ops.toList, ∀ c, o.op ≠ .defer c) (i : Nat) (K K' : Act → World → Prop) (hK : ∀ a w, K a w → K' a w) (a : Act) (w : World) (h : wpOp P ops Q i K a w) : wpOpIn (Fence.wide.inRound l) n P ops Q i K' a w := by
  unfold wpOp at h
  unfold wpOpIn
  cases ho : ops[i]? with
  | none => rw [ho] at h; exact hK _ _ h
  | some o =>
    rw [ho] at h
    simp only at h ⊢
    split
    · rename_i hw
      rw [if_pos hw] at h
      rcases h with h | h
      · refine Oper.wpIn_mono hK ⟨fun _ _ => trivial, ?_⟩
        rw [Oper.semAt_plain _ _ _ (hd o (by rw [← Array.getElem?_toList] at ho; exact List.mem_of_getElem? ho))]
        exact uponIn_of hL o a K _ h
      · exact absurd h.2 hL
    · rename_i hw
      rw [if_neg hw] at h
      exact ⟨fun _ _ => trivial, hK _ _ h⟩
theorem wpAnyIn_of (hL : ¬ LetsOut Q) (hd : ∀ o ∈ ops.toList, ∀ c, o.op ≠ .defer c) (md : Region.Mode) : ∀ (fuel : Nat) (listed : Array Bool) (a : Act) (w : World), wpAny P md ops Q fuel listed a w → wpAnyIn (Fence.wide.inRound l) n P md ops Q fuel listed a w
  | 0, _, _, _, h => h
  | fuel + 1, listed, a, w, h => ⟨h.1, fun i hi => wpOpIn_of hL hd i _ _ (wpAnyIn_of hL hd md fuel _) a w (h.2 i hi)⟩
theorem takeH {md : Region.Mode} {S : World → Prop} {oi : Oper} {v : Value} {fuel : Nat} {listed : Array Bool} {tmps : Array Value} {ds : List Deferred} {w : World} (i d : Nat) (hi : ops[i]? = some oi) (hdst : oi.dst = some d)
    (hs : Region.noSelect ops = true) (hf : Region.free md ops listed i = true) (hr : (Region.ready md ops listed).contains i = true)
    (hQ : ∀ c a w, Q (.panic c) (a.put oi.dst v) w → Q (.panic c) a w) (hw : Region.wanted oi (yielded ops tmps) = true) (hS : S w) (hy : ∀ w, S w → (execOp (Act.eval ⟨tmps, ds⟩) oi).run P w = .ok (.value v) w)
    (h : wpAnyH P md ops Q S fuel (listed.setIfInBounds i true) ⟨tmps.setIfInBounds d v, ds⟩ w) : wpAnyH P md ops Q S (fuel + 1) listed ⟨tmps, ds⟩ w :=
  wpAnyH_take hi hs hf hr hQ (.inl ⟨hw, hy⟩) hS (by rw [hdst]; exact h)
/-- The walk of a region within a round is the walk of the region: S is kept throughout. -/
theorem wp_round_region {S : World → Prop} {id : Nat} {a : Act} {w : World} (hm : P.follows .mixedOrders = true) (hL : ¬ LetsOut Q) (hd : ∀ o ∈ ops.toList, ∀ c, o.op ≠ .defer c) (hS : S w.drew)
    (h : S w.drew → wpAnyH P .any ops Q S ops.size (Array.replicate ops.size false) a w.drew) : (Code.region id ops true).wpIn (Fence.wide.inRound l) n P Q a w :=
  wpIn_region_any hm (wpAnyIn_of hL hd _ _ _ _ _ (wpAny_of_held _ _ _ _ (h hS)))
end
end Go.Proofs.Ytceahdlcbiialaa
