/- What each function on names answers, and what it leaves in memory. -/
import Derived.Test.YtceahdlcbiialaaF5M4
import Derived.Test.YtceahdlcbiialaaF5M9
set_option linter.unusedVariables false
set_option linter.unusedSimpArgs false
namespace Go.Proofs.Ytceahdlcbiialaa
open Go.RowKit

/-- Where a name stands. -/
def place : List ByteArray → ByteArray → Nat → Option Nat
  | [], _, _ => none
  | x :: r, s, i => if s = x then some i else place r s (i + 1)
/-- The table of a list of names. -/
def tableOf : List ByteArray → Nat → List (ByteArray × Nat)
  | [], _ => []
  | x :: r, i => (x, i) :: tableOf r (i + 1)
theorem lk_tableOf (s : ByteArray) : ∀ (l : List ByteArray) (i : Nat), lk (tableOf l i) s = place l s i
  | [], _ => rfl
  | x :: r, i => by
    unfold tableOf lk place
    rw [lk_tableOf s r (i + 1)]
theorem up_tableOf (s : ByteArray) : ∀ (l : List ByteArray) (i : Nat), place l s i = none → up (tableOf l i) s (i + l.length) = tableOf (l ++ [s]) i
  | [], _, _ => by simp [tableOf, up]
  | x :: r, i, h => by
    unfold place at h
    split at h
    · cases h
    · rename_i hne
      have := up_tableOf s r (i + 1) h
      simp only [tableOf, up, if_neg hne, List.cons_append]
      rw [← this]
      simp [Nat.add_comm, Nat.add_left_comm]
theorem place_lt (s : ByteArray) : ∀ (l : List ByteArray) (i j : Nat), place l s i = some j → i ≤ j ∧ j < i + l.length
  | [], _, _, h => by cases h
  | x :: r, i, j, h => by
    unfold place at h
    split at h
    · cases h; simp
    · have := place_lt s r (i + 1) j h
      simp; omega
theorem place_get (s : ByteArray) : ∀ (l : List ByteArray) (i j : Nat), place l s i = some j → l[j - i]? = some s
  | [], _, _, h => by cases h
  | x :: r, i, j, h => by
    unfold place at h
    split at h
    · rename_i he; cases h; simp [he]
    · have h1 := place_lt s r (i + 1) j h
      have h2 := place_get s r (i + 1) j h
      have e : j - i = (j - (i + 1)) + 1 := by omega
      rw [e]; simpa using h2
/-- Names are names: none too long, none twice, not too many, the two first. -/
def Names (l : List ByteArray) : Prop := l.length ≤ 4096 ∧ ∀ s ∈ l, s.size ≤ 200
def names0 : List ByteArray := [⟨#[91, 93]⟩, ⟨#[46]⟩]
def strsV (l : List ByteArray) : List Value := l.map Value.string
/-- package atoms' table -/
def AtomsA (p : Nat) (l : List ByteArray) : Asn := Ex fun v => Ex fun b => Two (Pt p #[v, .map (some b)] 124) (Two (Row v 9 1 l.length (strsV l)) (Two (MapA b Value.string (fun n : Nat => Value.int .i64 (n : Int)) (tableOf l 0)) (Fact (Names l))))
/-- the reference's names -/
def AtomsB (p : Nat) (l : List ByteArray) : Asn := Ex fun v => Two (Pt p #[v] 57) (Two (Row v 9 1 l.length (strsV l)) (Fact (Names l)))
section
variable {w : World} {S : Blk} {Γ : List Asn} {p : Nat} {l : List ByteArray}
theorem Ok.atomsA (h : Ok w S (AtomsA p l :: Γ)) : ∃ v b, Ok w S (Pt p #[v, .map (some b)] 124 :: Row v 9 1 l.length (strsV l) :: MapA b Value.string (fun n : Nat => Value.int .i64 (n : Int)) (tableOf l 0) :: Γ) ∧ Names l := by
  obtain ⟨v, h⟩ := Ok.ex.1 h
  obtain ⟨b, h⟩ := Ok.ex.1 h
  have h := Ok.two.1 h
  have h2 := (Ok.two.1 h.p1).p1
  have h3 := Ok.two.1 h2
  have h4 := Ok.fact.1 h3.p1
  exact ⟨v, b, h4.2.p1.p2, h4.1⟩
theorem Ok.atomsA_mk {v : Value} {b : Nat} (h : Ok w S (Pt p #[v, .map (some b)] 124 :: Row v 9 1 l.length (strsV l) :: MapA b Value.string (fun n : Nat => Value.int .i64 (n : Int)) (tableOf l 0) :: Γ)) (hw : Names l) : Ok w S (AtomsA p l :: Γ) := by
  have h4 := (Ok.fact.2 ⟨hw, h⟩).p3
  have h5 := (Ok.two.2 h4).p2
  exact Ok.ex.2 ⟨v, Ok.ex.2 ⟨b, Ok.two.2 ((Ok.two.2 h5).p1)⟩⟩
theorem Ok.atomsB (h : Ok w S (AtomsB p l :: Γ)) : ∃ v, Ok w S (Pt p #[v] 57 :: Row v 9 1 l.length (strsV l) :: Γ) ∧ Names l := by
  obtain ⟨v, h⟩ := Ok.ex.1 h
  have h := Ok.two.1 h
  have h2 := Ok.two.1 h.p1
  have h3 := Ok.fact.1 h2.p1
  exact ⟨v, h3.2.p1, h3.1⟩
theorem Ok.atomsB_mk {v : Value} (h : Ok w S (Pt p #[v] 57 :: Row v 9 1 l.length (strsV l) :: Γ)) (hw : Names l) : Ok w S (AtomsB p l :: Γ) := by
  have h4 := (Ok.fact.2 ⟨hw, h⟩).p2
  exact Ok.ex.2 ⟨v, Ok.two.2 ((Ok.two.2 h4).p1)⟩
/-- A slice that reads as these names. -/
def StrsR (w : World) (A : Option Addr) (l : List ByteArray) : Prop := ∀ (i : Nat) (x : ByteArray), l[i]? = some x → ∃ ad, A = some ad ∧ w.cell? (ad.add i) = some (.string x)
theorem row_readS {v : Value} {e : TypeId} {Γ : List Asn} (h : Ok w S (Row v e 1 l.length (strsV l) :: Γ)) : ∃ A c, v = .slice A l.length c ∧ StrsR w A l := by
  have ho := h.rowOwns
  rcases ho.2 with ⟨rfl, hn⟩ | ⟨g, cap, cur, rfl, _⟩
  · refine ⟨none, 0, by rw [hn], fun i x hx => ?_⟩
    have := (List.getElem?_eq_some_iff.1 hx).1
    omega
  · refine ⟨_, cap, rfl, fun i x hx => ⟨_, rfl, ho.cells (g := g) rfl i _ (by simp [strsV, hx])⟩⟩
/-- The names read so; their slice lies at place 0 of the struct. -/
def AtomsR (w : World) (p : Nat) (l : List ByteArray) : Prop := (∃ A c, w.cell? ⟨p, 0, none⟩ = some (.slice A l.length c) ∧ StrsR w A l) ∧ Names l
theorem Ok.atomsAR (h : Ok w S (AtomsA p l :: Γ)) : AtomsR w p l := by
  obtain ⟨v, b, h1, hw⟩ := h.atomsA
  obtain ⟨A, c, rfl, hr⟩ := row_readS h1.p1
  exact ⟨⟨A, c, h1.ptCell 0 _ rfl, hr⟩, hw⟩
theorem Ok.atomsBR (h : Ok w S (AtomsB p l :: Γ)) : AtomsR w p l := by
  obtain ⟨v, h1, hw⟩ := h.atomsB
  obtain ⟨A, c, rfl, hr⟩ := row_readS h1.p1
  exact ⟨⟨A, c, h1.ptCell 0 _ rfl, hr⟩, hw⟩
theorem AtomsR.of_heap {w w' : World} (h : AtomsR w p l) (hw : ∀ b, b < w.heap.size → w'.heap[b]? = w.heap[b]?) : AtomsR w' p l := by
  have hc : ∀ a v, w.cell? a = some v → w'.cell? a = some v := fun a v ha => (World.cell?_of_block (w := w) (hw a.block (World.block_lt_of_cell? w a ha))).trans ha
  obtain ⟨⟨A, c, h1, h2⟩, h4⟩ := h
  refine ⟨⟨A, c, hc _ _ h1, fun i x hx => ?_⟩, h4⟩
  obtain ⟨ad, e, h5⟩ := h2 i x hx
  exact ⟨ad, e, hc _ _ h5⟩
theorem AtomsR.drewN {w : World} (h : AtomsR w p l) (n : Nat) : AtomsR (w.drewN n) p l := h
end
theorem info9 : (Try.prog.info? 9).map (fun i => (i.zero, i.size, i.bytes)) = some (some (.string ⟨#[]⟩), 1, 16) := by kernel_rfl
theorem zero3 (w : World) : (zeroValue 3).run Try.prog w = .ok (.int .i64 0) w := by kernel_rfl

section
variable {w : World} {p : Nat} {l : List ByteArray}
set_option maxRecDepth 100000 in
set_option maxHeartbeats 400000 in
theorem alen_spec (h : AtomsR w p l) : Calls Try.prog 41 #[.pointer (some ⟨p, 0, none⟩)] w fun e w' => e = .returned (.int .i64 l.length) ∧ w' = w := by
  obtain ⟨⟨A, c, h1, h2⟩, h4⟩ := h
  clear h2 h4
  go_enter Try.func41, Try.ntmps41
  go_wp2
  go_ret
  exact ⟨rfl, rfl⟩
set_option maxRecDepth 100000 in
set_option maxHeartbeats 400000 in
theorem name_in (h : AtomsR w p l) {i' : Int} (i : Nat) (x : ByteArray) (hi : i' = i) (hx : l[i]? = some x) :
    Calls Try.prog 161 #[.pointer (some ⟨p, 0, none⟩), .int .i64 i'] w fun e w' => e = .returned (.tuple #[.string x, .bool true]) ∧ w' = w := by
  subst hi
  have hl := alen_spec h
  have HL := Lib.hid hl; clear hl
  obtain ⟨⟨A, c, h1, h2⟩, h4⟩ := h
  obtain ⟨ad, rfl, hc⟩ := h2 i x hx
  have hi := (List.getElem?_eq_some_iff.1 hx).1
  have hn : l.length ≤ 4096 := h4.1
  clear h2 h4 hx
  go_enter Try.func161, Try.ntmps161
  go_wp2_with (go_at_call 41; refine HL.out.mono ?_; rintro e w' ⟨rfl, rfl⟩)
  go_ret2
  exact ⟨rfl, rfl⟩
set_option maxRecDepth 100000 in
set_option maxHeartbeats 400000 in
theorem name_out (h : AtomsR w p l) (i : Int) (hi : i < 0 ∨ (l.length : Int) ≤ i) :
    Calls Try.prog 161 #[.pointer (some ⟨p, 0, none⟩), .int .i64 i] w fun e w' => e = .returned (.tuple #[.string ⟨#[]⟩, .bool false]) ∧ w' = w := by
  have hl := alen_spec h
  have HL := Lib.hid hl; clear hl
  obtain ⟨⟨A, c, h1, h2⟩, h4⟩ := h
  clear h2 h4
  by_cases h0 : i < 0
  · clear hi
    go_enter Try.func161, Try.ntmps161
    go_wp2_with (go_at_call 41; refine HL.out.mono ?_; rintro e w' ⟨rfl, rfl⟩)
    go_ret2
    exact ⟨rfl, rfl⟩
  · have hi : (l.length : Int) ≤ i := by omega
    go_enter Try.func161, Try.ntmps161
    go_wp2_with (go_at_call 41; refine HL.out.mono ?_; rintro e w' ⟨rfl, rfl⟩)
    go_ret2
    exact ⟨rfl, rfl⟩
end
set_option maxRecDepth 100000 in
set_option maxHeartbeats 400000 in
theorem anew_spec {w : World} {S : Blk} {Γ : List Asn} (h : Ok w S Γ) :
    Calls Try.prog 27 #[] w fun e w' => ∃ p, e = .returned (.pointer (some ⟨p, 0, none⟩)) ∧ To w S w' S (AtomsA p names0 :: Γ) := by
  have H := Lib.hid h.to; clear h
  have hmm := @run_makeMap Try.prog
  go_enter Try.func27, Try.ntmps27
  go_wp2_with (refine wpList_mapInsert (val := fun n : Nat => Value.int .i64 (n : Int)) rfl (.tmp 2) (.const (.string ⟨#[91, 93]⟩)) (.const (.int .i64 0)) 122 rfl (((H.out.allocPt #[.string ⟨#[91, 93]⟩, .string ⟨#[46]⟩] 9).re fun k => k.ptRow 1 2 rfl (by simp [maxLen])).allocMap' (enc := Value.string) (val := fun n : Nat => Value.int .i64 (n : Int)) (w.heap.size + 1) (by simp)) key_string Try.underlying122 Try.underlying9 ⟨#[91, 93]⟩ (0 : Nat) rfl rfl rfl ?_)
  intro w1 H1
  have H1 := Lib.hid H1
  go_wp2_with (refine wpList_mapInsert (val := fun n : Nat => Value.int .i64 (n : Int)) rfl (.tmp 2) (.const (.string ⟨#[46]⟩)) (.const (.int .i64 1)) 122 rfl H1.out key_string Try.underlying122 Try.underlying9 ⟨#[46]⟩ (1 : Nat) rfl rfl rfl ?_)
  intro w2 H2
  have H2 := Lib.hid H2
  go_wp2
  go_ret
  refine ⟨_, rfl, (H2.out.allocPt _ _).re fun k => Ok.atomsA_mk (l := names0) (k.p2.p1) ⟨by decide, by decide⟩⟩
set_option maxRecDepth 100000 in
set_option maxHeartbeats 400000 in
theorem ranew_spec {w : World} {S : Blk} {Γ : List Asn} (h : Ok w S Γ) :
    Calls Try.prog 38 #[] w fun e w' => ∃ p, e = .returned (.pointer (some ⟨p, 0, none⟩)) ∧ To w S w' S (AtomsB p names0 :: Γ) := by
  have H := Lib.hid h.to; clear h
  go_enter Try.func38, Try.ntmps38
  go_wp2
  go_ret
  refine ⟨_, rfl, ?_⟩
  have H1 := ((H.out.allocPt #[.string ⟨#[91, 93]⟩, .string ⟨#[46]⟩] 9).re fun k => k.ptRow 1 2 rfl (by simp [maxLen]))
  exact (H1.allocPt' _ _ (w.heap.size + 1) (by simp)).re fun k => Ok.atomsB_mk (l := names0) k ⟨by decide, by decide⟩

/-- What Number does to the names: the number and the error that it answers, the names behind it. -/
def number (l : List ByteArray) (s : ByteArray) : (Nat × Nat) × List ByteArray :=
  if 200 < s.size then ((0, 3), l) else match place l s 0 with
    | some i => ((i, 0), l)
    | none => if l.length = 4096 then ((0, 8), l) else ((l.length, 0), l ++ [s])
theorem Names.snoc {l : List ByteArray} (h : Names l) {s : ByteArray} (hs : s.size ≤ 200) (hl : l.length < 4096) : Names (l ++ [s]) := by
  refine ⟨by simp; omega, fun y hy => ?_⟩
  rcases List.mem_append.1 hy with hy | hy
  · exact h.2 y hy
  · simp at hy; subst hy; exact hs
set_option maxRecDepth 100000 in
set_option maxHeartbeats 400000 in
theorem number_spec {w : World} {S : Blk} {Γ : List Asn} {p : Nat} {l : List ByteArray} (h : Ok w S (AtomsA p l :: Γ)) (s : ByteArray) (hs0 : s.size ≤ 140737488351232) :
    Calls Try.prog 46 #[.pointer (some ⟨p, 0, none⟩), .string s] w fun e w' => e = .returned (.tuple #[.int .i64 (number l s).1.1, .int .i64 (number l s).1.2]) ∧ To w S w' S (AtomsA p (number l s).2 :: Γ) := by
  by_cases hs : 200 < s.size
  · have hn : number l s = ((0, 3), l) := by unfold number; rw [if_pos hs]
    rw [hn]
    have H := Lib.hid h; clear h hn
    go_enter Try.func46, Try.ntmps46
    go_wp2
    go_ret2
    exact ⟨rfl, H.out.to⟩
  have hs' : s.size ≤ 200 := by omega
  obtain ⟨v, b, hv, hw⟩ := h.atomsA
  obtain ⟨A, c, rfl, _⟩ := row_readS hv.p1
  have h0 : w.cell? ⟨p, 0, none⟩ = some (.slice A l.length c) := hv.ptCell 0 _ rfl
  have h1 : w.cell? ⟨p, 1, none⟩ = some (.map (some b)) := hv.ptCell 1 _ rfl
  have hlk := hv.p2.look (P := Try.prog) key_string Try.underlying122 Try.underlying9 zero3 s true 0
  rw [lk_tableOf] at hlk
  have hlen : l.length ≤ 4096 := hw.1
  cases hp : place l s 0 with
  | some i =>
    have hn : number l s = ((i, 0), l) := by unfold number; rw [if_neg hs, hp]
    rw [hn]
    rw [hp] at hlk
    have hlk' : (Instr.lookup 122 (.map (some b)) (.string s) true).run Try.prog w = .ok (.tuple #[.int .i64 i, .bool true]) w := hlk
    have H := Lib.hid h; clear h hn hp hlk hv hw
    go_enter Try.func46, Try.ntmps46
    go_wp2
    go_ret2
    exact ⟨rfl, H.out.to⟩
  | none =>
    rw [hp] at hlk
    have hlk' : (Instr.lookup 122 (.map (some b)) (.string s) true).run Try.prog w = .ok (.tuple #[.int .i64 0, .bool false]) w := hlk
    by_cases hl : l.length = 4096
    · have hn : number l s = ((0, 8), l) := by unfold number; rw [if_neg hs, hp]; simp [hl]
      rw [hn]
      have hb : ((l.length : Int) == 4096) = true := by simp [hl]
      have H := Lib.hid h; clear h hn hp hlk hv hw hl
      go_enter Try.func46, Try.ntmps46
      go_wp2
      go_ret2
      exact ⟨rfl, H.out.to⟩
    · have hn : number l s = ((l.length, 0), l ++ [s]) := by unfold number; rw [if_neg hs, hp]; simp [hl]
      rw [hn]
      have hb : ((l.length : Int) == 4096) = false := by simp; omega
      have hl' : l.length < 4096 := by omega
      have hup := up_tableOf s l 0 hp
      have HUP := Lib.hid hup; clear hup
      have H := Lib.hid hv.to.p2; clear h hn hp hlk hv hl
      have HW := Lib.hid hw; clear hw
      go_enter Try.func46, Try.ntmps46
      obtain ⟨w1, hr, hT⟩ := H.out.drew.ok.mapPut (P := Try.prog) key_string Try.underlying122 Try.underlying9 s l.length
      have hrun : (Instr.mapUpdate 122 (.map (some b)) (.string s) (.int .i64 (l.length : Int))).run Try.prog w.drew = .ok () w1 := hr
      have hT2 := H.out.drew.trans hT
      rw [show up (tableOf l 0) s l.length = tableOf (l ++ [s]) 0 from by have := HUP.out; rwa [Nat.zero_add] at this] at hT2
      have k0 : w1.cell? ⟨p, 0, none⟩ = some (.slice A l.length c) := hT2.ok.p1.ptCell 0 _ rfl
      have k1 : w1.cell? ⟨p, 1, none⟩ = some (.map (some b)) := hT2.ok.p1.ptCell 1 _ rfl
      have HT := Lib.hid hT2; clear hT hT2 hr
      go_wp2_with fail
      go_region_held3 (fun W => W.cell? ⟨p, 0, none⟩ = some (.slice A l.length c) ∧ W.cell? ⟨p, 1, none⟩ = some (.map (some b))) (go_keep) (fail)
      clear hrun h0 h1 hlk'
      have HR := Lib.hid HT.out.p2; clear HT
      go_wp2_with (at_builtin; refine wpList_append_new rfl (.tmp 44) (.tmp 46) 55 9 (.string ⟨#[]⟩) 1 16 rfl Try.underlying55 info9 rfl (by decide) (by decide) HR.out rfl #[.string s] rfl rfl (by simp [Value.oneCell']) (by omega) ?_)
      intro A' c' W' H2
      have hp := H2.p2
      have h1 : W'.cell? ⟨p, 0, none⟩ = some (.slice A l.length c) := hp.ok.ptCell 0 _ rfl
      have h2 := hp.ok.ptFree 0
      have HP := Lib.hid hp; clear hp H2 k0 k1
      go_wp2
      go_ret2
      refine ⟨rfl, ?_⟩
      have H3 := HP.out.ptSet 0 (.slice A' (l.length + 1) c')
      refine H3.re fun k => Ok.atomsA_mk (v := .slice A' (l.length + 1) c') (b := b) ?_ (HW.out.snoc hs' hl')
      simpa [strsV] using k

theorem place_drop (l : List ByteArray) (s : ByteArray) (k i : Nat) (hk : k < l.length) : place (l.drop k) s i = if s = l[k] then some i else place (l.drop (k + 1)) s (i + 1) := by
  rw [List.drop_eq_getElem_cons hk]
  rfl
theorem toList_beq (a b : ByteArray) : (a.toList == b.toList) = decide (a = b) := by
  by_cases h : a = b
  · subst h; simp
  · have : a.toList ≠ b.toList := by
      intro e
      rw [ByteArray.toList_eq, ByteArray.toList_eq] at e
      apply h
      obtain ⟨a⟩ := a
      obtain ⟨b⟩ := b
      simp only at e
      rw [Array.toList_inj.1 e]
    simp [h, this]
/-- What Find answers. -/
def found (l : List ByteArray) (s : ByteArray) : Nat × Bool := match place l s 0 with | some i => (i, true) | none => (0, false)
set_option maxRecDepth 100000 in
set_option maxHeartbeats 400000 in
theorem find_spec {w : World} {p : Nat} {l : List ByteArray} (h : AtomsR w p l) (s : ByteArray) :
    Calls Try.prog 94 #[.pointer (some ⟨p, 0, none⟩), .string s] w fun e w' => e = .returned (.tuple #[.int .i64 (found l s).1, .bool (found l s).2]) ∧ w' = w := by
  obtain ⟨⟨A, c, h1, h2⟩, h4⟩ := h
  have hn : l.length ≤ 4096 := h4.1
  have H2 := Lib.hid h2; clear h2 h4
  go_enter Try.func94, Try.ntmps94
  go_wp2
  go_loop [13] (fun k => ∃ kn : Nat, k = .int .i64 kn ∧ kn ≤ l.length ∧ place l s 0 = place (l.drop kn) s kn) (fun k => l.length - (intOf k).toNat)
  case atStart => exact ⟨0, rfl, Nat.zero_le _, rfl⟩
  case round =>
    obtain ⟨k, rfl, hk, hq⟩ := hrel
    by_cases hlt : k < l.length
    · rw [place_drop l s k k hlt] at hq
      obtain ⟨ad, rfl, hx⟩ := H2.out k l[k] (List.getElem?_eq_getElem hlt)
      have hb := toList_beq l[k] s
      generalize l[k] = x at hx hq hb
      by_cases he : s = x
      · rw [if_pos he] at hq
        have hb' : (x.toList == s.toList) = true := by rw [hb]; simp [he]
        have hf : found l s = (k, true) := by unfold found; rw [hq]
        have HF := Lib.hid hf
        clear he hb hq hf
        go_wp2
        go_ret2
        exact ⟨by rw [HF.out]; rfl, rfl⟩
      · rw [if_neg he] at hq
        have hb' : (x.toList == s.toList) = false := by rw [hb]; simp; exact fun e => he e.symm
        have HQ := Lib.hid hq
        clear he hb hq
        go_wp2
        go_round
        case rel => exact ⟨k + 1, by go_num, by omega, HQ.out⟩
        case measure => simp [intOf]; omega
    · have hk' : k = l.length := by omega
      have hf : found l s = (0, false) := by unfold found; rw [hq, hk']; simp [place]
      have HF := Lib.hid hf
      clear hf hq hk'
      go_wp2
      go_ret2
      exact ⟨by rw [HF.out]; rfl, rfl⟩
set_option maxRecDepth 100000 in
set_option maxHeartbeats 400000 in
theorem rnumber_spec {w : World} {S : Blk} {Γ : List Asn} {p : Nat} {l : List ByteArray} (h : Ok w S (AtomsB p l :: Γ)) (s : ByteArray) (hs0 : s.size ≤ 140737488351232) :
    Calls Try.prog 47 #[.pointer (some ⟨p, 0, none⟩), .string s] w fun e w' => e = .returned (.tuple #[.int .i64 (number l s).1.1, .int .i64 (number l s).1.2]) ∧ To w S w' S (AtomsB p (number l s).2 :: Γ) := by
  by_cases hs : 200 < s.size
  · have hn : number l s = ((0, 3), l) := by unfold number; rw [if_pos hs]
    rw [hn]
    have H := Lib.hid h; clear h hn
    go_enter Try.func47, Try.ntmps47
    go_wp2
    go_ret2
    exact ⟨rfl, H.out.to⟩
  have hs' : s.size ≤ 200 := by omega
  have hf := find_spec h.atomsBR s
  obtain ⟨v, hv, hw⟩ := h.atomsB
  obtain ⟨A, c, rfl, _⟩ := row_readS hv.p1
  have h0 : w.cell? ⟨p, 0, none⟩ = some (.slice A l.length c) := hv.ptCell 0 _ rfl
  have hlen : l.length ≤ 4096 := hw.1
  unfold found at hf
  cases hp : place l s 0 with
  | some i =>
    have hn : number l s = ((i, 0), l) := by unfold number; rw [if_neg hs, hp]
    rw [hn]
    rw [hp] at hf
    have HF := Lib.hid hf; clear hf
    have H := Lib.hid h; clear h hn hp hv hw
    go_enter Try.func47, Try.ntmps47
    go_wp2_with (go_at_call 94; refine HF.out.mono ?_; rintro e w' ⟨rfl, rfl⟩)
    go_ret2
    exact ⟨rfl, H.out.to⟩
  | none =>
    rw [hp] at hf
    have HF := Lib.hid hf; clear hf
    by_cases hl : l.length = 4096
    · have hn : number l s = ((0, 8), l) := by unfold number; rw [if_neg hs, hp]; simp [hl]
      rw [hn]
      have hb : decide ((4096 : Int) ≤ l.length) = true := by simp; omega
      have H := Lib.hid h; clear h hn hp hv hw hl
      go_enter Try.func47, Try.ntmps47
      go_wp2_with (go_at_call 94; refine HF.out.mono ?_; rintro e w' ⟨rfl, rfl⟩)
      go_ret2
      exact ⟨rfl, H.out.to⟩
    · have hn : number l s = ((l.length, 0), l ++ [s]) := by unfold number; rw [if_neg hs, hp]; simp [hl]
      rw [hn]
      have hl' : l.length < 4096 := by omega
      have H := Lib.hid hv.to.p1; clear h hn hp hv hl
      have HW := Lib.hid hw; clear hw
      go_enter Try.func47, Try.ntmps47
      go_wp2_with (first | (go_at_call 94; refine HF.out.mono ?_; rintro e w' ⟨rfl, rfl⟩) | (at_builtin; refine wpList_append_new rfl (.tmp 29) (.tmp 31) 55 9 (.string ⟨#[]⟩) 1 16 rfl Try.underlying55 info9 rfl (by decide) (by decide) H.out rfl #[.string s] rfl rfl (by simp [Value.oneCell']) (by omega) ?_))
      intro A' c' W' H2
      have hp := H2.p1
      have h1 : W'.cell? ⟨p, 0, none⟩ = some (.slice A l.length c) := hp.ok.ptCell 0 _ rfl
      have h2 := hp.ok.ptFree 0
      have HP := Lib.hid hp; clear hp H2 h0
      go_wp2
      go_ret2
      refine ⟨rfl, ?_⟩
      have H3 := HP.out.ptSet 0 (.slice A' (l.length + 1) c')
      refine H3.re fun k => Ok.atomsB_mk (v := .slice A' (l.length + 1) c') ?_ (HW.out.snoc hs' hl')
      simpa [strsV] using k
end Go.Proofs.Ytceahdlcbiialaa
