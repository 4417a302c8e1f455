/- The reference's Rename; Variant, of variants. No variable has two cells. No condition. -/
import Derived.Test.YtceahdlcbiialaaF6M1
import Derived.Test.YtceahdlcbiialaaF5M21
import Derived.Test.YtceahdlcbiialaaF5M17
import Derived.Test.YtceahdlcbiialaaF5M18
set_option linter.unusedVariables false
set_option linter.unusedSimpArgs false
namespace Go.Proofs.Ytceahdlcbiialaa
open Go.RowKit

theorem ren_nm {t : Tm} : mapT (nmV (atV 0 (varsT t []))) t = nm (varsT t []) t := by
  refine mapT_congr (P := (· ∈ varsT t [])) (fun n hn => ?_) t (allV_own t [])
  obtain ⟨i, hi, -⟩ := pos_mem n _ hn
  unfold nmV noOf
  rw [lk_atV, hi]
  simp
set_option maxRecDepth 100000 in
set_option maxHeartbeats 2000000 in
theorem Rename_spec {w : World} {S : Blk} {Γ : List Asn} {cs : List Value} {t : Tm} (hO : Ok w S Γ) (hT : TmC w S cs t) :
    Calls Try.prog 52 #[.agg cs.toArray] w fun e w' => ∃ (c : Tc) (S' : Blk), c.t = renT t ∧ e = .returned (.agg c.six.toArray) ∧ To w S w' S' Γ ∧ TmC w' S' c.six c.t := by
  obtain ⟨A, cap, rfl⟩ := hT.form0
  have h1 := (hO.to.allocPt' #[.int .i64 t.k, .string t.s, .int .i64 t.n, .int .u64 t.re, .int .u64 t.im, .slice A t.xs.length cap] 25 w.heap.size rfl).allocPt' zero6 25 (w.heap.size + 1) (by simp)
  have hT1 := hT.to h1
  have hm := May_spec h1.ok hT1
  have HM := Lib.hid hm
  have H1 := Lib.hid h1
  have HT1 := Lib.hid hT1
  clear hm h1 hT1 hO hT
  by_cases h0 : May t = 0
  · have hPT : renT t = mapT (nmV (atV 0 (varsT t []))) t := by unfold renT; rw [if_neg (by simp [h0]), ren_nm]
    rw [hPT]
    rw [h0] at HM
    have H0 := Lib.hid h0
    clear hPT h0
    go_enter Try.func52, Try.ntmps52
    go_wp2_with fail
    refine HM.out.mono ?_
    rintro e w2 ⟨rfl, h2⟩
    have h2b := H1.out.trans h2
    obtain ⟨⟨x0, x1, x2, x3, x4, x5⟩, -, x6⟩ := h2b.p1.ok.pt6
    have hr := renFrom_spec h2b.ok (HT1.out.to h2) H0.out 0 (by omega) rfl
    have HR := Lib.hid hr
    have H2 := Lib.hid h2b
    clear hr h2b h2 H1 HM HT1
    go_wp2_with fail
    refine HR.out.mono ?_
    rintro e w3 ⟨c, S3, hc, rfl, h3, hT3⟩
    obtain ⟨⟨z0, z1, z2, z3, z4, z5⟩, ⟨y0, y1, y2, y3, y4, y5⟩, y6⟩ := h3.ok.pt6
    have h4 := (H2.out.trans h3).ptSet6 (.int .i64 c.t.k) (.string c.t.s) (.int .i64 c.t.n) (.int .u64 c.t.re) (.int .u64 c.t.im) (.slice c.A c.t.xs.length c.c)
    have hT4 := hT3.to (h3.ok.to.ptSet6 (.int .i64 c.t.k) (.string c.t.s) (.int .i64 c.t.n) (.int .u64 c.t.re) (.int .u64 c.t.im) (.slice c.A c.t.xs.length c.c))
    have H4 := Lib.hid h4.drop.drop
    have HT4 := Lib.hid hT4
    have HC := Lib.hid hc
    clear h3 hT3 h4 hT4 hc H2 HR x0 x1 x2 x3 x4 x5 x6
    go_wp2
    refine bodyPost_ret (v := .agg c.six.toArray) (by simp [results, Try.results52, *, go_sem]) rfl ?_
    exact ⟨c, S3, HC.out, rfl, H4.out, HT4.out⟩
  · have hPT : renT t = tNone := by unfold renT; rw [if_pos h0]
    rw [hPT]
    have hb : ((May t : Int) != 0) = true := by simp [bne]; omega
    clear hPT h0
    go_enter Try.func52, Try.ntmps52
    go_wp2_with fail
    refine HM.out.mono ?_
    rintro e w2 ⟨rfl, h2⟩
    obtain ⟨⟨z0, z1, z2, z3, z4, z5⟩, ⟨y0, y1, y2, y3, y4, y5⟩, y6⟩ := h2.ok.pt6
    have H2 := Lib.hid ((H1.out.trans h2).ptSet6 (.int .i64 0) (.string ⟨#[]⟩) (.int .i64 0) (.int .u64 0) (.int .u64 0) (.slice none 0 0)).drop.drop
    clear h2
    go_wp2
    refine bodyPost_ret (v := .agg zero6) (by simp [results, Try.results52, *, go_sem]) rfl ?_
    exact ⟨⟨tNone, none, 0⟩, S, rfl, rfl, H2.out, none_tm⟩
#print axioms Rename_spec
set_option maxRecDepth 100000 in
set_option maxHeartbeats 4000000 in
theorem variant_spec {w : World} {S : Blk} {Γ : List Asn} {cs cs' : List Value} {a b : Tm} (hO : Ok w S Γ) (hT : TmC w S cs a) (hT' : TmC w S cs' b) (hv : VariantT a b = true) :
    Calls Try.prog 43 #[.agg cs.toArray, .agg cs'.toArray] w fun e w' => e = .returned (.bool true) ∧ To w S w' S Γ := by
  obtain ⟨A, cap, rfl⟩ := hT.form0
  obtain ⟨A', cap', rfl⟩ := hT'.form0
  simp only [VariantT, Bool.and_eq_true, decide_eq_true_eq] at hv
  obtain ⟨ha0, hb0, hlk⟩ := hv
  have h1 := (hO.to.allocPt' #[.int .i64 a.k, .string a.s, .int .i64 a.n, .int .u64 a.re, .int .u64 a.im, .slice A a.xs.length cap] 25 w.heap.size rfl).allocPt' #[.int .i64 b.k, .string b.s, .int .i64 b.n, .int .u64 b.re, .int .u64 b.im, .slice A' b.xs.length cap'] 25 (w.heap.size + 1) (by simp)
  have hma := May_spec h1.drew.ok (hT.to h1.drew)
  rw [ha0] at hma
  have HMA := Lib.hid hma
  have HTA := Lib.hid hT
  have HTB := Lib.hid hT'
  have HB0 := Lib.hid hb0
  have HLK := Lib.hid hlk
  have H1 := Lib.hid h1
  obtain ⟨⟨y0, y1, y2, y3, y4, y5⟩, -, y6⟩ := h1.ok.pt6
  obtain ⟨⟨x0, x1, x2, x3, x4, x5⟩, -, x6⟩ := h1.p1.ok.pt6
  clear hma hT hT' hb0 ha0 hlk h1 hO
  go_enter Try.func43, Try.ntmps43
  go_wp2_with fail
  refine wp_region_held_drew (S := fun X => X.cell? ⟨w.heap.size, 0, none⟩ = some (.int .i64 a.k) ∧ X.cell? ⟨w.heap.size, 1, none⟩ = some (.string a.s) ∧ X.cell? ⟨w.heap.size, 2, none⟩ = some (.int .i64 a.n) ∧ X.cell? ⟨w.heap.size, 3, none⟩ = some (.int .u64 a.re) ∧ X.cell? ⟨w.heap.size, 4, none⟩ = some (.int .u64 a.im) ∧ X.cell? ⟨w.heap.size, 5, none⟩ = some (.slice A a.xs.length cap) ∧ X.cell? ⟨w.heap.size + 1, 0, none⟩ = some (.int .i64 b.k) ∧ X.cell? ⟨w.heap.size + 1, 1, none⟩ = some (.string b.s) ∧ X.cell? ⟨w.heap.size + 1, 2, none⟩ = some (.int .i64 b.n) ∧ X.cell? ⟨w.heap.size + 1, 3, none⟩ = some (.int .u64 b.re) ∧ X.cell? ⟨w.heap.size + 1, 4, none⟩ = some (.int .u64 b.im) ∧ X.cell? ⟨w.heap.size + 1, 5, none⟩ = some (.slice A' b.xs.length cap')) (by kernel_rfl) (⟨x0, x1, x2, x3, x4, x5, y0, y1, y2, y3, y4, y5⟩) (fun hS => ?_)
  refine takeH (v := ?_) 0 5 rfl rfl (by kernel_rfl) (by kernel_rfl) (by kernel_rfl) (fun _ _ _ h => h) (by rfl) hS ?_ ?_
  rotate_left
  · intro X hX; obtain ⟨x0, x1, x2, x3, x4, x5, y0, y1, y2, y3, y4, y5⟩ := hX; go_simp; first | done | rfl
  simp only [List.setIfInBounds_toArray, List.set_cons_zero, List.set_cons_succ]
  refine wpAnyH_ready (rs := [1]) (by kernel_rfl) (by simp) ?_
  refine AllReadyH.cons rfl (fun K hK => ?_) AllReadyH.nil
  go_simp
  go_at_call 24
  refine HMA.out.mono ?_
  rintro e w2 ⟨rfl, h2⟩
  have h2b := H1.out.drew.trans h2
  obtain ⟨⟨y0, y1, y2, y3, y4, y5⟩, -, y6⟩ := h2b.ok.pt6; obtain ⟨⟨x0, x1, x2, x3, x4, x5⟩, -, x6⟩ := h2b.p1.ok.pt6
  have HTA2 := Lib.hid (HTA.out.to h2b)
  have HTB2 := Lib.hid (HTB.out.to h2b)
  have hmb := May_spec h2b.ok HTB2.out
  rw [HB0.out] at hmb
  have HMB := Lib.hid hmb
  have H2 := Lib.hid h2b
  clear hmb h2b h2
  go_wp2
  refine Shut.out hK _ _ (⟨x0, x1, x2, x3, x4, x5, y0, y1, y2, y3, y4, y5⟩) (fun hS => ?_)
  clear hK K
  try simp only [Act.put, List.setIfInBounds_toArray, List.set_cons_zero, List.set_cons_succ]
  refine takeH (v := ?_) 2 7 rfl rfl (by kernel_rfl) (by kernel_rfl) (by kernel_rfl) (fun _ _ _ h => h) (by rfl) hS ?_ ?_
  rotate_left
  · intro X hX; obtain ⟨x0, x1, x2, x3, x4, x5, y0, y1, y2, y3, y4, y5⟩ := hX; go_simp; first | done | rfl
  simp only [List.setIfInBounds_toArray, List.set_cons_zero, List.set_cons_succ]
  refine takeH (v := ?_) 3 8 rfl rfl (by kernel_rfl) (by kernel_rfl) (by kernel_rfl) (fun _ _ _ h => h) (by rfl) hS ?_ ?_
  rotate_left
  · intro X hX; obtain ⟨x0, x1, x2, x3, x4, x5, y0, y1, y2, y3, y4, y5⟩ := hX; go_simp; first | done | rfl
  simp only [List.setIfInBounds_toArray, List.set_cons_zero, List.set_cons_succ]
  refine takeH (v := ?_) 4 9 rfl rfl (by kernel_rfl) (by kernel_rfl) (by kernel_rfl) (fun _ _ _ h => h) (by rfl) hS ?_ ?_
  rotate_left
  · intro X hX; obtain ⟨x0, x1, x2, x3, x4, x5, y0, y1, y2, y3, y4, y5⟩ := hX; go_simp; first | done | rfl
  simp only [List.setIfInBounds_toArray, List.set_cons_zero, List.set_cons_succ]
  refine wpAnyH_ready (rs := [5]) (by kernel_rfl) (by simp) ?_
  refine AllReadyH.cons rfl (fun K hK => ?_) AllReadyH.nil
  go_simp
  go_at_call 24
  refine HMB.out.mono ?_
  rintro e w3 ⟨rfl, h3⟩
  have h3b := H2.out.trans h3
  obtain ⟨⟨y0, y1, y2, y3, y4, y5⟩, -, y6⟩ := h3b.ok.pt6; obtain ⟨⟨x0, x1, x2, x3, x4, x5⟩, -, x6⟩ := h3b.p1.ok.pt6
  have hra := Rename_spec h3b.ok (HTA2.out.to h3)
  have HRA := Lib.hid hra
  have HTB3 := Lib.hid (HTB2.out.to h3)
  have H3 := Lib.hid h3b
  clear hra h3b h3
  go_wp2
  refine Shut.out hK _ _ (⟨x0, x1, x2, x3, x4, x5, y0, y1, y2, y3, y4, y5⟩) (fun hS => ?_)
  clear hK K
  try simp only [Act.put, List.setIfInBounds_toArray, List.set_cons_zero, List.set_cons_succ]
  refine takeH (v := ?_) 6 11 rfl rfl (by kernel_rfl) (by kernel_rfl) (by kernel_rfl) (fun _ _ _ h => h) (by rfl) hS ?_ ?_
  rotate_left
  · intro X hX; obtain ⟨x0, x1, x2, x3, x4, x5, y0, y1, y2, y3, y4, y5⟩ := hX; go_simp; first | done | rfl
  simp only [List.setIfInBounds_toArray, List.set_cons_zero, List.set_cons_succ]
  refine takeH (v := ?_) 7 12 rfl rfl (by kernel_rfl) (by kernel_rfl) (by kernel_rfl) (fun _ _ _ h => h) (by rfl) hS ?_ ?_
  rotate_left
  · intro X hX; obtain ⟨x0, x1, x2, x3, x4, x5, y0, y1, y2, y3, y4, y5⟩ := hX; go_simp; first | done | rfl
  simp only [List.setIfInBounds_toArray, List.set_cons_zero, List.set_cons_succ]
  refine takeH (v := ?_) 8 13 rfl rfl (by kernel_rfl) (by kernel_rfl) (by kernel_rfl) (fun _ _ _ h => h) (by rfl) hS ?_ ?_
  rotate_left
  · intro X hX; obtain ⟨x0, x1, x2, x3, x4, x5, y0, y1, y2, y3, y4, y5⟩ := hX; go_simp; first | done | rfl
  simp only [List.setIfInBounds_toArray, List.set_cons_zero, List.set_cons_succ]
  refine takeH (v := ?_) 9 14 rfl rfl (by kernel_rfl) (by kernel_rfl) (by kernel_rfl) (fun _ _ _ h => h) (by rfl) hS ?_ ?_
  rotate_left
  · intro X hX; obtain ⟨x0, x1, x2, x3, x4, x5, y0, y1, y2, y3, y4, y5⟩ := hX; go_simp; first | done | rfl
  simp only [List.setIfInBounds_toArray, List.set_cons_zero, List.set_cons_succ]
  refine takeH (v := ?_) 11 16 rfl rfl (by kernel_rfl) (by kernel_rfl) (by kernel_rfl) (fun _ _ _ h => h) (by rfl) hS ?_ ?_
  rotate_left
  · intro X hX; obtain ⟨x0, x1, x2, x3, x4, x5, y0, y1, y2, y3, y4, y5⟩ := hX; go_simp; first | done | rfl
  simp only [List.setIfInBounds_toArray, List.set_cons_zero, List.set_cons_succ]
  refine wpAnyH_ready (rs := [10]) (by kernel_rfl) (by simp) ?_
  refine AllReadyH.cons rfl (fun K hK => ?_) AllReadyH.nil
  go_simp
  go_at_call 52
  refine HRA.out.mono ?_
  rintro e w4 ⟨ta, S4, hqa, rfl, h4, hka⟩
  have h4b := H3.out.trans h4
  obtain ⟨⟨y0, y1, y2, y3, y4, y5⟩, -, y6⟩ := h4b.ok.pt6; obtain ⟨⟨x0, x1, x2, x3, x4, x5⟩, -, x6⟩ := h4b.p1.ok.pt6
  have hrb := Rename_spec h4b.ok (HTB3.out.to h4)
  have HRB := Lib.hid hrb
  have HKA := Lib.hid hka
  have HQA := Lib.hid hqa
  have H4 := Lib.hid h4b
  clear hrb h4b h4 hka hqa
  go_wp2
  refine Shut.out hK _ _ (⟨x0, x1, x2, x3, x4, x5, y0, y1, y2, y3, y4, y5⟩) (fun hS => ?_)
  clear hK K
  try simp only [Act.put, List.setIfInBounds_toArray, List.set_cons_zero, List.set_cons_succ]
  refine wpAnyH_ready (rs := [12]) (by kernel_rfl) (by simp) ?_
  refine AllReadyH.cons rfl (fun K hK => ?_) AllReadyH.nil
  go_simp
  go_at_call 52
  refine HRB.out.mono ?_
  rintro e w5 ⟨tb, S5, hqb, rfl, h5, hkb⟩
  have h5b := H4.out.trans h5
  obtain ⟨⟨y0, y1, y2, y3, y4, y5⟩, -, y6⟩ := h5b.ok.pt6; obtain ⟨⟨x0, x1, x2, x3, x4, x5⟩, -, x6⟩ := h5b.p1.ok.pt6
  have hlk := like_spec ta.t tb.t w5 S5 S5 _ _ (HKA.out.to h5) hkb
  rw [HQA.out, hqb, HLK.out] at hlk
  have HL := Lib.hid hlk
  have H5 := Lib.hid h5b
  clear hlk h5b h5 hkb hqb
  go_wp2
  refine Shut.out hK _ _ (⟨x0, x1, x2, x3, x4, x5, y0, y1, y2, y3, y4, y5⟩) (fun hS => ?_)
  clear hK K
  try simp only [Act.put, List.setIfInBounds_toArray, List.set_cons_zero, List.set_cons_succ]
  refine wpAnyH_ready (rs := [13]) (by kernel_rfl) (by simp) ?_
  refine AllReadyH.cons rfl (fun K hK => ?_) AllReadyH.nil
  go_simp
  go_at_call 93
  refine HL.out.mono ?_
  rintro e w6 ⟨rfl, h6⟩
  have h6b := H5.out.below h6
  obtain ⟨⟨y0, y1, y2, y3, y4, y5⟩, -, y6⟩ := h6b.ok.pt6; obtain ⟨⟨x0, x1, x2, x3, x4, x5⟩, -, x6⟩ := h6b.p1.ok.pt6
  have H6 := Lib.hid h6b
  clear h6b h6
  go_wp2
  refine Shut.out hK _ _ (⟨x0, x1, x2, x3, x4, x5, y0, y1, y2, y3, y4, y5⟩) (fun hS => ?_)
  clear hK K
  try simp only [Act.put, List.setIfInBounds_toArray, List.set_cons_zero, List.set_cons_succ]
  refine takeH (v := ?_) 14 19 rfl rfl (by kernel_rfl) (by kernel_rfl) (by kernel_rfl) (fun _ _ _ h => h) (by rfl) hS ?_ ?_
  rotate_left
  · intro X hX; obtain ⟨x0, x1, x2, x3, x4, x5, y0, y1, y2, y3, y4, y5⟩ := hX; go_simp; first | done | rfl
  simp only [List.setIfInBounds_toArray, List.set_cons_zero, List.set_cons_succ]
  refine takeH (v := ?_) 15 4 rfl rfl (by kernel_rfl) (by kernel_rfl) (by kernel_rfl) (fun _ _ _ h => h) (by rfl) hS ?_ ?_
  rotate_left
  · intro X hX; obtain ⟨x0, x1, x2, x3, x4, x5, y0, y1, y2, y3, y4, y5⟩ := hX; go_simp; first | done | rfl
  simp only [List.setIfInBounds_toArray, List.set_cons_zero, List.set_cons_succ]
  refine wpAnyH_done (by kernel_rfl) ?_ _
  go_wp2
  go_ret
  exact ⟨rfl, H6.out.drop.drop.small⟩
#print axioms variant_spec
end Go.Proofs.Ytceahdlcbiialaa
set_option linter.unusedVariables false
set_option linter.unusedSimpArgs false
namespace Go.Proofs.Ytceahdlcbiialaa

def KN {α β : Type} (V : List (α × β)) : Prop := (V.map (·.1)).Nodup
section
variable {α β : Type} [DecidableEq α]
theorem up_keys (a : α) (b : β) : ∀ (V : List (α × β)) (x : α), x ∈ (up V a b).map (·.1) → x = a ∨ x ∈ V.map (·.1)
  | [], x, h => by simp [up] at h; exact .inl h
  | (k, y) :: V, x, h => by
    unfold up at h
    split at h
    · rename_i he
      simp only [List.map_cons, List.mem_cons] at h ⊢
      rcases h with h | h
      · exact .inr (.inl h)
      · exact .inr (.inr h)
    · simp only [List.map_cons, List.mem_cons] at h ⊢
      rcases h with h | h
      · exact .inr (.inl h)
      · rcases up_keys a b V x h with h | h
        · exact .inl h
        · exact .inr (.inr h)
theorem KN.up (a : α) (b : β) : ∀ {V : List (α × β)}, KN V → KN (Ytceahdlcbiialaa.up V a b)
  | [], _ => by simp [KN, Ytceahdlcbiialaa.up]
  | (k, y) :: V, h => by
    unfold KN at h ⊢
    simp only [List.map_cons, List.nodup_cons] at h
    unfold Ytceahdlcbiialaa.up
    split
    · simpa using h
    · rename_i hne
      simp only [List.map_cons, List.nodup_cons]
      refine ⟨fun hx => ?_, KN.up (V := V) a b h.2⟩
      rcases up_keys a b V k hx with hx | hx
      · exact hne hx.symm
      · exact h.1 hx
theorem KN.lk {V : List (α × β)} (h : KN V) {a : α} {b : β} (hm : (a, b) ∈ V) : Ytceahdlcbiialaa.lk V a = some b := by
  induction V with
  | nil => cases hm
  | cons p V ih =>
    obtain ⟨k, y⟩ := p
    unfold KN at h
    simp only [List.map_cons, List.nodup_cons] at h
    unfold Ytceahdlcbiialaa.lk
    rcases List.mem_cons.1 hm with e | hm
    · cases e; simp
    · have hne : a ≠ k := fun e => h.1 (e ▸ List.mem_map_of_mem (f := Prod.fst) hm)
      rw [if_neg hne]
      exact ih h.2 hm
end
theorem leaf_kn (most : Nat) (t : Tm) (own : Int) (st : St) (h : KN st.V) : KN (leaf most t own st).2.V := by
  have hw : ∀ tag l, KN (wordsP most tag l st).2.V := by
    intro tag l
    unfold wordsP
    split <;> exact h
  unfold leaf
  split
  · unfold varP
    split
    · exact h
    · split
      · split
        · exact h.up _ _
        · exact h
      · exact h.up _ _
  · split
    · exact h
    · split
      · split
        · exact h
        · exact hw 4 _
      · exact hw 5 _
mutual
theorem lay_kn (most : Nat) : ∀ (t : Tm) (own : Int) (st : St), KN st.V → KN (lay most t own st).2.V
  | .mk k s n re im xs, own, st, h => by
    unfold lay
    split
    · simp only
      split
      · rw [opn_V]; exact h
      · have := layL_kn most xs ((opn most s xs.length st).1.1 + 1) (opn most s xs.length st).2 (by rw [opn_V]; exact h)
        split <;> exact this
    · exact leaf_kn most _ own st h
theorem layL_kn (most : Nat) : ∀ (l : List Tm) (i : Nat) (st : St), KN st.V → KN (layL most l i st).2.V
  | [], i, st, h => h
  | t :: r, i, st, h => by
    have h1 := lay_kn most t i st h
    unfold layL
    simp only
    split
    · exact h1
    · exact layL_kn most r (i + 1) _ h1
end
theorem putP_kn {most : Nat} {t : Tm} {st : St} (h : KN st.V) : KN (putP most t st).2.V := by
  unfold putP
  split
  · exact h
  · have h2 := lay_kn most t (-1) st h
    rcases hq : lay most t (-1) st with ⟨⟨c, e⟩, s1⟩
    rw [hq] at h2
    rw [fin_tm _ _ _ _ _ _ hq]
    by_cases he : e = 0
    · subst he; simpa [fin, St.atI] using h2
    · simpa [he] using h2
end Go.Proofs.Ytceahdlcbiialaa
