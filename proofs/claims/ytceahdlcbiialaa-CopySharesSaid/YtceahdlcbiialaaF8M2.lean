/- The copier: variables, numbers. The copier: compounds. -/
import Derived.Deep.RegionLaw
import Derived.Test.YtceahdlcbiialaaF8M1
set_option linter.unusedVariables false
set_option linter.unusedSimpArgs false
namespace Go.Proofs.Ytceahdlcbiialaa
open Go.RowKit

section
variable {w : World} {S : Blk} {Γ : List Asn} {X : Src} {p m : Nat} {s : CS} {v : Value}
set_option maxRecDepth 100000 in
set_option maxHeartbeats 2000000 in
theorem cvariable_spec (hO : Ok w S (CopG X p m s v Γ)) (c : Int) (own : Int) (ho : own ≤ 1048576) (b : Bool) :
    Calls Try.prog 168 #[.pointer (some ⟨p, 0, none⟩), .agg #[.int .u64 c, .int .i64 own, .bool b]] w fun e w' => e = .returned (.tuple #[.int .u64 ((cpV X.most own s).1.1 : Int), .int .i64 ((cpV X.most own s).1.2 : Int)]) ∧ To w S w' S (CopG X p m (cpV X.most own s).2 v Γ) := by
  have hR := hO.heapAR
  have hC : s.K.length ≤ 1048576 := Nat.le_trans hR.2.2.2.1 hR.2.2.1
  have hle := hR.2.2.2.1
  have h1 := hO.to.alloc (.cells #[.int .u64 c, .int .i64 own, .bool b] 197)
  obtain ⟨⟨-, k1, -⟩, -, -⟩ := h1.ok.copPt
  have H1 := Lib.hid h1
  clear h1 hO hR
  by_cases h0 : own < 0
  case neg =>
    obtain ⟨o, rfl⟩ : ∃ o : Nat, own = o := ⟨own.toNat, by omega⟩
    have hres : cpV X.most (o : Int) s = ((mkc 0 o, 0), s) := by unfold cpV; rw [if_neg h0]; simp
    rw [hres]
    have hr := fun W => cref_spec o (by omega) W rfl
    have HR := Lib.hid hr
    have hb : decide ((o : Int) < 0) = false := by simp
    clear hres hr h0
    go_enter Try.func168, Try.ntmps168
    go_wp2_with (go_at_call 171; refine (HR.out _).mono ?_; rintro e w' ⟨rfl, hww⟩; subst w')
    go_ret2
    exact ⟨rfl, H1.out⟩
  by_cases hf : s.K.length < X.most
  · have hres : cpV X.most own s = ((mkc 0 s.K.length, 0), ⟨s.K ++ [mkc 0 s.K.length], s.M, s.n⟩) := by unfold cpV; rw [if_pos h0, if_pos hf]
    rw [hres]
    have hv := var_ok H1.out.ok hf
    have hr := fun W => cref_spec s.K.length (by omega) W rfl
    have HR := Lib.hid hr
    have HV := Lib.hid hv
    clear hres hr hv hf
    go_enter Try.func168, Try.ntmps168
    go_wp2_with (first | (go_at_call 82; refine HV.out.mono ?_; rintro e w2 ⟨rfl, h2⟩; have H2 := Lib.hid (H1.out.trans h2); clear h2) | (go_at_call 171; refine (HR.out _).mono ?_; rintro e w' ⟨rfl, hww⟩; subst w'))
    go_ret2
    exact ⟨rfl, H2.out⟩
  · have hres : cpV X.most own s = ((0, 4), s) := by unfold cpV; rw [if_pos h0, if_neg hf]
    rw [hres]
    have hv := var_full H1.out.ok.heapAR (by omega)
    have hr := fun W => cref_spec 0 (by omega) W rfl
    have HR := Lib.hid hr
    have HV := Lib.hid hv
    clear hres hr hv hf
    go_enter Try.func168, Try.ntmps168
    go_wp2_with (first | (go_at_call 82; refine HV.out.mono ?_; rintro e w2 ⟨rfl, q, h2⟩; subst h2) | (go_at_call 171; refine (HR.out _).mono ?_; rintro e w' ⟨rfl, hww⟩; subst w'))
    go_ret2
    exact ⟨rfl, H1.out.drewN q⟩
set_option maxRecDepth 100000 in
set_option maxHeartbeats 4000000 in
theorem cwords_spec (hO : Ok w S (CopG X p m s v Γ)) (c : Nat) (hc : c < 18446744073709551616) (htg : tg c ≤ 5) (l : List Nat) (hl : l.length ≤ 2) (hx : ∀ i x, l[i]? = some x → (X.src s.K)[vl c + i]? = some x) {n' : Int} (en : n' = l.length) :
    Calls Try.prog 170 #[.pointer (some ⟨p, 0, none⟩), .int .u64 (c : Int), .int .i64 n'] w fun e w' => e = .returned (.tuple #[.int .u64 ((cpW X.most (tg c) l s).1.1 : Int), .int .i64 ((cpW X.most (tg c) l s).1.2 : Int)]) ∧ To w S w' S (CopG X p m (cpW X.most (tg c) l s).2 v Γ) := by
  subst en
  have hR := hO.heapAR
  have hC : s.K.length ≤ 1048576 := Nat.le_trans hR.2.2.2.1 hR.2.2.1
  have hvl := vl_lt c hc
  obtain ⟨⟨-, k1, -⟩, -, -⟩ := hO.copPt
  have htag := tag_spec c hc
  have hlen := len_spec (hR.drewN 1)
  have hmk := fun W => make_spec (t' := (tg c : Int)) (n' := (s.K.length : Int)) (tg c) s.K.length rfl rfl (by omega) (by omega) W
  obtain ⟨r, hr⟩ : ∃ r, r = pushAll X.most l s.K := ⟨_, rfl⟩
  have hv : cpW X.most (tg c) l s = if r.1 = 0 then ((mkc (tg c) s.K.length, 0), ⟨r.2, s.M, s.n⟩) else ((0, r.1), ⟨r.2, s.M, s.n⟩) := by rw [hr]; rfl
  have HR := Lib.hid hr
  have HV := Lib.hid hv
  have HT := Lib.hid htag
  have HL := Lib.hid hlen
  have HM := Lib.hid hmk
  have HX := Lib.hid hx
  have H := Lib.hid hO
  have e8 : IntKind.u64.wrap (s.K.length : Int) = (s.K.length : Int) := IntWalk.u64_in _ ⟨by omega, by omega⟩
  clear hr hv htag hlen hmk hx hO hR
  go_enter Try.func170, Try.ntmps170
  go_wp2_with fail
  go_region_held3 (fun Y => Y.cell? ⟨p, 1, none⟩ = some (.pointer (some ⟨X.th, 0, none⟩))) (go_keep) (first | (go_at_call 126; refine (HT.out _).mono ?_; rintro e w' ⟨rfl, hww⟩; subst w') | (go_at_call 31; refine HL.out.mono ?_; rintro e w' ⟨rfl, hww⟩; subst w') | (go_at_call 118; refine (HM.out _).mono ?_; rintro e w' ⟨rfl, hww⟩; subst w'))
  clear e8
  go_wp2_with fail
  go_loopw [26] (fun i wr => ∃ (j : Nat) (K' q : List Nat), i = .int .i64 j ∧ j ≤ l.length ∧ K' = s.K ++ q ∧ To w S wr S (CopG X p m ⟨K', s.M, s.n⟩ v Γ) ∧ pushAll X.most (l.drop j) K' = r) (fun i _ => l.length - (intOf i).toNat)
  case atStart => exact ⟨0, s.K, [], rfl, Nat.zero_le _, by simp, H.out.to.drewN 1, HR.out.symm⟩
  case round =>
    obtain ⟨j, K', q, rfl, hj, hK, hT, hq⟩ := hrel
    by_cases hlt : j < l.length
    · have hxj : l[j]? = some l[j] := List.getElem?_eq_getElem hlt
      rw [pushAll_drop _ _ _ _ _ hxj] at hq
      have hsx : (X.src K')[vl c + j]? = some l[j] := by rw [hK]; exact X.ext _ _ _ _ (HX.out j _ hxj)
      have hxb : l[j] < 18446744073709551616 := (X.rd hT.ok).2.2.2.2 _ (List.mem_of_getElem? hsx)
      have hwd := word_spec (hT.drewN 1).ok c j l[j] hc hsx rfl
      obtain ⟨⟨-, k1, -⟩, -, -⟩ := hT.ok.copPt
      generalize l[j] = x at hq hxb hwd
      have hle := hT.ok.heapAR.2.2.2.1
      by_cases hf : K'.length < X.most
      · rw [if_pos hf] at hq
        have hpu := push_ok ((hT.drewN 1).drewN 1).ok x rfl hxb hf
        have HP := Lib.hid hpu
        have HW := Lib.hid hwd
        have HTT := Lib.hid ((hT.drewN 1).drewN 1)
        have HQ := Lib.hid hq
        have HK := Lib.hid hK
        clear hxj hsx hwd hpu hT hq hK
        go_wp2_with fail
        go_region_held3 (fun Y => Y.cell? ⟨p, 1, none⟩ = some (.pointer (some ⟨X.th, 0, none⟩))) (go_keep) (first | (go_at_call 167; refine HW.out.mono ?_; rintro e w' ⟨rfl, hww⟩; subst w') | (go_at_call 44; refine HP.out.mono ?_; rintro e w6 ⟨rfl, h2⟩; have k2 := h2.ok.p2.ptCell 1 _ rfl; have H2 := Lib.hid (HTT.out.trans h2); clear h2))
        go_wp2
        go_roundw
        case rel => exact ⟨j + 1, _, q ++ [x], by go_num, by omega, by rw [HK.out]; simp, H2.out, HQ.out⟩
        case measure => simp [intOf]; omega
      · rw [if_neg hf] at hq
        have hpu := push_full ((hT.drewN 1).drewN 1).ok.heapAR (x : Int) (by simp only at hle ⊢; omega)
        have HP := Lib.hid hpu
        have HW := Lib.hid hwd
        have HTT := Lib.hid ((hT.drewN 1).drewN 1)
        have HT0 := Lib.hid hT
        have HQ := Lib.hid hq
        clear hxj hsx hwd hpu hT hq hK
        go_wp2_with fail
        go_region_held3 (fun Y => Y.cell? ⟨p, 1, none⟩ = some (.pointer (some ⟨X.th, 0, none⟩))) (go_keep) (first | (go_at_call 167; refine HW.out.mono ?_; rintro e w' ⟨rfl, hww⟩; subst w') | (go_at_call 44; refine HP.out.mono ?_; rintro e w6 ⟨rfl, q6, h2⟩; subst h2; have k2 := (HTT.out.drewN q6).ok.copPt.1.2.1; have H2 := Lib.hid (HTT.out.drewN q6)))
        go_wp2
        go_ret2
        rw [HV.out, ← HQ.out]
        exact ⟨rfl, HT0.out.drewN _⟩
    · obtain rfl : j = l.length := by omega
      rw [List.drop_length] at hq
      have HTT := Lib.hid hT
      have HQ := Lib.hid hq
      clear hT hq hK
      go_wp2
      go_ret2
      rw [HV.out, ← HQ.out]
      exact ⟨rfl, HTT.out⟩
end
#print axioms cvariable_spec
#print axioms cwords_spec
end Go.Proofs.Ytceahdlcbiialaa
set_option linter.unusedVariables false
set_option linter.unusedSimpArgs false
namespace Go.Proofs.Ytceahdlcbiialaa
open Go.RowKit

def Ct.v (x : Ct) : List Value := [.int .u64 (x.c : Int), .int .i64 x.i, .bool x.done]
/-- The stack as it lies there, its top last. -/
def ctV : List Ct → List Value
  | [] => []
  | x :: r => ctV r ++ x.v
theorem ctV_length : ∀ l : List Ct, (ctV l).length = l.length * 3
  | [] => rfl
  | x :: l => by simp [ctV, ctV_length l, Ct.v]; omega
theorem info197 : (Try.prog.info? 197).map (fun i => (i.zero, i.size, i.bytes)) = some (some (.agg #[.int .u64 0, .int .i64 0, .bool false]), 3, 24) := by kernel_rfl
theorem cts_get (args : List Nat) (k i x : Nat) (h : args[i]? = some x) : (cts args k)[i]? = some ⟨x, ((k + i : Nat) : Int), false⟩ := by
  simp [cts, List.getElem?_zipIdx, h]
theorem cts_drop (args : List Nat) (k i x : Nat) (h : args[i]? = some x) : (cts args k).drop i = ⟨x, ((k + i : Nat) : Int), false⟩ :: (cts args k).drop (i + 1) := by
  have h1 := cts_get args k i x h
  have hlt := (List.getElem?_eq_some_iff.1 h1).1
  have e := (List.getElem?_eq_some_iff.1 h1).2
  rw [List.drop_eq_getElem_cons hlt, e]
/-- What fresh leaves. -/
def FreshQ (w : World) (S : Blk) (X : Src) (p m : Nat) (Γ : List Asn) (own : Int) (stk : List Ct) (fr : Fresh) (e : Ending) (w' : World) : Prop :=
  ∃ (v' : Value) (stk' : List Ct), To w S w' S (CopG X p m fr.s v' (Row v' 197 3 stk'.length (ctV stk') :: Γ)) ∧
    match fr with
    | .bad e1 _ => e1 ≠ 0 ∧ ∃ c : Nat, e = .returned (.tuple #[.int .u64 (c : Int), .int .i64 (e1 : Int)])
    | .leaf o _ => e = .returned (.tuple #[.int .u64 (o : Int), .int .i64 0]) ∧ stk' = stk
    | .comp at' args _ => e = .returned (.tuple #[.int .u64 (mkc 1 at' : Nat), .int .i64 0]) ∧ stk' = cts args (at' + 1) ++ ⟨mkc 1 at', own, true⟩ :: stk
section
variable {w : World} {S : Blk} {Γ : List Asn} {X : Src} {p m : Nat} {s : CS} {v : Value} {stk : List Ct}
set_option maxRecDepth 100000 in
set_option maxHeartbeats 4000000 in
theorem ccompound_spec (hO : Ok w S (CopG X p m s v (Row v 197 3 stk.length (ctV stk) :: Γ))) (d f : Nat) (hd : d < 18446744073709551616) (hd1 : tg d = 1) (hf : (X.src s.K)[vl d]? = some f) (hstk : stk.length ≤ 3000000) (c0 : Int) (own : Int) (b : Bool) :
    Calls Try.prog 169 #[.pointer (some ⟨p, 0, none⟩), .int .u64 (d : Int), .agg #[.int .u64 c0, .int .i64 own, .bool b]] w (FreshQ w S X p m Γ own stk (cpF X.src X.most d own s)) := by
  have hfb : f < 18446744073709551616 := (X.rd hO).2.2.2.2 _ (List.mem_of_getElem? hf)
  have hvl := vl_lt d hd
  have hCs : (X.src s.K).length ≤ 1048576 := Nat.le_trans (X.rd hO).2.2.2.1 (X.rd hO).2.2.1
  have hC : s.K.length ≤ 1048576 := Nat.le_trans hO.heapAR.2.2.2.1 hO.heapAR.2.2.1
  have h1 := hO.to.allocPt' #[.int .u64 c0, .int .i64 own, .bool b] 197 w.heap.size rfl
  have h1b := h1.p4.p4.p4.p4
  have hwd := word_spec h1b.ok d 0 f hd (by simpa using hf) rfl
  have hparts := parts_spec f hfb
  have htag := tag_spec f hfb
  have har : fArity f < 256 := by unfold fArity; split <;> omega
  have hth := fun (W : World) (hW : Ok W S (CopG X p m s v (Pt w.heap.size #[.int .u64 c0, .int .i64 own, .bool b] 197 :: Row v 197 3 stk.length (ctV stk) :: Γ))) => there_spec hW d hd (1 + fArity f) (by omega) (by omega) (k' := 1 + (fArity f : Int)) (by omega)
  have hfun : funC (X.src s.K) d = if tg f = 6 ∧ 1 ≤ fArity f ∧ fArity f ≤ 20 ∧ vl d + fArity f < (X.src s.K).length then some (f, fArity f) else none := by unfold funC; rw [hf]
  have hF : cpF X.src X.most d own s = match funC (X.src s.K) d with
    | none => .bad 2 s
    | some (f, n) => if (cpO X.most f n s).1.2 = 0 then .comp (cpO X.most f n s).1.1 (((X.src (cpO X.most f n s).2.K).drop (vl d + 1)).take n) (cpO X.most f n s).2 else .bad (cpO X.most f n s).1.2 (cpO X.most f n s).2 := by
    unfold cpF
    rw [if_neg (by omega), if_pos hd1]
    cases funC (X.src s.K) d <;> rfl
  rw [hfun] at hF
  have HW := Lib.hid hwd
  have HPA := Lib.hid hparts
  have HTG := Lib.hid htag
  have HTH := Lib.hid hth
  have HF := Lib.hid hF
  have H1 := Lib.hid h1b
  obtain ⟨FR, hFR⟩ : ∃ FR, FR = cpF X.src X.most d own s := ⟨_, rfl⟩
  rw [← hFR] at HF ⊢
  have hLX : ∀ K' q, K' = s.K ++ q → (X.src s.K).length ≤ (X.src K').length := by
    rintro K' q rfl
    by_cases h0 : (X.src s.K).length = 0
    · omega
    · have := X.ext s.K q ((X.src s.K).length - 1) _ (List.getElem?_eq_getElem (by omega))
      have := (List.getElem?_eq_some_iff.1 this).1
      omega
  have HLX := Lib.hid hLX
  clear hwd hparts htag hth hF hfun h1 h1b hO hf hFR hLX hd1
  by_cases h6 : tg f = 6
  case neg =>
    have hres : FR = .bad 2 s := by rw [HF.out, if_neg (fun h => h6 h.1)]
    rw [hres]
    have hb : ((tg f : Int) != 6) = true := by simp [bne]; omega
    clear hres h6 HF HTH
    go_enter Try.func169, Try.ntmps169
    go_wp2_with (first | (go_at_call 167; refine HW.out.mono ?_; rintro e w' ⟨rfl, hww⟩; subst w') | (go_at_call 146; refine (HPA.out _).mono ?_; rintro e w' ⟨rfl, hww⟩; subst w') | (go_at_call 126; refine (HTG.out _).mono ?_; rintro e w' ⟨rfl, hww⟩; subst w'))
    go_ret2
    exact ⟨v, stk, (H1.out.drewN 1).p4.drop, by omega, 0, rfl⟩
  have hb : ((tg f : Int) != 6) = false := by simp [h6]
  by_cases hn1 : 1 ≤ fArity f
  case neg =>
    have hres : FR = .bad 2 s := by rw [HF.out, if_neg (fun h => hn1 h.2.1)]
    rw [hres]
    have hn0 : fArity f = 0 := by omega
    rw [hn0] at HPA
    clear hres h6 HF HTH hn1 hn0 har
    go_enter Try.func169, Try.ntmps169
    go_wp2_with (first | (go_at_call 167; refine HW.out.mono ?_; rintro e w' ⟨rfl, hww⟩; subst w') | (go_at_call 146; refine (HPA.out _).mono ?_; rintro e w' ⟨rfl, hww⟩; subst w') | (go_at_call 126; refine (HTG.out _).mono ?_; rintro e w' ⟨rfl, hww⟩; subst w'))
    go_ret2
    exact ⟨v, stk, (H1.out.drewN 1).p4.drop, by omega, 0, rfl⟩
  by_cases hn2 : fArity f ≤ 20
  case neg =>
    have hres : FR = .bad 2 s := by rw [HF.out, if_neg (fun h => hn2 h.2.2.1)]
    rw [hres]
    clear hres h6 HF HTH
    generalize fArity f = n at *
    go_enter Try.func169, Try.ntmps169
    go_wp2_with (first | (go_at_call 167; refine HW.out.mono ?_; rintro e w' ⟨rfl, hww⟩; subst w') | (go_at_call 146; refine (HPA.out _).mono ?_; rintro e w' ⟨rfl, hww⟩; subst w') | (go_at_call 126; refine (HTG.out _).mono ?_; rintro e w' ⟨rfl, hww⟩; subst w'))
    go_ret2
    exact ⟨v, stk, (H1.out.drewN 1).p4.drop, by omega, 0, rfl⟩
  have HTH2 := Lib.hid (HTH.out _ (H1.out.drewN 1).ok)
  clear HTH
  by_cases hn3 : vl d + fArity f < (X.src s.K).length
  case neg =>
    have hres : FR = .bad 2 s := by rw [HF.out, if_neg (fun h => hn3 h.2.2.2)]
    rw [hres]
    have hdf : decide (vl d + (1 + fArity f) ≤ (X.src s.K).length) = false := by rw [decide_eq_false]; omega
    rw [hdf] at HTH2
    clear hres h6 HF hdf hn3
    generalize fArity f = n at *
    go_enter Try.func169, Try.ntmps169
    go_wp2_with (first | (go_at_call 167; refine HW.out.mono ?_; rintro e w' ⟨rfl, hww⟩; subst w') | (go_at_call 146; refine (HPA.out _).mono ?_; rintro e w' ⟨rfl, hww⟩; subst w') | (go_at_call 126; refine (HTG.out _).mono ?_; rintro e w' ⟨rfl, hww⟩; subst w') | (go_at_call 166; refine HTH2.out.mono ?_; rintro e w' ⟨rfl, hww⟩; subst w'))
    go_ret2
    exact ⟨v, stk, (H1.out.drewN 1).p4.drop, by omega, 0, rfl⟩
  have hdf : decide (vl d + (1 + fArity f) ≤ (X.src s.K).length) = true := by rw [decide_eq_true]; omega
  rw [hdf] at HTH2
  have hres := HF.out
  rw [if_pos ⟨h6, hn1, hn2, hn3⟩] at hres
  simp only at hres
  clear hdf h6 HF
  have h2 := H1.out.drewN 1
  have k1 : ((w.alloc (.cells #[.int .u64 c0, .int .i64 own, .bool b] 197)).drewN 1).cell? ⟨p, 1, none⟩ = some (.pointer (some ⟨X.th, 0, none⟩)) := h2.ok.p2.ptCell 1 _ rfl
  generalize fArity f = n at *
  have HRES := Lib.hid hres
  have H2 := Lib.hid h2
  clear hres h2
  by_cases hk : s.K.length < X.most
  case neg =>
    have hfr : FR = .bad 4 s := by
      rw [HRES.out]
      have e : cpO X.most f n s = ((0, 4), s) := by unfold cpO; rw [if_neg hk]
      rw [e]
      simp
    rw [hfr]
    have hle := H2.out.ok.heapAR.2.2.2.1
    have hpu := push_full H2.out.ok.heapAR (f : Int) (by omega)
    have HP := Lib.hid hpu
    clear hfr hpu hle hk HRES
    go_enter Try.func169, Try.ntmps169
    go_wp2_with (first | (go_at_call 167; refine HW.out.mono ?_; rintro e w' ⟨rfl, hww⟩; subst w') | (go_at_call 146; refine (HPA.out _).mono ?_; rintro e w' ⟨rfl, hww⟩; subst w') | (go_at_call 126; refine (HTG.out _).mono ?_; rintro e w' ⟨rfl, hww⟩; subst w') | (go_at_call 166; refine HTH2.out.mono ?_; rintro e w' ⟨rfl, hww⟩; subst w') | (go_at_call 44; refine HP.out.mono ?_; rintro e w' ⟨rfl, q6, h6⟩; subst h6))
    go_ret2
    exact ⟨v, stk, (H1.out.drewN _).p4.drop, by omega, 0, rfl⟩
  obtain ⟨r, hr⟩ : ∃ r, r = varAll X.most n (s.K ++ [f]) := ⟨_, rfl⟩
  have hfr : FR = if r.1 = 0 then .comp s.K.length (((X.src r.2).drop (vl d + 1)).take n) ⟨r.2, s.M, s.n⟩ else .bad r.1 ⟨r.2, s.M, s.n⟩ := by
    rw [HRES.out]
    have e : cpO X.most f n s = if r.1 = 0 then ((s.K.length, 0), ⟨r.2, s.M, s.n⟩) else ((0, r.1), ⟨r.2, s.M, s.n⟩) := by unfold cpO; rw [if_pos hk, ← hr]
    rw [e]
    by_cases h0 : r.1 = 0
    · rw [if_pos h0, if_pos h0]; simp
    · rw [if_neg h0, if_neg h0]; simp [h0]
  have hpu := push_ok H2.out.ok f rfl hfb hk
  have HP := Lib.hid hpu
  have HFR := Lib.hid hfr
  have HR := Lib.hid hr
  clear hfr hpu hk HRES hr
  go_enter Try.func169, Try.ntmps169
  go_wp2_with (first | (go_at_call 167; refine HW.out.mono ?_; rintro e w' ⟨rfl, hww⟩; subst w') | (go_at_call 146; refine (HPA.out _).mono ?_; rintro e w' ⟨rfl, hww⟩; subst w') | (go_at_call 126; refine (HTG.out _).mono ?_; rintro e w' ⟨rfl, hww⟩; subst w') | (go_at_call 166; refine HTH2.out.mono ?_; rintro e w' ⟨rfl, hww⟩; subst w') | (go_at_call 44; refine HP.out.mono ?_; rintro e w3 ⟨rfl, h3⟩; have H3 := Lib.hid (H2.out.trans h3); clear h3))
  clear k1 HW HPA HTG HTH2 HP H1 H2
  go_loopw [58] (fun i wr => ∃ (j : Nat) (K' q : List Nat), i = .int .i64 (j : Int) ∧ j ≤ n ∧ K' = s.K ++ q ∧ To w S wr S (CopG X p m ⟨K', s.M, s.n⟩ v (Pt w.heap.size #[.int .u64 c0, .int .i64 own, .bool b] 197 :: Row v 197 3 stk.length (ctV stk) :: Γ)) ∧ varAll X.most (n - j) K' = r) (fun i _ => n - (intOf i).toNat)
  case atStart => exact ⟨0, _, [f], rfl, Nat.zero_le _, rfl, H3.out, HR.out.symm⟩
  case round =>
    obtain ⟨j, K', q, rfl, hj, hK, hT, hq⟩ := hrel
    by_cases hlt : j < n
    · obtain ⟨k, hk⟩ : ∃ k, n - j = k + 1 := ⟨n - j - 1, by omega⟩
      have hk2 : n - (j + 1) = k := by omega
      rw [hk, varAll] at hq
      have k1 : wr.cell? ⟨p, 1, none⟩ = some (.pointer (some ⟨X.th, 0, none⟩)) := hT.ok.p2.ptCell 1 _ rfl
      have hle := hT.ok.heapAR.2.2.2.1
      by_cases hf2 : K'.length < X.most
      · rw [if_pos hf2] at hq
        have hv := var_ok hT.ok hf2
        have HVV := Lib.hid hv
        have HTT := Lib.hid hT
        have HQ := Lib.hid hq
        have HK := Lib.hid hK
        clear hv hT hq hK hf2
        go_wp2_with (go_at_call 82; refine HVV.out.mono ?_; rintro e w6 ⟨rfl, h2⟩; have H6 := Lib.hid (HTT.out.trans h2); clear h2)
        go_roundw
        case rel => exact ⟨j + 1, _, q ++ [mkc 0 K'.length], by go_num, by omega, by rw [HK.out]; simp, H6.out, by rw [hk2]; exact HQ.out⟩
        case measure => simp [intOf]; omega
      · rw [if_neg hf2] at hq
        have hv := var_full hT.ok.heapAR (by simp only at hle ⊢; omega)
        have HVV := Lib.hid hv
        have HTT := Lib.hid hT
        have hfr : FR = .bad 4 ⟨K', s.M, s.n⟩ := by rw [HFR.out, ← hq]; simp
        rw [hfr]
        clear hv hT hq hK hf2 hfr
        go_wp2_with (go_at_call 82; refine HVV.out.mono ?_; rintro e w6 ⟨rfl, q6, h2⟩; subst h2)
        go_ret2
        exact ⟨v, stk, (HTT.out.drewN q6).p4.drop, by omega, 0, rfl⟩
    · obtain rfl : j = n := by omega
      rw [Nat.sub_self, varAll] at hq
      have hfr : FR = .comp s.K.length (((X.src K').drop (vl d + 1)).take j) ⟨K', s.M, s.n⟩ := by rw [HFR.out, ← hq]; simp
      have hlx := HLX.out K' q hK
      have hmk := fun W => make_spec (t' := 1) (n' := (s.K.length : Int)) 1 s.K.length rfl rfl (by omega) (by omega) W
      have HM := Lib.hid hmk
      have HTT := Lib.hid hT
      have hCK : K'.length ≤ 1048576 := Nat.le_trans hT.ok.heapAR.2.2.2.1 hT.ok.heapAR.2.2.1
      have e8 : IntKind.u64.wrap (s.K.length : Int) = (s.K.length : Int) := IntWalk.u64_in _ ⟨by omega, by omega⟩
      clear hq HFR HR HLX H3 hT hmk
      go_wp2_with (go_at_call 118; refine (HM.out _).mono ?_; rintro e w' ⟨rfl, hww⟩; subst w')
      clear e8 HM
      have k4 : wr.cell? ⟨p, 4, none⟩ = some v := HTT.out.ok.p2.ptCell 4 _ rfl
      have b0 : wr.cell? ⟨w.heap.size, 1, none⟩ = some (.int .i64 own) := HTT.out.ok.p4.ptCell 1 _ rfl
      have k5 := HTT.out.ok.p2.ptLt
      have H8 := Lib.hid HTT.out.drew.p5
      obtain ⟨args, hargs⟩ : ∃ args, args = ((X.src K').drop (vl d + 1)).take j := ⟨_, rfl⟩
      have hal : args.length = j := by rw [hargs, List.length_take, List.length_drop]; omega
      have hag : ∀ i, i < j → ∃ x, (X.src K')[vl d + (i + 1)]? = some x ∧ args[i]? = some x := by
        intro i hi
        obtain ⟨x, hx⟩ : ∃ x, (X.src K')[vl d + (i + 1)]? = some x := ⟨_, List.getElem?_eq_getElem (by omega)⟩
        refine ⟨x, hx, ?_⟩
        rw [hargs, List.getElem?_take, if_pos hi, List.getElem?_drop, show vl d + 1 + i = vl d + (i + 1) from by omega]
        exact hx
      rw [← hargs] at hfr
      have HAG := Lib.hid hag
      have HFR2 := Lib.hid hfr
      clear hargs hag hK hlx hfr
      go_region_law (first | (refine step_append_new rfl (.tmp 82) (.tmp 87) 149 197 _ 3 24 rfl Try.underlying149 info197 rfl (by decide) (by decide) H8.out rfl #[.int .u64 (mkc 1 s.K.length : Nat), .int .i64 own, .bool true] rfl rfl (by simp [Value.oneCell']) (by omega) ?_; intro A9 c9 W9 h9; have r1 : W9.cell? ⟨p, 4, none⟩ = some v := h9.p3.ok.ptCell 4 _ rfl; have r2 := h9.p3.ok.ptFree 4; have r3 := h9.p3.ok.ptLt; have H9 := Lib.hid h9; clear h9))
      all_goals
        have H10 := Lib.hid (H9.out.p3.ptSet 4 (.slice A9 (stk.length + 1) c9)).p5.p5.p2.p5.p5
        clear k4 b0 k5 r1 r2 r3 H8 H9 HTT
        go_wp2_with fail
        go_loopw [17] (fun u wr => ∃ (i : Nat) (v1 : Value) (stk1 : List Ct), u = .int .i64 (i : Int) ∧ i ≤ j ∧ stk1 = (cts args (s.K.length + 1)).drop i ++ ⟨mkc 1 s.K.length, own, true⟩ :: stk ∧ To w S wr S (CopG X p m ⟨K', s.M, s.n⟩ v1 (Pt w.heap.size #[.int .u64 c0, .int .i64 own, .bool b] 197 :: Row v1 197 3 stk1.length (ctV stk1) :: Γ))) (fun u _ => (intOf u).toNat)
        case atStart =>
          refine ⟨j, .slice A9 (stk.length + 1) c9, ⟨mkc 1 s.K.length, own, true⟩ :: stk, rfl, Nat.le_refl _, ?_, H10.out⟩
          rw [List.drop_of_length_le (by simp [cts, hal]), List.nil_append]
        case round =>
          obtain ⟨i, v1, stk1, rfl, hi, hs1, hT⟩ := hrel
          by_cases h0 : 0 < i
          · obtain ⟨x, hx, hax⟩ := HAG.out (i - 1) (by omega)
            have hi1 : i - 1 + 1 = i := by omega
            rw [hi1] at hx
            have hl1 : stk1.length ≤ 3000100 := by rw [hs1]; simp [cts]; omega
            have hwd := word_spec hT.drew.ok d i x hd hx rfl
            have k4 : wr.cell? ⟨p, 4, none⟩ = some v1 := hT.ok.p2.ptCell 4 _ rfl
            have k5 := hT.ok.p2.ptLt
            have e9 : IntKind.i64.wrap ((s.K.length : Int) + (i : Int)) = (s.K.length : Int) + (i : Int) := IntWalk.i64_in _ ⟨by omega, by omega⟩
            have HTT := Lib.hid hT
            have HWD := Lib.hid hwd
            have HS1 := Lib.hid hs1
            have HX := Lib.hid hax
            clear hT hwd hx hs1 hax H10
            go_wp2_with fail
            go_region_law (first | (go_simp; go_at_call 167; refine HWD.out.mono ?_; rintro e w6 ⟨rfl, hw6⟩; have h6 : To w S w6 S _ := hw6 ▸ HTT.out.drew.drewN 1; have q1 : w6.cell? ⟨p, 4, none⟩ = some v1 := h6.ok.p2.ptCell 4 _ rfl; have q2 := h6.ok.p2.ptLt; have H8 := Lib.hid h6.p5; clear h6 hw6) | (refine step_append_new rfl (.tmp 100) (.tmp 109) 149 197 _ 3 24 rfl Try.underlying149 info197 rfl (by decide) (by decide) H8.out rfl #[.int .u64 (x : Int), .int .i64 ((s.K.length : Int) + (i : Int)), .bool false] rfl rfl (by simp [Value.oneCell']) (by omega) ?_; intro A3 c3 W3 h9; have r1 : W3.cell? ⟨p, 4, none⟩ = some v1 := h9.p3.ok.ptCell 4 _ rfl; have r2 := h9.p3.ok.ptFree 4; have r3 := h9.p3.ok.ptLt; have H9 := Lib.hid h9; clear h9))
            all_goals
              have H12 := Lib.hid (H9.out.p3.ptSet 4 (.slice A3 (stk1.length + 1) c3)).p5.p5.p2.p5.p5
              clear k4 k5 e9 q1 q2 r1 r2 r3 H8 H9 HTT HWD
              go_wp2
              go_roundw
              case rel =>
                refine ⟨i - 1, .slice A3 (stk1.length + 1) c3, ⟨x, (s.K.length : Int) + (i : Int), false⟩ :: stk1, ?_, by omega, ?_, H12.out⟩
                · have e : ((i - 1 : Nat) : Int) = (i : Int) - 1 := by omega
                  rw [e]
                · rw [cts_drop args _ (i - 1) x HX.out, HS1.out, show i - 1 + 1 = i from hi1, List.cons_append]
                  congr 2
                  omega
              case measure => simp [intOf]; omega
          · obtain rfl : i = 0 := by omega
            have HTT := Lib.hid hT
            have HS1 := Lib.hid hs1
            clear hT hs1 H10
            go_wp2
            go_ret2
            rw [HFR2.out]
            refine ⟨v1, stk1, HTT.out.p4.drop, rfl, ?_⟩
            rw [HS1.out]
            rfl
end
#print axioms ccompound_spec
end Go.Proofs.Ytceahdlcbiialaa
