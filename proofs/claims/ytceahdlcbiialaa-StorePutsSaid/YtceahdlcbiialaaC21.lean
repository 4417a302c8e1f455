/- same of the laws on store. -/
import Derived.Test.YtceahdlcbiialaaC20
import Derived.Test.YtceahdlcbiialaaC19
import Derived.Test.YtceahdlcbiialaaA8
set_option linter.unusedVariables false
set_option linter.unusedSimpArgs false
namespace Go.Proofs.Ytceahdlcbiialaa
open Go.RowKit

set_option maxRecDepth 100000 in
set_option maxHeartbeats 2000000 in
theorem same7_spec {w : World} {p q most most2 : Nat} {l : List Nat} (h1 : HeapR w 1 0 p most l) (h2 : HeapR w 0 1 q most2 l) :
    Calls Try.prog 40 #[.pointer (some ⟨p, 0, none⟩), .pointer (some ⟨q, 0, none⟩)] w fun e w' => e = .returned (.bool true) ∧ w' = w.drew := by
  have hl := len_spec (h1.drewN 1)
  have hlb : l.length ≤ 1048576 := Nat.le_trans h1.2.2.2.1 h1.2.2.1
  obtain ⟨⟨A, c, e1, e2⟩, e3, e4, e5, e6⟩ := h2
  have HL := Lib.hid hl
  have H1 := Lib.hid h1
  have H2 := Lib.hid e2
  clear hl h1 e2 e3 e4 e5 e6
  go_enter Try.func40, Try.ntmps40
  go_wp2
  go_region_held3 (fun X => X.cell? ⟨q, 0, none⟩ = some (.slice A l.length c)) (go_keep) (first | (go_at_call 31; refine HL.out.mono ?_; rintro e w' ⟨rfl, hww⟩; subst w'))
  go_wp2
  go_loopw [22] (fun i wr => ∃ j : Nat, i = .int .i64 (j : Int) ∧ j ≤ l.length ∧ wr = w.drewN 1) (fun i _ => l.length - (intOf i).toNat)
  case atStart => exact ⟨0, rfl, Nat.zero_le _, rfl⟩
  case round =>
    obtain ⟨j, rfl, hj, rfl⟩ := hrel
    by_cases hlt : j < l.length
    · obtain ⟨ad, rfl, hc⟩ := H2.out j l[j] (List.getElem?_eq_getElem hlt)
      have hg := get_in (H1.out.drewN 1) j l[j] rfl (List.getElem?_eq_getElem hlt)
      have hc' : (w.drewN 1).cell? (ad.add j) = some (.int .u64 (l[j] : Nat)) := hc
      generalize l[j] = y at hc hc' hg
      have HG := Lib.hid hg; clear hg
      go_wp2_with (go_at_call 36; refine HG.out.mono ?_; rintro e w' ⟨rfl, hww⟩; subst w')
      go_roundw
      case rel => exact ⟨j + 1, by go_num, by omega, by trivial⟩
      case measure => simp [intOf]; omega
    · obtain rfl : j = l.length := by omega
      go_wp2
      go_ret
      exact ⟨rfl, rfl⟩
#print axioms same7_spec
end Go.Proofs.Ytceahdlcbiialaa
