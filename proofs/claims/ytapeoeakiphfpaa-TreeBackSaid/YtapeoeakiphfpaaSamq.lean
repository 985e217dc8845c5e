/- The contract of paviorref12.Same once more: it only draws. -/
import Derived.Test.YtapeoeakiphfpaaSame
namespace Go.Proofs.Ytapeoeakiphfpaa
open Go.RowKit
set_option linter.unusedVariables false
set_option linter.unusedSimpArgs false
attribute [local go_sem] setCell_drewN alloc_drewN lt_moreE le_moreE lt_moreK le_moreK cell_more frozen_more set_more drew_more drewN_more

set_option maxRecDepth 100000 in
set_option maxHeartbeats 4000000 in
theorem ref12_SameQ (w : World) {B1 B2 : Nat} {a1 a2 : Option Addr} {c1 c2 : Nat} {s : List Step} (HO1 : OwnS w B1 (.slice a1 s.length c1) s) (HO2 : OwnS w B2 (.slice a2 s.length c2) s) :
    Calls Try.prog 70 #[.slice a1 s.length c1, .slice a2 s.length c2] w fun e w' => e = .returned (.bool true) ∧ ∃ m, w' = w.drewN m := by
  have hc1 := own_cap HO1
  have hc2 := own_cap HO2
  have HA1 := Lib.hid (own_at HO1)
  have HA2 := Lib.hid (own_at HO2)
  have hm1 : c1 ≤ 9223372036854775807 := by have := hc1.2.2; unfold maxLen at this; exact this
  have hm2 : c2 ≤ 9223372036854775807 := by have := hc2.2.2; unfold maxLen at this; exact this
  have hs1 := hc1.2.1
  have hs2 := hc2.2.1
  clear HO1 HO2 hc1 hc2
  go_enter Try.func70, Try.ntmps70
  go_wp2_with fail
  go_loopw [5] (fun i wr => ∃ q : Nat, q ≤ s.length ∧ i = .int .i64 q ∧ ∃ m, wr = w.drewN m) (fun i _ => s.length - (intOf i).toNat)
  case atStart => exact ⟨0, by omega, rfl, 0, rfl⟩
  case round =>
    obtain ⟨q, hq, rfl, m, rfl⟩ := hrel
    by_cases hlt : q < s.length
    · obtain ⟨g1, rfl, _, hg1, _, hx1, _⟩ := HA1.out (by omega)
      obtain ⟨g2, rfl, _, hg2, _, hx2, _⟩ := HA2.out (by omega)
      have hz : s[q]? = some s[q] := List.getElem?_eq_getElem hlt
      obtain ⟨x0, x1, x2, x3, x4, x5, x6, x7, x8, x9⟩ := step_at hx1 q _ hz
      obtain ⟨y0, y1, y2, y3, y4, y5, y6, y7, y8, y9⟩ := step_at hx2 q _ hz
      generalize s[q] = z at *
      obtain ⟨F0, F1, F2, F3, F4, F5, F6, F7, F8, F9⟩ := z
      clear hz hx1 hx2 HA1 HA2
      go_wp2_with fail
      go_region
      all_goals go_wp2_with fail
      go_roundw
      case rel => exact ⟨q + 1, by omega, by go_num, m + 1, rfl⟩
      case measure => simp [intOf]; omega
    · obtain rfl : q = s.length := by omega
      go_wp2_with fail
      go_ret
      exact ⟨rfl, m, rfl⟩

end Go.Proofs.Ytapeoeakiphfpaa
