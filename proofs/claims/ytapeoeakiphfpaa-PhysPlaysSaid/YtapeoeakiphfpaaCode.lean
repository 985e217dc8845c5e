/- The contract of paviorlaw00.Code: which error's number. -/
import Derived.Test.YtapeoeakiphfpaaMore
namespace Go.Proofs.Ytapeoeakiphfpaa
open Go.RowKit
set_option linter.unusedVariables false
set_option linter.unusedSimpArgs false
attribute [local go_sem] setCell_drewN alloc_drewN lt_moreE le_moreE lt_moreK le_moreK cell_more frozen_more set_more drew_more drewN_more

set_option maxHeartbeats 400000 in
theorem law00_Code_nil (w : World) : Calls Try.prog 69 #[.nilIface] w fun e w' => e = .returned (.int .i64 0) ∧ w' = w := by
  go_enter Try.func69, Try.ntmps69
  go_wp2
  go_ret
  exact ⟨rfl, rfl⟩

set_option maxHeartbeats 1000000 in
theorem law00_Code (w : World) (k : Nat) (h1 : 1 ≤ k) (h2 : k ≤ 8) : Calls Try.prog 69 #[errW k] w fun e w' => e = .returned (.int .i64 k) ∧ w' = w := by
  have heq := fun (w : World) (a b : Int) => eql_err w a b
  have HEQ := Lib.hid heq
  clear heq
  go_enter Try.func69, Try.ntmps69
  go_wp2_with fail
  go_loop [3] (fun c => ∃ j : Nat, 1 ≤ j ∧ j ≤ k ∧ c = .int .i64 j) (fun c => (9 - intOf c).toNat)
  case atStart => exact ⟨1, by omega, h1, rfl⟩
  case round =>
    obtain ⟨j, hj1, hj2, rfl⟩ := hrel
    have he := fun w => HEQ.out w k j
    by_cases h : k = j
    · subst h
      have hb : ((k : Int) == (k : Int)) = true := by simp
      rw [hb] at he
      clear hb
      go_wp2
      go_ret
      exact ⟨rfl, rfl⟩
    · have hb : ((k : Int) == (j : Int)) = false := by simp; omega
      rw [hb] at he
      clear hb
      go_wp2
      go_round
      case rel => exact ⟨j + 1, by omega, by omega, by go_num⟩
      case measure => simp [intOf]; omega

end Go.Proofs.Ytapeoeakiphfpaa
