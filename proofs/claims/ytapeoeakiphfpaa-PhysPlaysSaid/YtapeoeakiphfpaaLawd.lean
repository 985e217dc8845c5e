/- The walks of the law WalkPlaces and of the head of the laws of layer 4. -/
import Derived.Test.YtapeoeakiphfpaaWalk
namespace Go.Proofs.Ytapeoeakiphfpaa
open Go.RowKit
set_option linter.unusedVariables false
set_option linter.unusedSimpArgs false
attribute [local go_sem] setCell_drewN alloc_drewN

theorem walkAt_up : walkAt (List.replicate 8 0) 1 5 4 0 0 = some zeroF := by decide +kernel

/-- The document's place: a page divided by 8, level by level. -/
def refPlace : Nat → Int → Int
  | 0, p => p % 8
  | k + 1, p => refPlace k (p / 8)
theorem refPlace_eq (k : Nat) : ∀ p : Int, refPlace k p = p / 8 ^ k % 8 := by
  induction k with
  | zero => intro p; simp [refPlace]
  | succ k ih =>
    intro p
    rw [refPlace, ih, Int.ediv_ediv_of_nonneg (by omega), Int.pow_succ, Int.mul_comm]
theorem placeN_ref (level : Nat) (h : level ≤ 3) (p : Int) : placeN level p = refPlace (3 - level) p := by
  rw [refPlace_eq, placeN]
  congr 2
  rw [show ((3 - (level : Int)) * 3).toNat = 3 * (3 - level) from by omega, Int.pow_mul]
  rfl

set_option maxHeartbeats 400000 in
theorem ref04_Place (w : World) (level page : Int) (h0 : 0 ≤ level) (h1 : level ≤ 3) (h2 : 0 ≤ page) (h3 : page < 4096) :
    Calls Try.prog 132 #[.int .i64 level, .int .i64 page] w fun e w' => e = .returned (.int .i64 (placeN level page)) ∧ w' = w := by
  obtain ⟨level, rfl⟩ := Int.eq_ofNat_of_zero_le h0
  have h1' : level ≤ 3 := by omega
  have hv := placeN_ref level h1' page
  have HV := Lib.hid hv
  clear hv
  go_enter Try.func132, Try.ntmps132
  go_wp2_with fail
  go_loop [1, 5] (fun p i => ∃ (k : Nat) (q : Int), level ≤ k ∧ k ≤ 3 ∧ i = .int .i64 k ∧ p = .int .i64 q ∧ 0 ≤ q ∧ q < 4096 ∧ Hid (placeN level page = refPlace (3 - k) q)) (fun _ i => 3 - (intOf i).toNat)
  case atStart => exact ⟨level, page, Nat.le_refl _, h1', rfl, rfl, h2, h3, HV⟩
  case round =>
    obtain ⟨k, q, hk0, hk, rfl, rfl, q0, q1, HQ⟩ := hrel
    by_cases hlt : k < 3
    · go_wp2
      go_round
      case rel =>
        refine ⟨k + 1, q / 8, by omega, by omega, by go_num, rfl, by omega, by omega, ?_⟩
        show _ = _
        rw [HQ.out, show 3 - k = (3 - (k + 1)) + 1 from by omega, refPlace]
      case measure => simp [intOf]; omega
    · have : k = 3 := by omega
      subst this
      go_wp2
      go_ret
      exact ⟨by rw [HQ.out]; rfl, rfl⟩

end Go.Proofs.Ytapeoeakiphfpaa
