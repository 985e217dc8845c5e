/- The contracts of the Go packages word (fields) and walk.Place. -/
import Derived.Test.YtapeoeakiphfpaaBase
namespace Go.Proofs.Ytapeoeakiphfpaa
open Go.RowKit
set_option linter.unusedVariables false
set_option linter.unusedSimpArgs false

theorem u64_wraps (n : Int) (h0 : 0 ≤ n) (h1 : n < 2 ^ 64) : IntKind.u64.wrap n = n := by rw [IntKind.wrap_u64]; omega
theorem and_mask (i : Nat) (hi : i ≤ 64) (x : Int) (h0 : 0 ≤ x) (h1 : x < 18446744073709551616) : Go.bits .and .u64 x (2 ^ i - 1) = x % 2 ^ i :=
  bits_mask .u64 64 (by decide) u64_wraps i hi x h0 (by simpa using h1)

set_option maxHeartbeats 400000 in
theorem word_field_yes (w : World) (a n : Int) (h0 : 0 ≤ a) (h1 : 1 ≤ n) (h2 : a + n ≤ 64) :
    Calls Try.prog 150 #[.int .i64 a, .int .i64 n] w fun e w' => e = .returned (.bool true) ∧ w' = w := by
  have h3 : a < 64 := by omega
  have h4 : n ≤ 64 := by omega
  go_enter Try.func150, Try.ntmps150
  go_wp2
  go_ret
  exact ⟨by simp, rfl⟩

theorem mask_val (n : Nat) (h : n ≤ 64) : IntKind.u64.wrap (IntKind.u64.wrap (2 ^ n) - 1) = 2 ^ n - 1 := by
  by_cases e : n = 64
  · subst e; decide
  · have h1 : (2 : Nat) ^ n ≤ 2 ^ 63 := Nat.pow_le_pow_right (by omega) (by omega)
    have h2 : (1 : Nat) ≤ 2 ^ n := Nat.one_le_two_pow
    have h3 : ((2 : Int) ^ n) = ((2 ^ n : Nat) : Int) := by simp
    rw [h3]
    generalize 2 ^ n = q at *
    rw [u64_wraps q (by omega) (by omega), u64_wraps _ (by omega) (by omega)]

set_option maxHeartbeats 400000 in
theorem word_mask (w : World) (n : Int) (h1 : 1 ≤ n) (h2 : n ≤ 64) :
    Calls Try.prog 151 #[.int .i64 n] w fun e w' => e = .returned (.int .u64 (2 ^ n.toNat - 1)) ∧ w' = w := by
  have h0 : 0 ≤ n := by omega
  have hv := mask_val n.toNat (by omega)
  have HV := Lib.hid hv
  clear hv
  go_enter Try.func151, Try.ntmps151
  go_wp2
  go_ret
  refine ⟨?_, rfl⟩
  have := HV.out
  simp at this ⊢
  exact this

set_option maxHeartbeats 400000 in
theorem word_Field (w : World) (x a n : Int) (hx : 0 ≤ x) (hx' : x < 18446744073709551616) (h0 : 0 ≤ a) (h1 : 1 ≤ n) (h2 : a + n ≤ 64) :
    Calls Try.prog 131 #[.int .u64 x, .int .i64 a, .int .i64 n] w fun e w' => e = .returned (.tuple #[.int .u64 (x / 2 ^ a.toNat % 2 ^ n.toNat), .nilIface]) ∧ ∃ m, w' = w.drewN m := by
  have hq0 : 0 ≤ x / 2 ^ a.toNat := Int.ediv_nonneg hx (Int.pow_nonneg (by omega))
  have hq1 : x / 2 ^ a.toNat < 18446744073709551616 := by
    have : x / 2 ^ a.toNat ≤ x := Int.ediv_le_self _ hx
    omega
  have hv := and_mask n.toNat (by omega) _ hq0 hq1
  have hm : min a.toNat 64 = a.toNat := Nat.min_eq_left (by omega)
  have HV := Lib.hid hv
  have HM := Lib.hid hm
  clear hv hm hq0 hq1
  have HF := Lib.hid (word_field_yes w a n h0 h1 h2)
  go_enter Try.func131, Try.ntmps131
  go_wp2_with fail
  refine HF.out.mono ?_
  rintro e w1 ⟨rfl, rfl⟩
  go_wp2_with fail
  go_quiet ((go_at_call 151; exact Calls.quiet_of_same (word_mask _ _ (by omega) (by omega))))
  go_wp2_with fail
  go_ret2
  refine ⟨?_, _, rfl⟩
  have := HV.out
  simp at this ⊢
  exact this

/-- A page's place at a level. -/
def placeN (level page : Int) : Int := page / 2 ^ ((3 - level) * 3).toNat % 8
theorem placeN_lo (level page : Int) : 0 ≤ placeN level page := Int.emod_nonneg _ (by omega)
theorem placeN_hi (level page : Int) : placeN level page < 8 := Int.emod_lt_of_pos _ (by omega)

set_option maxHeartbeats 400000 in
theorem walk_Place_no (w : World) (level page : Int) (h : ¬ (0 ≤ level ∧ level < 4 ∧ 0 ≤ page ∧ page < 4096)) :
    Calls Try.prog 84 #[.int .i64 level, .int .i64 page] w fun e w' => e = .returned (.tuple #[.int .i64 0, errW 1]) ∧ w' = w := by
  by_cases h1 : level < 0
  · clear h
    go_enter Try.func84, Try.ntmps84
    go_wp2_with fail
    go_ret2
    exact ⟨rfl, rfl⟩
  · by_cases h2 : 4 ≤ level
    · clear h
      go_enter Try.func84, Try.ntmps84
      go_wp2_with fail
      go_ret2
      exact ⟨rfl, rfl⟩
    · by_cases h3 : page < 0
      · clear h
        go_enter Try.func84, Try.ntmps84
        go_wp2_with fail
        go_ret2
        exact ⟨rfl, rfl⟩
      · have h4 : 4096 ≤ page := by omega
        clear h
        go_enter Try.func84, Try.ntmps84
        go_wp2_with fail
        go_ret2
        exact ⟨rfl, rfl⟩

set_option maxHeartbeats 400000 in
theorem walk_Place (w : World) (level page : Int) (h0 : 0 ≤ level) (h1 : level < 4) (h2 : 0 ≤ page) (h3 : page < 4096) :
    Calls Try.prog 84 #[.int .i64 level, .int .i64 page] w fun e w' => e = .returned (.tuple #[.int .i64 (placeN level page), .nilIface]) ∧ ∃ m, w' = w.drewN m := by
  go_enter Try.func84, Try.ntmps84
  go_wp2_with fail
  refine (word_Field _ _ _ _ (by omega) (by omega) (by omega) (by omega) (by omega)).mono ?_
  rintro e w1 ⟨rfl, m, rfl⟩
  go_wp2_with fail
  go_ret2
  exact ⟨rfl, m, rfl⟩

end Go.Proofs.Ytapeoeakiphfpaa
