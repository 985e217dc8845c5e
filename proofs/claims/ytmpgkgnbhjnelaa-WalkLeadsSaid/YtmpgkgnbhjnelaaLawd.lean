/- The walks of the law WalkPlaces and of the head of the laws of layer 4. -/
import Derived.Test.YtmpgkgnbhjnelaaWalk
namespace Go.Proofs.Ytmpgkgnbhjnelaa
open Go.RowKit
set_option linter.unusedVariables false
set_option linter.unusedSimpArgs false
attribute [local go_sem] setCell_drewN alloc_drewN

theorem walkAt_up : walkAt (List.replicate 8 0) 1 5 4 0 0 = some zeroF := by decide +kernel

set_option maxRecDepth 100000 in
set_option maxHeartbeats 1000000 in
theorem law04_up (w : World) : Calls Try.prog 27 #[] w fun e w' => e = .returned (.bool true) ∧ w.grownBy w' none := by
  have HV := Lib.hid walkAt_up
  go_enter Try.func27, Try.ntmps27
  go_wp2_with fail
  refine (phys_New_int _ 1 (by omega) (by omega)).mono ?_
  rintro e w1 ⟨b, g, rfl, hm1, hg1, hb, hg⟩
  replace hm1 : MemAt w1 b g 1 1 (List.replicate 8 0) := hm1
  generalize hz : List.replicate 8 (0 : Int) = Z at *
  have hw : WOk Z := by
    subst hz
    intro x hx
    rw [List.eq_of_mem_replicate hx]
    omega
  have HZ := Lib.hid hz
  clear hz
  go_wp2_with fail
  refine (walk_Place _ 3 4095 (by omega) (by omega) (by omega) (by omega)).mono ?_
  rintro e w2 ⟨rfl, m, rfl⟩
  rw [show placeN 3 4095 = 7 from by decide]
  go_wp2_with fail
  refine (walk_Place _ 0 4095 (by omega) (by omega) (by omega) (by omega)).mono ?_
  rintro e w2 ⟨rfl, m2, rfl⟩
  rw [show placeN 0 4095 = 7 from by decide]
  have G2 := grow_drewN hg1 (m + m2)
  have hm2 := hm1.kept0 (grow_drewN (grow_refl w1 none) (m + m2))
  clear hm1 hg1
  go_wp2_with fail
  refine (walk_Walk _ hm2 hw 0 5 (by omega) (by decide) (by omega) (by omega)).mono ?_
  rintro e w3 ⟨rfl, hg3⟩
  have G3 := grow_trans G2 hg3
  rw [show walkAt Z ((1 : Nat) : Int) 5 4 0 0 = some zeroF from HV.out]
  clear hm2 G2 hg3
  have hzv : walkV (some zeroF) = .tuple #[.agg #[.int .i64 0, .int .i64 0, .int .i64 0, .int .i64 0, .int .i64 0, .int .i64 0, .int .i64 0, .int .i64 0, .bool false, .bool false, .bool false], .nilIface] := rfl
  rw [hzv]
  clear hzv
  go_wp2_with fail
  go_ret
  exact ⟨rfl, by repeat (first | exact G3 | refine grow_alloc ?_ _ | refine grow_drewN ?_ _ | refine grow_drew ?_)⟩

/-- The document's place: a page divided by 8, level by level. -/
def refPlace : Nat → Int → Int
  | 0, p => p % 8
  | k + 1, p => refPlace k (p / 8)
theorem refPlace_eq (k : Nat) : ∀ p : Int, refPlace k p = p / 8 ^ k % 8 := by
  induction k with
  | zero => intro p; simp [refPlace]
  | succ k ih =>
    intro p
    rw [refPlace, ih, Int.ediv_ediv_of_nonneg (by omega), Int.pow_succ, Int.mul_comm]
theorem placeN_ref (level : Nat) (h : level ≤ 3) (p : Int) : placeN level p = refPlace (3 - level) p := by
  rw [refPlace_eq, placeN]
  congr 2
  rw [show ((3 - (level : Int)) * 3).toNat = 3 * (3 - level) from by omega, Int.pow_mul]
  rfl

set_option maxHeartbeats 400000 in
theorem ref04_Place (w : World) (level page : Int) (h0 : 0 ≤ level) (h1 : level ≤ 3) (h2 : 0 ≤ page) (h3 : page < 4096) :
    Calls Try.prog 29 #[.int .i64 level, .int .i64 page] w fun e w' => e = .returned (.int .i64 (placeN level page)) ∧ w' = w := by
  obtain ⟨level, rfl⟩ := Int.eq_ofNat_of_zero_le h0
  have h1' : level ≤ 3 := by omega
  have hv := placeN_ref level h1' page
  have HV := Lib.hid hv
  clear hv
  go_enter Try.func29, Try.ntmps29
  go_wp2_with fail
  go_loop [1, 5] (fun p i => ∃ (k : Nat) (q : Int), level ≤ k ∧ k ≤ 3 ∧ i = .int .i64 k ∧ p = .int .i64 q ∧ 0 ≤ q ∧ q < 4096 ∧ Hid (placeN level page = refPlace (3 - k) q)) (fun _ i => 3 - (intOf i).toNat)
  case atStart => exact ⟨level, page, Nat.le_refl _, h1', rfl, rfl, h2, h3, HV⟩
  case round =>
    obtain ⟨k, q, hk0, hk, rfl, rfl, q0, q1, HQ⟩ := hrel
    by_cases hlt : k < 3
    · go_wp2
      go_round
      case rel =>
        refine ⟨k + 1, q / 8, by omega, by omega, by go_num, rfl, by omega, by omega, ?_⟩
        show _ = _
        rw [HQ.out, show 3 - k = (3 - (k + 1)) + 1 from by omega, refPlace]
      case measure => simp [intOf]; omega
    · have : k = 3 := by omega
      subst this
      go_wp2
      go_ret
      exact ⟨by rw [HQ.out]; rfl, rfl⟩

set_option maxHeartbeats 1000000 in
theorem law04_WalkPlaces (w : World) (level : Int) (_ : (Lit.int .i64 level).wf = true) (page : Int) (_ : (Lit.int .i64 page).wf = true) :
    Calls Try.prog 7 #[.int .i64 level, .int .i64 page] w fun e w' => e = .returned (.bool true) ∧ w.grownBy w' none := by
  have he := fun w a b => eql_err w a b
  by_cases h : 0 ≤ level ∧ level < 4 ∧ 0 ≤ page ∧ page < 4096
  · obtain ⟨h0, h1, h2, h3⟩ := h
    go_enter Try.func7, Try.ntmps7
    go_wp2_with fail
    refine (law04_up _).mono ?_
    rintro e w1 ⟨rfl, hg⟩
    go_wp2_with fail
    refine (walk_Place _ level page h0 h1 h2 h3).mono ?_
    rintro e w2 ⟨rfl, m, rfl⟩
    have HP := Lib.hid (ref04_Place (w1.drewN m) level page h0 (by omega) h2 h3)
    generalize placeN level page = q at *
    go_wp2_with fail
    refine HP.out.mono ?_
    rintro e w2 ⟨rfl, rfl⟩
    go_wp2_with fail
    go_ret
    exact ⟨rfl, grow_drewN hg _⟩
  · have HH := Lib.hid h
    have fin : ∀ (W : World), Calls Try.prog 28 #[.int .i64 level, .int .i64 page] W fun e w' => e = .returned (.tuple #[.int .i64 0, errW 1]) ∧ w' = W := fun W => walk_Place_no W level page h
    have FIN := Lib.hid fin
    clear fin h
    by_cases h0 : level < 0
    · go_enter Try.func7, Try.ntmps7
      go_wp2_with fail
      refine (law04_up _).mono ?_
      rintro e w1 ⟨rfl, hg⟩
      go_wp2_with fail
      refine (FIN.out _).mono ?_
      rintro e w2 ⟨rfl, rfl⟩
      go_wp2_with fail
      go_ret
      exact ⟨rfl, hg⟩
    · by_cases h1 : 3 < level
      · go_enter Try.func7, Try.ntmps7
        go_wp2_with fail
        refine (law04_up _).mono ?_
        rintro e w1 ⟨rfl, hg⟩
        go_wp2_with fail
        refine (FIN.out _).mono ?_
        rintro e w2 ⟨rfl, rfl⟩
        go_wp2_with fail
        go_ret
        exact ⟨rfl, hg⟩
      · by_cases h2 : page < 0
        · go_enter Try.func7, Try.ntmps7
          go_wp2_with fail
          refine (law04_up _).mono ?_
          rintro e w1 ⟨rfl, hg⟩
          go_wp2_with fail
          refine (FIN.out _).mono ?_
          rintro e w2 ⟨rfl, rfl⟩
          go_wp2_with fail
          go_ret
          exact ⟨rfl, hg⟩
        · have h3 : 4095 < page := by have := HH.out; omega
          go_enter Try.func7, Try.ntmps7
          go_wp2_with fail
          refine (law04_up _).mono ?_
          rintro e w1 ⟨rfl, hg⟩
          go_wp2_with fail
          refine (FIN.out _).mono ?_
          rintro e w2 ⟨rfl, rfl⟩
          go_wp2_with fail
          go_ret
          exact ⟨rfl, hg⟩

end Go.Proofs.Ytmpgkgnbhjnelaa
