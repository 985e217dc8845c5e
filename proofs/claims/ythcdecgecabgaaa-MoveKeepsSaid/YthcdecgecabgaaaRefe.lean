import Derived.Test.YthcdecgecabgaaaBPathpRefcRefd
/- The contract of the document's answer paviorref02.Decode. -/
namespace Go.Proofs.Ythcdecgecabgaaa
open Go.RowKit
set_option linter.unusedVariables false
set_option linter.unusedSimpArgs false
attribute [local go_sem] setCell_drewN alloc_drewN lt_moreE le_moreE lt_moreK le_moreK cell_more frozen_more set_more drew_more drewN_more

theorem bit_c (w : World) (x v : Int) (a : Int) (k : Nat) (hx : 0 ≤ x) (hx' : x < 18446744073709551616) (ha : a = k) (hk : k < 64) (hv : x / 2 ^ k % 2 = v) :
    Calls Try.prog 115 #[.int .u64 x, .int .i64 a] w fun e w' => e = .returned (.int .u64 v) ∧ w' = w := by
  obtain ⟨p, rfl⟩ := Int.eq_ofNat_of_zero_le hx
  subst ha
  have := ref01_Bit w p k (by omega) hk
  have e : ((p / 2 ^ k % 2 : Nat) : Int) = v := by rw [← hv]; simp
  rwa [e] at this
theorem field_c (w : World) (x v : Int) (a n : Int) (k m : Nat) (hx : 0 ≤ x) (hx' : x < 18446744073709551616) (ha : a = k) (hn : n = m) (hk : k + m ≤ 64) (hv : x / 2 ^ k % 2 ^ m = v) :
    Calls Try.prog 114 #[.int .u64 x, .int .i64 a, .int .i64 n] w fun e w' => e = .returned (.int .u64 v) ∧ w' = w := by
  obtain ⟨p, rfl⟩ := Int.eq_ofNat_of_zero_le hx
  subst ha hn
  have := ref01_Field w p k m (by omega) hk
  have e : ((p / 2 ^ k % 2 ^ m : Nat) : Int) = v := by rw [← hv]; simp
  rwa [e] at this

set_option maxRecDepth 100000 in
set_option maxHeartbeats 4000000 in
theorem ref02_Decode (w : World) (level x : Int) (hx : 0 ≤ x) (hx' : x < 18446744073709551616) :
    Calls Try.prog 68 #[.int .i64 level, .int .u64 x] w fun e w' => Ext w w' ∧ e = .returned (decD level x).v := by
  obtain ⟨F, hF⟩ : ∃ v, x / 2 ^ 12 % 2 ^ 36 = v := ⟨_, rfl⟩
  have KF := Lib.hid (fun w => field_c w x F 12 36 12 36 hx hx' rfl rfl (by omega) hF)
  have F0 : 0 ≤ F := by omega
  by_cases hhi : 512 ≤ F
  · have hv := dec_high (level := level) (x := x) (by omega)
    have HV := Lib.hid hv
    clear hv hF
    go_enter Try.func68, Try.ntmps68
    go_wp2_with fail
    refine (KF.out _).mono ?_
    rintro e w' ⟨rfl, rfl⟩
    go_wp2_with fail
    refine bodyPost_ret (results_cell_row rfl _ _ w.heap.size 128 _ (0, 0) _ rfl (by repeat (first | (with_reducible exact heap_alloc_new _ _) | (with_reducible apply box_more) | (with_reducible apply box_alloc) | (with_reducible apply box_drew) | (with_reducible apply box_drewN))) Try.underlying128 rfl (by kernel_rfl)) rfl ?_
    exact ⟨(by repeat (first | exact Ext.refl _ | apply Ext.more | apply Ext.alloc | apply Ext.drew | apply Ext.drewN)), by rw [HV.out]; rfl⟩
  obtain ⟨v7, h7⟩ : ∃ v, x / 2 ^ 7 % 2 = v := ⟨_, rfl⟩
  obtain ⟨v54, h54⟩ : ∃ v, x / 2 ^ 54 % 2 = v := ⟨_, rfl⟩
  obtain ⟨v10, h10⟩ : ∃ v, x / 2 ^ 10 % 2 = v := ⟨_, rfl⟩
  obtain ⟨v52, h52⟩ : ∃ v, x / 2 ^ 52 % 2 = v := ⟨_, rfl⟩
  obtain ⟨S, hS⟩ : ∃ v, x / 2 ^ 55 % 2 ^ 3 = v := ⟨_, rfl⟩
  have B7 := Lib.hid (fun w => bit_c w x v7 7 7 hx hx' rfl (by omega) h7)
  have B54 := Lib.hid (fun w => bit_c w x v54 54 54 hx hx' rfl (by omega) h54)
  have B10 := Lib.hid (fun w => bit_c w x v10 10 10 hx hx' rfl (by omega) h10)
  have B52 := Lib.hid (fun w => bit_c w x v52 52 52 hx hx' rfl (by omega) h52)
  have KS := Lib.hid (fun w => field_c w x S 55 3 55 3 hx hx' rfl rfl (by omega) hS)
  have S0 : 0 ≤ S := by omega
  have S1 : S < 8 := by omega
  have F1 : F < 512 := by omega
  have b10 : (v10 == 1) = (v10 != 0) := by rw [Bool.eq_iff_iff]; simp; omega
  have b52 : (v52 == 1) = (v52 != 0) := by rw [Bool.eq_iff_iff]; simp; omega
  have c0 : candD x 0 = ⟨0, 0, false, false, false, false, 0⟩ := rfl
  have c1 : candD x 1 = ⟨1, F, false, false, false, false, 0⟩ := by rw [← hF]; rfl
  have c2 : candD x 2 = ⟨2, F, v7 == 0, v54 == 0, v10 == 1, v52 == 1, S⟩ := by rw [b10, b52, ← hF, ← h7, ← h54, ← h10, ← h52, ← hS]; rfl
  have c3 : candD x 3 = ⟨3, F, v7 == 0, v54 == 0, v10 == 1, v52 == 1, S⟩ := by rw [b10, b52, ← hF, ← h7, ← h54, ← h10, ← h52, ← hS]; rfl
  have c4 : candD x 4 = ⟨4, F, v7 == 0, v54 == 0, v10 == 1, v52 == 1, S⟩ := by rw [b10, b52, ← hF, ← h7, ← h54, ← h10, ← h52, ← hS]; rfl
  have C0 := Lib.hid c0
  have C1 := Lib.hid c1
  have C2 := Lib.hid c2
  have C3 := Lib.hid c3
  have C4 := Lib.hid c4
  clear hF h7 h54 h10 h52 hS b10 b52 c0 c1 c2 c3 c4 hhi
  go_enter Try.func68, Try.ntmps68
  go_wp2_with fail
  refine (KF.out _).mono ?_
  rintro e w' ⟨rfl, rfl⟩
  go_wp2_with fail
  refine (B7.out _).mono ?_
  rintro e w' ⟨rfl, rfl⟩
  go_wp2_with fail
  refine (B54.out _).mono ?_
  rintro e w' ⟨rfl, rfl⟩
  go_wp2_with fail
  refine (B10.out _).mono ?_
  rintro e w' ⟨rfl, rfl⟩
  go_wp2_with fail
  refine (B52.out _).mono ?_
  rintro e w' ⟨rfl, rfl⟩
  go_wp2_with fail
  refine (KS.out _).mono ?_
  rintro e w' ⟨rfl, rfl⟩
  go_wp2_with fail
  go_loopw [7] (fun i wr => ∃ k : Nat, k ≤ 5 ∧ i = .int .i64 k ∧ Ext ((w.alloc (.cells #[.int .i64 0, .int .i64 0, .bool false, .bool false, .bool false, .bool false, .int .i64 0] 128)).alloc (.cells #[.int .i64 0, .int .i64 F, .bool (v7 == 0), .bool (v54 == 0), .bool (v10 == 1), .bool (v52 == 1), .int .i64 S] 128)) wr ∧ Hid (∀ j : Nat, j < k → okD level (candD x j) = true → encW (candD x j) ≠ x)) (fun i _ => (5 - intOf i).toNat)
  case atStart => exact ⟨0, by omega, rfl, Ext.refl _, fun j hj => by omega⟩
  case round =>
    obtain ⟨k, hk, rfl, ⟨ex0, rfl⟩, HN⟩ := hrel
    have hks : k = 0 ∨ k = 1 ∨ k = 2 ∨ k = 3 ∨ k = 4 ∨ k = 5 := by omega
    rcases hks with rfl | rfl | rfl | rfl | rfl | rfl
    · cases hok : okD level ⟨0, 0, false, false, false, false, 0⟩
      · have HO := Lib.hid hok
        clear hok
        go_wp2_with fail
        refine (ref02_May _ level ⟨0, 0, false, false, false, false, 0⟩).mono ?_
        rintro e w' ⟨⟨ex1, rfl⟩, rfl⟩
        rw [HO.out]
        go_wp2_with fail
        go_roundw
        case rel => exact ⟨1, by omega, by go_num, (by repeat (first | exact Ext.refl _ | apply Ext.more | apply Ext.alloc | apply Ext.drew | apply Ext.drewN)), fun j hj hjo => by
            by_cases e : j < 0
            · exact HN.out j e hjo
            · obtain rfl : j = 0 := by omega
              exact absurd (HO.out.symm.trans ((congrArg (okD level) C0.out).symm.trans hjo)) (by decide)⟩
        case measure => simp [intOf]
      · have HO := Lib.hid hok
        have HW := Lib.hid (fun w => ref02_Word w level ⟨0, 0, false, false, false, false, 0⟩ hok)
        by_cases he : encW ⟨0, 0, false, false, false, false, 0⟩ = x
        · have hv := dec_cand (level := level) (x := x) (k := ((0 : Nat) : Int)) (by rw [show candD x ((0 : Nat) : Int) = _ from C0.out]; exact hok) (by rw [show candD x ((0 : Nat) : Int) = _ from C0.out]; exact he)
          rw [show candD x ((0 : Nat) : Int) = _ from C0.out] at hv
          have HV := Lib.hid hv
          rw [he] at HW
          clear hok he hv
          go_wp2_with fail
          refine (ref02_May _ level ⟨0, 0, false, false, false, false, 0⟩).mono ?_
          rintro e w' ⟨⟨ex1, rfl⟩, rfl⟩
          rw [HO.out]
          go_wp2_with fail
          refine (HW.out _).mono ?_
          rintro e w' ⟨⟨ex2, rfl⟩, rfl⟩
          go_wp2_with fail
          refine bodyPost_ret (results_cell_row rfl _ _ w.heap.size 128 _ (0, 0) _ rfl (by repeat (first | (with_reducible exact heap_alloc_new _ _) | (with_reducible apply box_more) | (with_reducible apply box_alloc) | (with_reducible apply box_drew) | (with_reducible apply box_drewN))) Try.underlying128 rfl (by kernel_rfl)) rfl ?_
          exact ⟨(by repeat (first | exact Ext.refl _ | apply Ext.more | apply Ext.alloc | apply Ext.drew | apply Ext.drewN)), by rw [HV.out]⟩
        · have hb : (encW ⟨0, 0, false, false, false, false, 0⟩ == x) = false := by simpa using he
          have HE := Lib.hid he
          obtain ⟨q, hq⟩ : ∃ q, encW ⟨0, 0, false, false, false, false, 0⟩ = q := ⟨_, rfl⟩
          have HQ := Lib.hid hq
          rw [hq] at hb HW HE
          clear hq
          clear hok he
          go_wp2_with fail
          refine (ref02_May _ level ⟨0, 0, false, false, false, false, 0⟩).mono ?_
          rintro e w' ⟨⟨ex1, rfl⟩, rfl⟩
          rw [HO.out]
          go_wp2_with fail
          refine (HW.out _).mono ?_
          rintro e w' ⟨⟨ex2, rfl⟩, rfl⟩
          go_wp2_with fail
          go_roundw
          case rel => exact ⟨1, by omega, by go_num, (by repeat (first | exact Ext.refl _ | apply Ext.more | apply Ext.alloc | apply Ext.drew | apply Ext.drewN)), fun j hj hjo => by
            by_cases e : j < 0
            · exact HN.out j e hjo
            · obtain rfl : j = 0 := by omega
              rw [show candD x ((0 : Nat) : Int) = _ from C0.out, HQ.out]; exact HE.out⟩
          case measure => simp [intOf]
    · cases hok : okD level ⟨1, F, false, false, false, false, 0⟩
      · have HO := Lib.hid hok
        clear hok
        go_wp2_with fail
        refine (ref02_May _ level ⟨1, F, false, false, false, false, 0⟩).mono ?_
        rintro e w' ⟨⟨ex1, rfl⟩, rfl⟩
        rw [HO.out]
        go_wp2_with fail
        go_roundw
        case rel => exact ⟨2, by omega, by go_num, (by repeat (first | exact Ext.refl _ | apply Ext.more | apply Ext.alloc | apply Ext.drew | apply Ext.drewN)), fun j hj hjo => by
            by_cases e : j < 1
            · exact HN.out j e hjo
            · obtain rfl : j = 1 := by omega
              exact absurd (HO.out.symm.trans ((congrArg (okD level) C1.out).symm.trans hjo)) (by decide)⟩
        case measure => simp [intOf]
      · have HO := Lib.hid hok
        have HW := Lib.hid (fun w => ref02_Word w level ⟨1, F, false, false, false, false, 0⟩ hok)
        by_cases he : encW ⟨1, F, false, false, false, false, 0⟩ = x
        · have hv := dec_cand (level := level) (x := x) (k := ((1 : Nat) : Int)) (by rw [show candD x ((1 : Nat) : Int) = _ from C1.out]; exact hok) (by rw [show candD x ((1 : Nat) : Int) = _ from C1.out]; exact he)
          rw [show candD x ((1 : Nat) : Int) = _ from C1.out] at hv
          have HV := Lib.hid hv
          rw [he] at HW
          clear hok he hv
          go_wp2_with fail
          refine (ref02_May _ level ⟨1, F, false, false, false, false, 0⟩).mono ?_
          rintro e w' ⟨⟨ex1, rfl⟩, rfl⟩
          rw [HO.out]
          go_wp2_with fail
          refine (HW.out _).mono ?_
          rintro e w' ⟨⟨ex2, rfl⟩, rfl⟩
          go_wp2_with fail
          refine bodyPost_ret (results_cell_row rfl _ _ w.heap.size 128 _ (0, 0) _ rfl (by repeat (first | (with_reducible exact heap_alloc_new _ _) | (with_reducible apply box_more) | (with_reducible apply box_alloc) | (with_reducible apply box_drew) | (with_reducible apply box_drewN))) Try.underlying128 rfl (by kernel_rfl)) rfl ?_
          exact ⟨(by repeat (first | exact Ext.refl _ | apply Ext.more | apply Ext.alloc | apply Ext.drew | apply Ext.drewN)), by rw [HV.out]⟩
        · have hb : (encW ⟨1, F, false, false, false, false, 0⟩ == x) = false := by simpa using he
          have HE := Lib.hid he
          obtain ⟨q, hq⟩ : ∃ q, encW ⟨1, F, false, false, false, false, 0⟩ = q := ⟨_, rfl⟩
          have HQ := Lib.hid hq
          rw [hq] at hb HW HE
          clear hq
          clear hok he
          go_wp2_with fail
          refine (ref02_May _ level ⟨1, F, false, false, false, false, 0⟩).mono ?_
          rintro e w' ⟨⟨ex1, rfl⟩, rfl⟩
          rw [HO.out]
          go_wp2_with fail
          refine (HW.out _).mono ?_
          rintro e w' ⟨⟨ex2, rfl⟩, rfl⟩
          go_wp2_with fail
          go_roundw
          case rel => exact ⟨2, by omega, by go_num, (by repeat (first | exact Ext.refl _ | apply Ext.more | apply Ext.alloc | apply Ext.drew | apply Ext.drewN)), fun j hj hjo => by
            by_cases e : j < 1
            · exact HN.out j e hjo
            · obtain rfl : j = 1 := by omega
              rw [show candD x ((1 : Nat) : Int) = _ from C1.out, HQ.out]; exact HE.out⟩
          case measure => simp [intOf]
    · cases hok : okD level ⟨2, F, v7 == 0, v54 == 0, v10 == 1, v52 == 1, S⟩
      · have HO := Lib.hid hok
        clear hok
        go_wp2_with fail
        refine (ref02_May _ level ⟨2, F, v7 == 0, v54 == 0, v10 == 1, v52 == 1, S⟩).mono ?_
        rintro e w' ⟨⟨ex1, rfl⟩, rfl⟩
        rw [HO.out]
        go_wp2_with fail
        go_roundw
        case rel => exact ⟨3, by omega, by go_num, (by repeat (first | exact Ext.refl _ | apply Ext.more | apply Ext.alloc | apply Ext.drew | apply Ext.drewN)), fun j hj hjo => by
            by_cases e : j < 2
            · exact HN.out j e hjo
            · obtain rfl : j = 2 := by omega
              exact absurd (HO.out.symm.trans ((congrArg (okD level) C2.out).symm.trans hjo)) (by decide)⟩
        case measure => simp [intOf]
      · have HO := Lib.hid hok
        have HW := Lib.hid (fun w => ref02_Word w level ⟨2, F, v7 == 0, v54 == 0, v10 == 1, v52 == 1, S⟩ hok)
        by_cases he : encW ⟨2, F, v7 == 0, v54 == 0, v10 == 1, v52 == 1, S⟩ = x
        · have hv := dec_cand (level := level) (x := x) (k := ((2 : Nat) : Int)) (by rw [show candD x ((2 : Nat) : Int) = _ from C2.out]; exact hok) (by rw [show candD x ((2 : Nat) : Int) = _ from C2.out]; exact he)
          rw [show candD x ((2 : Nat) : Int) = _ from C2.out] at hv
          have HV := Lib.hid hv
          rw [he] at HW
          clear hok he hv
          go_wp2_with fail
          refine (ref02_May _ level ⟨2, F, v7 == 0, v54 == 0, v10 == 1, v52 == 1, S⟩).mono ?_
          rintro e w' ⟨⟨ex1, rfl⟩, rfl⟩
          rw [HO.out]
          go_wp2_with fail
          refine (HW.out _).mono ?_
          rintro e w' ⟨⟨ex2, rfl⟩, rfl⟩
          go_wp2_with fail
          refine bodyPost_ret (results_cell_row rfl _ _ w.heap.size 128 _ (0, 0) _ rfl (by repeat (first | (with_reducible exact heap_alloc_new _ _) | (with_reducible apply box_more) | (with_reducible apply box_alloc) | (with_reducible apply box_drew) | (with_reducible apply box_drewN))) Try.underlying128 rfl (by kernel_rfl)) rfl ?_
          exact ⟨(by repeat (first | exact Ext.refl _ | apply Ext.more | apply Ext.alloc | apply Ext.drew | apply Ext.drewN)), by rw [HV.out]⟩
        · have hb : (encW ⟨2, F, v7 == 0, v54 == 0, v10 == 1, v52 == 1, S⟩ == x) = false := by simpa using he
          have HE := Lib.hid he
          obtain ⟨q, hq⟩ : ∃ q, encW ⟨2, F, v7 == 0, v54 == 0, v10 == 1, v52 == 1, S⟩ = q := ⟨_, rfl⟩
          have HQ := Lib.hid hq
          rw [hq] at hb HW HE
          clear hq
          clear hok he
          go_wp2_with fail
          refine (ref02_May _ level ⟨2, F, v7 == 0, v54 == 0, v10 == 1, v52 == 1, S⟩).mono ?_
          rintro e w' ⟨⟨ex1, rfl⟩, rfl⟩
          rw [HO.out]
          go_wp2_with fail
          refine (HW.out _).mono ?_
          rintro e w' ⟨⟨ex2, rfl⟩, rfl⟩
          go_wp2_with fail
          go_roundw
          case rel => exact ⟨3, by omega, by go_num, (by repeat (first | exact Ext.refl _ | apply Ext.more | apply Ext.alloc | apply Ext.drew | apply Ext.drewN)), fun j hj hjo => by
            by_cases e : j < 2
            · exact HN.out j e hjo
            · obtain rfl : j = 2 := by omega
              rw [show candD x ((2 : Nat) : Int) = _ from C2.out, HQ.out]; exact HE.out⟩
          case measure => simp [intOf]
    · cases hok : okD level ⟨3, F, v7 == 0, v54 == 0, v10 == 1, v52 == 1, S⟩
      · have HO := Lib.hid hok
        clear hok
        go_wp2_with fail
        refine (ref02_May _ level ⟨3, F, v7 == 0, v54 == 0, v10 == 1, v52 == 1, S⟩).mono ?_
        rintro e w' ⟨⟨ex1, rfl⟩, rfl⟩
        rw [HO.out]
        go_wp2_with fail
        go_roundw
        case rel => exact ⟨4, by omega, by go_num, (by repeat (first | exact Ext.refl _ | apply Ext.more | apply Ext.alloc | apply Ext.drew | apply Ext.drewN)), fun j hj hjo => by
            by_cases e : j < 3
            · exact HN.out j e hjo
            · obtain rfl : j = 3 := by omega
              exact absurd (HO.out.symm.trans ((congrArg (okD level) C3.out).symm.trans hjo)) (by decide)⟩
        case measure => simp [intOf]
      · have HO := Lib.hid hok
        have HW := Lib.hid (fun w => ref02_Word w level ⟨3, F, v7 == 0, v54 == 0, v10 == 1, v52 == 1, S⟩ hok)
        by_cases he : encW ⟨3, F, v7 == 0, v54 == 0, v10 == 1, v52 == 1, S⟩ = x
        · have hv := dec_cand (level := level) (x := x) (k := ((3 : Nat) : Int)) (by rw [show candD x ((3 : Nat) : Int) = _ from C3.out]; exact hok) (by rw [show candD x ((3 : Nat) : Int) = _ from C3.out]; exact he)
          rw [show candD x ((3 : Nat) : Int) = _ from C3.out] at hv
          have HV := Lib.hid hv
          rw [he] at HW
          clear hok he hv
          go_wp2_with fail
          refine (ref02_May _ level ⟨3, F, v7 == 0, v54 == 0, v10 == 1, v52 == 1, S⟩).mono ?_
          rintro e w' ⟨⟨ex1, rfl⟩, rfl⟩
          rw [HO.out]
          go_wp2_with fail
          refine (HW.out _).mono ?_
          rintro e w' ⟨⟨ex2, rfl⟩, rfl⟩
          go_wp2_with fail
          refine bodyPost_ret (results_cell_row rfl _ _ w.heap.size 128 _ (0, 0) _ rfl (by repeat (first | (with_reducible exact heap_alloc_new _ _) | (with_reducible apply box_more) | (with_reducible apply box_alloc) | (with_reducible apply box_drew) | (with_reducible apply box_drewN))) Try.underlying128 rfl (by kernel_rfl)) rfl ?_
          exact ⟨(by repeat (first | exact Ext.refl _ | apply Ext.more | apply Ext.alloc | apply Ext.drew | apply Ext.drewN)), by rw [HV.out]⟩
        · have hb : (encW ⟨3, F, v7 == 0, v54 == 0, v10 == 1, v52 == 1, S⟩ == x) = false := by simpa using he
          have HE := Lib.hid he
          obtain ⟨q, hq⟩ : ∃ q, encW ⟨3, F, v7 == 0, v54 == 0, v10 == 1, v52 == 1, S⟩ = q := ⟨_, rfl⟩
          have HQ := Lib.hid hq
          rw [hq] at hb HW HE
          clear hq
          clear hok he
          go_wp2_with fail
          refine (ref02_May _ level ⟨3, F, v7 == 0, v54 == 0, v10 == 1, v52 == 1, S⟩).mono ?_
          rintro e w' ⟨⟨ex1, rfl⟩, rfl⟩
          rw [HO.out]
          go_wp2_with fail
          refine (HW.out _).mono ?_
          rintro e w' ⟨⟨ex2, rfl⟩, rfl⟩
          go_wp2_with fail
          go_roundw
          case rel => exact ⟨4, by omega, by go_num, (by repeat (first | exact Ext.refl _ | apply Ext.more | apply Ext.alloc | apply Ext.drew | apply Ext.drewN)), fun j hj hjo => by
            by_cases e : j < 3
            · exact HN.out j e hjo
            · obtain rfl : j = 3 := by omega
              rw [show candD x ((3 : Nat) : Int) = _ from C3.out, HQ.out]; exact HE.out⟩
          case measure => simp [intOf]
    · cases hok : okD level ⟨4, F, v7 == 0, v54 == 0, v10 == 1, v52 == 1, S⟩
      · have HO := Lib.hid hok
        clear hok
        go_wp2_with fail
        refine (ref02_May _ level ⟨4, F, v7 == 0, v54 == 0, v10 == 1, v52 == 1, S⟩).mono ?_
        rintro e w' ⟨⟨ex1, rfl⟩, rfl⟩
        rw [HO.out]
        go_wp2_with fail
        go_roundw
        case rel => exact ⟨5, by omega, by go_num, (by repeat (first | exact Ext.refl _ | apply Ext.more | apply Ext.alloc | apply Ext.drew | apply Ext.drewN)), fun j hj hjo => by
            by_cases e : j < 4
            · exact HN.out j e hjo
            · obtain rfl : j = 4 := by omega
              exact absurd (HO.out.symm.trans ((congrArg (okD level) C4.out).symm.trans hjo)) (by decide)⟩
        case measure => simp [intOf]
      · have HO := Lib.hid hok
        have HW := Lib.hid (fun w => ref02_Word w level ⟨4, F, v7 == 0, v54 == 0, v10 == 1, v52 == 1, S⟩ hok)
        by_cases he : encW ⟨4, F, v7 == 0, v54 == 0, v10 == 1, v52 == 1, S⟩ = x
        · have hv := dec_cand (level := level) (x := x) (k := ((4 : Nat) : Int)) (by rw [show candD x ((4 : Nat) : Int) = _ from C4.out]; exact hok) (by rw [show candD x ((4 : Nat) : Int) = _ from C4.out]; exact he)
          rw [show candD x ((4 : Nat) : Int) = _ from C4.out] at hv
          have HV := Lib.hid hv
          rw [he] at HW
          clear hok he hv
          go_wp2_with fail
          refine (ref02_May _ level ⟨4, F, v7 == 0, v54 == 0, v10 == 1, v52 == 1, S⟩).mono ?_
          rintro e w' ⟨⟨ex1, rfl⟩, rfl⟩
          rw [HO.out]
          go_wp2_with fail
          refine (HW.out _).mono ?_
          rintro e w' ⟨⟨ex2, rfl⟩, rfl⟩
          go_wp2_with fail
          refine bodyPost_ret (results_cell_row rfl _ _ w.heap.size 128 _ (0, 0) _ rfl (by repeat (first | (with_reducible exact heap_alloc_new _ _) | (with_reducible apply box_more) | (with_reducible apply box_alloc) | (with_reducible apply box_drew) | (with_reducible apply box_drewN))) Try.underlying128 rfl (by kernel_rfl)) rfl ?_
          exact ⟨(by repeat (first | exact Ext.refl _ | apply Ext.more | apply Ext.alloc | apply Ext.drew | apply Ext.drewN)), by rw [HV.out]⟩
        · have hb : (encW ⟨4, F, v7 == 0, v54 == 0, v10 == 1, v52 == 1, S⟩ == x) = false := by simpa using he
          have HE := Lib.hid he
          obtain ⟨q, hq⟩ : ∃ q, encW ⟨4, F, v7 == 0, v54 == 0, v10 == 1, v52 == 1, S⟩ = q := ⟨_, rfl⟩
          have HQ := Lib.hid hq
          rw [hq] at hb HW HE
          clear hq
          clear hok he
          go_wp2_with fail
          refine (ref02_May _ level ⟨4, F, v7 == 0, v54 == 0, v10 == 1, v52 == 1, S⟩).mono ?_
          rintro e w' ⟨⟨ex1, rfl⟩, rfl⟩
          rw [HO.out]
          go_wp2_with fail
          refine (HW.out _).mono ?_
          rintro e w' ⟨⟨ex2, rfl⟩, rfl⟩
          go_wp2_with fail
          go_roundw
          case rel => exact ⟨5, by omega, by go_num, (by repeat (first | exact Ext.refl _ | apply Ext.more | apply Ext.alloc | apply Ext.drew | apply Ext.drewN)), fun j hj hjo => by
            by_cases e : j < 4
            · exact HN.out j e hjo
            · obtain rfl : j = 4 := by omega
              rw [show candD x ((4 : Nat) : Int) = _ from C4.out, HQ.out]; exact HE.out⟩
          case measure => simp [intOf]
    · have hv := dec_none (level := level) (x := x) (fun j hj => HN.out j (by omega))
      have HV := Lib.hid hv
      clear hv
      go_wp2_with fail
      refine bodyPost_ret (results_cell_row rfl _ _ w.heap.size 128 _ (0, 0) _ rfl (by repeat (first | (with_reducible exact heap_alloc_new _ _) | (with_reducible apply box_more) | (with_reducible apply box_alloc) | (with_reducible apply box_drew) | (with_reducible apply box_drewN))) Try.underlying128 rfl (by kernel_rfl)) rfl ?_
      exact ⟨(by repeat (first | exact Ext.refl _ | apply Ext.more | apply Ext.alloc | apply Ext.drew | apply Ext.drewN)), by rw [HV.out]; rfl⟩

end Go.Proofs.Ythcdecgecabgaaa
