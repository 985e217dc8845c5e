/- The contract of paviorlaw12.alike: every walk finds what it found. -/
import Derived.Test.YtapeoeakiphfpaaSemw
import Derived.Test.YtapeoeakiphfpaaLawg
namespace Go.Proofs.Ytapeoeakiphfpaa
open Go.RowKit
set_option linter.unusedVariables false
set_option linter.unusedSimpArgs false
attribute [local go_sem] setCell_drewN alloc_drewN lt_moreE le_moreE lt_moreK le_moreK cell_more frozen_more set_more drew_more drewN_more

set_option maxRecDepth 100000 in
set_option maxHeartbeats 8000000 in
theorem law12_alike (w : World) {h hc n : Nat} {gb gc : Nat → Nat} {ws : List Int} (hr : RefAt w h hc n gb gc ws) {h' hc' : Nat} {gb' gc' : Nat → Nat} {us : List Int} (hr2 : RefAt w h' hc' n gb' gc' us) (hw : WOk ws) (hu : WOk us)
    (root : Int) (r0 : 0 ≤ root) (r1 : root < n) (hA : AlikeW ws us n root) :
    Calls Try.prog 39 #[.slice (some ⟨h, 0, none⟩) n hc, .slice (some ⟨h', 0, none⟩) n hc', .int .i64 root] w fun e w' => Ext w w' ∧ e = .returned (.bool true) := by
  have HR := Lib.hid hr
  have HR2 := Lib.hid hr2
  have HA := Lib.hid hA
  clear hr hr2 hA
  go_enter Try.func39, Try.ntmps39
  go_wp2_with fail
  go_loopw [7, 8, 9, 10, 11] (fun i _ _ _ _ wr => ∃ k : Nat, k ≤ 4096 ∧ i = .int .i64 k ∧ Ext w wr) (fun i _ _ _ _ _ => 4096 - (intOf i).toNat)
  case atStart => exact ⟨0, Nat.zero_le _, rfl, Ext.refl _⟩
  case round =>
    obtain ⟨k, hk, rfl, ⟨x, rfl⟩⟩ := hrel
    by_cases hlt : k < 4096
    · cases hx : walkAt ws n k 4 0 root with
      | none =>
        have HX := Lib.hid (fun w hr => ref04_Walk (w := w) (h := h) (hc := hc) (gb := gb) (gc := gc) hr hw root k (by omega) (by omega) none hx)
        obtain ⟨y, hy⟩ : ∃ y, walkAt us n k 4 0 root = y := ⟨_, rfl⟩
        have HY := Lib.hid (fun w hr => ref04_Walk (w := w) (h := h') (hc := hc') (gb := gb') (gc := gc') hr hu root k (by omega) (by omega) y hy)
        clear hx hy
        cases y with
        | none =>
          go_wp2_with fail
          refine (HX.out _ (by repeat (first | exact HR.out | apply RefAt.more | apply RefAt.alloc | apply RefAt.drew | apply RefAt.drewN))).mono ?_
          rintro e w' ⟨⟨ex1, rfl⟩, rfl⟩
          rw [refV_n]
          go_wp2_with fail
          refine (HY.out _ (by repeat (first | exact HR2.out | apply RefAt.more | apply RefAt.alloc | apply RefAt.drew | apply RefAt.drewN))).mono ?_
          rintro e w' ⟨⟨ex2, rfl⟩, rfl⟩
          rw [refV_n]
          go_wp2_with fail
          go_roundw
          case rel => exact ⟨k + 1, by omega, by go_num, (by repeat (first | exact Ext.refl _ | apply Ext.more | apply Ext.alloc | apply Ext.drew | apply Ext.drewN))⟩
          case measure => simp [intOf]; omega
        | some y =>
          obtain ⟨Y0, Y1, Y2, Y3, Y4, Y5, Y6, Y7, Y8, Y9, Y10⟩ := y
          go_wp2_with fail
          refine (HX.out _ (by repeat (first | exact HR.out | apply RefAt.more | apply RefAt.alloc | apply RefAt.drew | apply RefAt.drewN))).mono ?_
          rintro e w' ⟨⟨ex1, rfl⟩, rfl⟩
          rw [refV_n]
          go_wp2_with fail
          refine (HY.out _ (by repeat (first | exact HR2.out | apply RefAt.more | apply RefAt.alloc | apply RefAt.drew | apply RefAt.drewN))).mono ?_
          rintro e w' ⟨⟨ex2, rfl⟩, rfl⟩
          rw [refV_s]
          go_wp2_with fail
          go_roundw
          case rel => exact ⟨k + 1, by omega, by go_num, (by repeat (first | exact Ext.refl _ | apply Ext.more | apply Ext.alloc | apply Ext.drew | apply Ext.drewN))⟩
          case measure => simp [intOf]; omega
      | some f =>
        obtain ⟨y, hy, hk1, hk2⟩ := HA.out k f hx
        have HX := Lib.hid (fun w hr => ref04_Walk (w := w) (h := h) (hc := hc) (gb := gb) (gc := gc) hr hw root k (by omega) (by omega) _ hx)
        have HY := Lib.hid (fun w hr => ref04_Walk (w := w) (h := h') (hc := hc') (gb := gb') (gc := gc') hr hu root k (by omega) (by omega) _ hy)
        clear hx hy
        obtain ⟨F0, F1, F2, F3, F4, F5, F6, F7, F8, F9, F10⟩ := f
        obtain ⟨Y0, Y1, Y2, Y3, Y4, Y5, Y6, Y7, Y8, Y9, Y10⟩ := y
        dsimp only at hk1 hk2
        obtain rfl : Y0 = F0 := hk1
        by_cases h0 : Y0 = 0
        · subst h0
          clear hk2
          go_wp2_with fail
          refine (HX.out _ (by repeat (first | exact HR.out | apply RefAt.more | apply RefAt.alloc | apply RefAt.drew | apply RefAt.drewN))).mono ?_
          rintro e w' ⟨⟨ex1, rfl⟩, rfl⟩
          rw [refV_s]
          go_wp2_with fail
          refine (HY.out _ (by repeat (first | exact HR2.out | apply RefAt.more | apply RefAt.alloc | apply RefAt.drew | apply RefAt.drewN))).mono ?_
          rintro e w' ⟨⟨ex2, rfl⟩, rfl⟩
          rw [refV_s]
          go_wp2_with fail
          go_roundw
          case rel => exact ⟨k + 1, by omega, by go_num, (by repeat (first | exact Ext.refl _ | apply Ext.more | apply Ext.alloc | apply Ext.drew | apply Ext.drewN))⟩
          case measure => simp [intOf]; omega
        · have he := hk2 h0
          simp only [Found.mk.injEq, true_and] at he
          obtain ⟨rfl, rfl, rfl, rfl, rfl, rfl, rfl, rfl, rfl, rfl⟩ := he
          have z1 : (Y0 != 0) = true := by simpa using h0
          have z2 : (Y0 == 0) = false := by simpa using h0
          clear hk2 h0
          go_wp2_with fail
          refine (HX.out _ (by repeat (first | exact HR.out | apply RefAt.more | apply RefAt.alloc | apply RefAt.drew | apply RefAt.drewN))).mono ?_
          rintro e w' ⟨⟨ex1, rfl⟩, rfl⟩
          rw [refV_s]
          go_wp2_with fail
          refine (HY.out _ (by repeat (first | exact HR2.out | apply RefAt.more | apply RefAt.alloc | apply RefAt.drew | apply RefAt.drewN))).mono ?_
          rintro e w' ⟨⟨ex2, rfl⟩, rfl⟩
          rw [refV_s]
          go_wp2_with fail
          go_roundw
          case rel => exact ⟨k + 1, by omega, by go_num, (by repeat (first | exact Ext.refl _ | apply Ext.more | apply Ext.alloc | apply Ext.drew | apply Ext.drewN))⟩
          case measure => simp [intOf]; omega
    · obtain rfl : k = 4096 := by omega
      go_wp2_with fail
      go_ret
      exact ⟨(by repeat (first | exact Ext.refl _ | apply Ext.more | apply Ext.alloc | apply Ext.drew | apply Ext.drewN)), rfl⟩

end Go.Proofs.Ytapeoeakiphfpaa
