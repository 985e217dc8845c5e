/- The contracts of the document's answer paviorref17: Run, Alike. -/
import Derived.Test.YtmcjfnkekcablaaFold
namespace Go.Proofs.Ytmcjfnkekcablaa
open Go.RowKit
set_option linter.unusedVariables false
set_option linter.unusedSimpArgs false
attribute [local go_sem] setCell_drewN alloc_drewN lt_moreE le_moreE lt_moreK le_moreK cell_more frozen_more set_more drew_more drewN_more

set_option maxRecDepth 100000 in
set_option maxHeartbeats 4000000 in
theorem ref17_Run (w : World) {h hc n : Nat} {gb gc : Nat → Nat} {ws : List Int} (hr0 : RefAt w h hc n gb gc ws) (hw : WOk ws) (root page : Int) (p0 : 0 ≤ page) (p1 : page < 4096) (r : Option (List Found)) (hr : runN ws n root (page - page % 4) 4 = r) :
    Calls Try.prog 19 #[.slice (some ⟨h, 0, none⟩) n hc, .int .i64 root, .int .i64 page] w fun e w' => Ext w w' ∧ RWholeRet w.heap.size w' r e := by
  have HM := Lib.hid hr0
  have HW := Lib.hid hw
  have HR := Lib.hid hr
  have hfp : page - page % 4 = page / 4 * 4 := by omega
  rw [hfp] at HR
  clear hr0 hw hr hfp
  go_enter Try.func19, Try.ntmps19
  go_wp2_with fail
  go_loopw [8, 9] (fun o k wr => ∃ (i : Nat) (acc : List Found), i ≤ 4 ∧ k = .int .i64 i ∧ acc.length = i ∧ Ext w wr ∧ Hid (runN ws n root (page / 4 * 4) i = some acc) ∧ Hid (wr.ownsRow w.heap.size 92 11 o acc.length (acc.map Found.cells).flatten)) (fun _ k _ => 4 - (intOf k).toNat)
  case atStart => exact ⟨0, [], by omega, rfl, rfl, (by repeat (first | exact Ext.refl _ | apply Ext.more | apply Ext.alloc | apply Ext.drew | apply Ext.drewN)), rfl, World.ownsRow_nil _ _ _ _⟩
  case round =>
    obtain ⟨i, acc, hi, rfl, hal, ⟨x, rfl⟩, HE, HO⟩ := hrel
    by_cases hlt : i < 4
    · have hs := fun r => runN_step (r := r) HE.out
      have HK := Lib.hid (fun w hr r hres => ref04_Walk (w := w) (h := h) (hc := hc) (n := n) (gb := gb) (gc := gc) (us := ws) hr HW.out root (page / 4 * 4 + i) (by omega) (by omega) r hres)
      cases hres : walkAt ws n (page / 4 * 4 + i) 4 0 root with
      | none =>
        have hn := runN_none (i + 1) (hs none hres) (3 - i)
        rw [show i + 1 + (3 - i) = 4 by omega, HR.out] at hn
        subst hn
        have HK' := Lib.hid (fun w hr => HK.out w hr none hres)
        clear hres hs HE HK
        go_wp2_with fail
        refine (HK'.out _ (by repeat (first | exact HM.out | apply RefAt.more | apply RefAt.alloc | apply RefAt.drew | apply RefAt.drewN))).mono ?_
        rintro e w' ⟨⟨ex2, rfl⟩, rfl⟩
        rw [refV_n]
        go_wp2_with fail
        go_ret2
        exact ⟨(by repeat (first | exact Ext.refl _ | apply Ext.more | apply Ext.alloc | apply Ext.drew | apply Ext.drewN)), rfl⟩
      | some f =>
        have HN := Lib.hid (show runN ws n root (page / 4 * 4) (i + 1) = some (acc ++ [f]) from hs (some f) hres)
        have HK' := Lib.hid (fun w hr => HK.out w hr (some f) hres)
        clear hres hs HE HK
        obtain ⟨F0, F1, F2, F3, F4, F5, F6, F7, F8, F9, F10⟩ := f
        go_wp2_with fail
        refine (HK'.out _ (by repeat (first | exact HM.out | apply RefAt.more | apply RefAt.alloc | apply RefAt.drew | apply RefAt.drewN))).mono ?_
        rintro e w' ⟨⟨ex2, rfl⟩, rfl⟩
        rw [refV_s]
        go_wp2_with ((at_builtin; refine wpList_append_new w el_Found rfl _ _ rfl u8 acc.length _ rfl (by repeat (first | exact HO.out | apply own_more | apply own_alloc | apply own_drew | apply own_drewN)) (by repeat (first | exact Ext.refl _ | apply Ext.more | apply Ext.alloc | apply Ext.drew | apply Ext.drewN)) _ _ 1 _ rfl (by simp) rfl rfl (by omega) ?_); intro v' x' HO' keep; clear keep)
        go_roundw
        case rel => exact ⟨i + 1, acc ++ [⟨F0, F1, F2, F3, F4, F5, F6, F7, F8, F9, F10⟩], by omega, by go_num, by simp; omega, (by repeat (first | exact Ext.refl _ | apply Ext.more | apply Ext.alloc | apply Ext.drew | apply Ext.drewN)), HN, by show World.ownsRow _ _ _ _ _ _ _; simpa [Found.cells] using HO'.out⟩
        case measure => simp [intOf]; omega
    · obtain rfl : i = 4 := by omega
      have HV := Lib.hid (HR.out.symm.trans HE.out)
      clear HE
      go_wp2_with fail
      go_ret2
      exact ⟨(by repeat (first | exact Ext.refl _ | apply Ext.more | apply Ext.alloc | apply Ext.drew | apply Ext.drewN)), rwholeRet_some HV.out HO.out (Nat.le_refl _) rfl rfl⟩

end Go.Proofs.Ytmcjfnkekcablaa
