/- The contract of the document's answer paviorref04.Whole; the law paviorlaw04.WalkWhole. -/
import Derived.Test.YtmpgkgnbhjnelaaLawg
import Derived.Test.YtmpgkgnbhjnelaaPagw
import Derived.Test.YtmpgkgnbhjnelaaMorf
namespace Go.Proofs.Ytmpgkgnbhjnelaa
open Go.RowKit
set_option linter.unusedVariables false
set_option linter.unusedSimpArgs false
attribute [local go_sem] setCell_drewN alloc_drewN lt_moreE le_moreE lt_moreK le_moreK cell_more frozen_more set_more drew_more drewN_more

theorem el_Found : ElemAt Try.prog 76 63 (.agg #[.int .i64 0, .int .i64 0, .int .i64 0, .int .i64 0, .int .i64 0, .int .i64 0, .int .i64 0, .int .i64 0, .bool false, .bool false, .bool false]) 11 72 := ⟨Try.underlying76, by kernel_rfl, rfl, by decide, by decide⟩
/-- What the document's Whole answers. -/
def RWholeRet (B : Nat) (w' : World) (r : Option (List Found)) (e : Ending) : Prop := match r with
  | some s => ∃ a cap, e = .returned (.tuple #[.slice a s.length cap, .int .i64 0]) ∧ w'.ownsRow B 63 11 (.slice a s.length cap) s.length (s.map Found.cells).flatten
  | none => e = .returned (.tuple #[.slice none 0 0, .int .i64 2])
theorem rwholeRet_some {B B' n : Nat} {w' : World} {r : Option (List Found)} {s : List Found} {v : Value} {xs : List Value} (hr : r = some s) (h : w'.ownsRow B' 63 11 v n xs) (hb : B ≤ B') (hn : n = s.length) (hx : xs = (s.map Found.cells).flatten) : RWholeRet B w' r (.returned (.tuple #[v, .int .i64 0])) := by
  obtain ⟨a, cap, rfl⟩ := own_form h
  subst hn hx hr
  exact ⟨a, cap, rfl, own_low h hb⟩
theorem pagesW_in {ws : List Int} {n root p : Int} {k : Nat} {f : Found} (hp : p < 4096) (hw : walkAt ws n p 4 0 root = some f) : pagesW ws n root (k + 1) p = (pagesW ws n root k (p + 1)).map fun l => if f.fKind = 3 ∨ (f.fKind = 2 ∧ f.fFirst = p) then f :: l else l := by
  conv => lhs; unfold pagesW
  rw [if_pos hp, hw]
theorem pagesW_no {ws : List Int} {n root p : Int} {k : Nat} (hp : p < 4096) (hw : walkAt ws n p 4 0 root = none) : pagesW ws n root (k + 1) p = none := by
  conv => lhs; unfold pagesW
  rw [if_pos hp, hw]
theorem pagesW_end {ws : List Int} {n root : Int} {k : Nat} : pagesW ws n root (k + 1) 4096 = some [] := by
  unfold pagesW
  rw [if_neg (by omega)]

set_option maxRecDepth 100000 in
set_option maxHeartbeats 4000000 in
theorem ref04_Whole (w : World) {h hc n : Nat} {gb gc : Nat → Nat} {ws : List Int} (hr : RefAt w h hc n gb gc ws) (hw : WOk ws) (root : Int) :
    Calls Try.prog 40 #[.slice (some ⟨h, 0, none⟩) n hc, .int .i64 root] w fun e w' => Ext w w' ∧ RWholeRet w.heap.size w' (pagesW ws n root 4097 0) e := by
  have HR := Lib.hid hr
  have HW := Lib.hid hw
  clear hr hw
  go_enter Try.func40, Try.ntmps40
  go_wp2_with fail
  go_loopw [6, 7] (fun o p wr => ∃ (pg : Nat) (acc : List Found), pg ≤ 4096 ∧ p = .int .i64 pg ∧ acc.length ≤ pg ∧ Ext w wr ∧ Hid (pagesW ws n root 4097 0 = (pagesW ws n root (4096 - pg + 1) pg).map (acc ++ ·)) ∧ Hid (wr.ownsRow w.heap.size 63 11 o acc.length (acc.map Found.cells).flatten)) (fun _ p _ => 4096 - (intOf p).toNat)
  case atStart => exact ⟨0, [], by omega, rfl, by simp, Ext.refl _, by show _ = _; cases pagesW ws n root 4097 0 <;> simp, World.ownsRow_nil _ _ _ _⟩
  case round =>
    obtain ⟨pg, acc, hpg, rfl, hal, ⟨x, rfl⟩, HE, HO⟩ := hrel
    by_cases hlt : pg < 4096
    · have hltI : (pg : Int) < 4096 := by omega
      have hst := HE.out
      rw [show 4096 - pg + 1 = (4096 - (pg + 1) + 1) + 1 by omega] at hst
      have HWK := Lib.hid (fun w hr r hres => ref04_Walk (w := w) (h := h) (hc := hc) (n := n) (gb := gb) (gc := gc) (us := ws) hr HW.out root pg (by omega) hltI r hres)
      cases hres : walkAt ws n pg 4 0 root with
      | none =>
        rw [pagesW_no hltI hres] at hst
        have HV := Lib.hid hst
        have HK := Lib.hid (fun w hr => HWK.out w hr none hres)
        clear hst hres HWK HE
        go_wp2_with (go_at_call 37; refine (HK.out _ (by repeat (first | exact HR.out | apply RefAt.more | apply RefAt.alloc | apply RefAt.drew | apply RefAt.drewN))).mono ?_; rintro e w' ⟨⟨ex1, rfl⟩, rfl⟩; rw [refV_n])
        go_ret2
        exact ⟨(by repeat (first | exact Ext.refl _ | apply Ext.more | apply Ext.alloc | apply Ext.drew | apply Ext.drewN)), by rw [HV.out]; rfl⟩
      | some f =>
        rw [pagesW_in hltI hres] at hst
        have HK := Lib.hid (fun w hr => HWK.out w hr (some f) hres)
        clear hres HWK HE
        obtain ⟨F0, F1, F2, F3, F4, F5, F6, F7, F8, F9, F10⟩ := f
        dsimp only at hst
        rw [show (pg : Int) + 1 = ((pg + 1 : Nat) : Int) by simp] at hst
        by_cases hap : F0 = 3 ∨ (F0 = 2 ∧ F6 = pg)
        · have hn : Hid (pagesW ws n root 4097 0 = (pagesW ws n root (4096 - (pg + 1) + 1) ((pg + 1 : Nat) : Int)).map ((acc ++ [⟨F0, F1, F2, F3, F4, F5, F6, F7, F8, F9, F10⟩]) ++ ·)) := by
            show _ = _
            rw [hst]
            simp only [if_pos hap]
            cases pagesW ws n root (4096 - (pg + 1) + 1) ((pg + 1 : Nat) : Int) <;> simp
          clear hst
          rcases hap with rfl | ⟨rfl, rfl⟩
          all_goals
            go_wp2_with (first
              | (go_at_call 37; refine (HK.out _ (by repeat (first | exact HR.out | apply RefAt.more | apply RefAt.alloc | apply RefAt.drew | apply RefAt.drewN))).mono ?_; rintro e w' ⟨⟨ex1, rfl⟩, rfl⟩; rw [refV_s])
              | ((at_builtin; refine wpList_append_new w el_Found rfl _ _ rfl u6 acc.length _ rfl (by repeat (first | exact HO.out | apply own_more | apply own_alloc | apply own_drew | apply own_drewN)) (by repeat (first | exact Ext.refl _ | apply Ext.more | apply Ext.alloc | apply Ext.drew | apply Ext.drewN)) _ _ 1 _ rfl (by simp) rfl rfl (by omega) ?_); intro v' x' HO' keep; clear keep))
            go_roundw
            case rel => exact ⟨pg + 1, _, by omega, by go_num, by simp; omega, (by repeat (first | exact Ext.refl _ | apply Ext.more | apply Ext.alloc | apply Ext.drew | apply Ext.drewN)), hn, by show World.ownsRow _ _ _ _ _ _ _; simpa [Found.cells] using HO'.out⟩
            case measure => simp [intOf]; omega
        · have hn : Hid (pagesW ws n root 4097 0 = (pagesW ws n root (4096 - (pg + 1) + 1) ((pg + 1 : Nat) : Int)).map (acc ++ ·)) := by
            show _ = _
            rw [hst]
            simp only [if_neg hap]
            cases pagesW ws n root (4096 - (pg + 1) + 1) ((pg + 1 : Nat) : Int) <;> simp
          have h3 : (F0 == 3) = false := by simp; omega
          clear hst
          by_cases h2 : F0 = 2
          · have h6 : (F6 == (pg : Int)) = false := by simp; omega
            subst h2
            clear hap
            go_wp2_with (go_at_call 37; refine (HK.out _ (by repeat (first | exact HR.out | apply RefAt.more | apply RefAt.alloc | apply RefAt.drew | apply RefAt.drewN))).mono ?_; rintro e w' ⟨⟨ex1, rfl⟩, rfl⟩; rw [refV_s])
            go_roundw
            case rel => exact ⟨pg + 1, _, by omega, by go_num, by omega, (by repeat (first | exact Ext.refl _ | apply Ext.more | apply Ext.alloc | apply Ext.drew | apply Ext.drewN)), hn, (by repeat (first | exact HO.out | apply own_more | apply own_alloc | apply own_drew | apply own_drewN))⟩
            case measure => simp [intOf]; omega
          · have h2' : (F0 == 2) = false := by simpa using h2
            clear hap h2
            go_wp2_with (go_at_call 37; refine (HK.out _ (by repeat (first | exact HR.out | apply RefAt.more | apply RefAt.alloc | apply RefAt.drew | apply RefAt.drewN))).mono ?_; rintro e w' ⟨⟨ex1, rfl⟩, rfl⟩; rw [refV_s])
            go_roundw
            case rel => exact ⟨pg + 1, _, by omega, by go_num, by omega, (by repeat (first | exact Ext.refl _ | apply Ext.more | apply Ext.alloc | apply Ext.drew | apply Ext.drewN)), hn, (by repeat (first | exact HO.out | apply own_more | apply own_alloc | apply own_drew | apply own_drewN))⟩
            case measure => simp [intOf]; omega
    · obtain rfl : pg = 4096 := by omega
      have hst := HE.out
      rw [show 4096 - 4096 + 1 = 0 + 1 by omega, show ((4096 : Nat) : Int) = 4096 by rfl, pagesW_end] at hst
      have HV := Lib.hid hst
      clear hst HE
      go_wp2_with fail
      go_ret2
      exact ⟨(by repeat (first | exact Ext.refl _ | apply Ext.more | apply Ext.alloc | apply Ext.drew | apply Ext.drewN)), rwholeRet_some HV.out HO.out (Nat.le_refl _) (by simp) (by simp)⟩

end Go.Proofs.Ytmpgkgnbhjnelaa
