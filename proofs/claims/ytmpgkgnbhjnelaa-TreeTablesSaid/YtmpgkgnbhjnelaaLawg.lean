/- The law paviorlaw04.WalkFinds. -/
import Derived.Test.YtmpgkgnbhjnelaaReff
import Derived.Test.YtmpgkgnbhjnelaaCode
namespace Go.Proofs.Ytmpgkgnbhjnelaa
open Go.RowKit
set_option linter.unusedVariables false
set_option linter.unusedSimpArgs false
attribute [local go_sem] setCell_drewN alloc_drewN lt_moreE le_moreE lt_moreK le_moreK cell_more frozen_more set_more drew_more drewN_more

theorem lay_ext (w : World) (fr : Int) (hfr : (Lit.int .i64 fr).wf = true) (l : List Laid) (hl : ∀ d ∈ l, d.wf) (v : Value) (hv : SlRd w v 3 (l.map Laid.cells)) :
    Calls Try.prog 31 #[.int .i64 fr, v] w fun e w' => ∃ b g h hc gb gc, e = .returned (.tuple #[.pointer (some ⟨b, 0, none⟩), .slice (some ⟨h, 0, none⟩) (layN fr) hc]) ∧
      MemAt w' b g (layN fr) (layN fr) (layW (layN fr) l) ∧ RefAt w' h hc (layN fr) gb gc (layW (layN fr) l) ∧ Ext w w' :=
  (law04_Lay w fr hfr l hl v hv).mono fun _ _ ⟨b, g, h, hc, gb, gc, he, hm, hr, hg, _⟩ => ⟨b, g, h, hc, gb, gc, he, hm, hr, .of hg⟩
theorem ref04_Walk {w : World} {h hc n : Nat} {gb gc : Nat → Nat} {us : List Int} (hr : RefAt w h hc n gb gc us) (hw : WOk us) (root page : Int) (p0 : 0 ≤ page) (p1 : page < 4096) (r : Option Found) (hres : walkAt us n page 4 0 root = r) :
    Calls Try.prog 37 #[.slice (some ⟨h, 0, none⟩) n hc, .int .i64 root, .int .i64 page] w fun e w' => Ext w w' ∧ e = .returned (refV r) := by
  have HR := Lib.hid hr
  have HA := Lib.hid (fun w hr => ref04_at (h := h) (hc := hc) (n := n) (gb := gb) (gc := gc) hw page p0 p1 4 w hr 0 root (by omega) (by omega) (by omega))
  rw [hres] at HA
  clear hr hw hres
  cases r with
  | none =>
    go_enter Try.func37, Try.ntmps37
    go_wp2_with (go_at_call 51; refine (HA.out _ (by repeat (first | exact HR.out | apply RefAt.more | apply RefAt.alloc | apply RefAt.drew | apply RefAt.drewN))).mono ?_; rintro e w' ⟨⟨ex1, rfl⟩, rfl⟩; rw [refV_n])
    refine bodyPost_ret (results_ct rfl _ _ w.heap.size 63 _ (0, 0) _ rfl (by repeat (first | (with_reducible exact heap_alloc_new _ _) | (with_reducible apply box_more) | (with_reducible apply box_alloc) | (with_reducible apply box_drew) | (with_reducible apply box_drewN))) Try.underlying63 rfl (by kernel_rfl)) rfl ?_
    exact ⟨(by repeat (first | exact Ext.refl _ | apply Ext.more | apply Ext.alloc | apply Ext.drew | apply Ext.drewN)), rfl⟩
  | some r =>
    obtain ⟨F0, F1, F2, F3, F4, F5, F6, F7, F8, F9, F10⟩ := r
    go_enter Try.func37, Try.ntmps37
    go_wp2_with (go_at_call 51; refine (HA.out _ (by repeat (first | exact HR.out | apply RefAt.more | apply RefAt.alloc | apply RefAt.drew | apply RefAt.drewN))).mono ?_; rintro e w' ⟨⟨ex1, rfl⟩, rfl⟩; rw [refV_s])
    refine bodyPost_ret (results_ct rfl _ _ w.heap.size 63 _ (0, 0) _ rfl (by repeat (first | (with_reducible exact heap_alloc_new _ _) | (with_reducible apply box_more) | (with_reducible apply box_alloc) | (with_reducible apply box_drew) | (with_reducible apply box_drewN))) Try.underlying63 rfl (by kernel_rfl)) rfl ?_
    exact ⟨(by repeat (first | exact Ext.refl _ | apply Ext.more | apply Ext.alloc | apply Ext.drew | apply Ext.drewN)), rfl⟩

theorem zeroF_v : zeroF.v = .agg #[.int .i64 0, .int .i64 0, .int .i64 0, .int .i64 0, .int .i64 0, .int .i64 0, .int .i64 0, .int .i64 0, .bool false, .bool false, .bool false] := rfl
theorem walkV_n : walkV none = .tuple #[.agg #[.int .i64 0, .int .i64 0, .int .i64 0, .int .i64 0, .int .i64 0, .int .i64 0, .int .i64 0, .int .i64 0, .bool false, .bool false, .bool false], errW 2] := rfl
theorem walkV_s (F0 F1 F2 F3 F4 F5 F6 F7 : Int) (F8 F9 F10 : Bool) : walkV (some ⟨F0, F1, F2, F3, F4, F5, F6, F7, F8, F9, F10⟩) = .tuple #[.agg #[.int .i64 F0, .int .i64 F1, .int .i64 F2, .int .i64 F3, .int .i64 F4, .int .i64 F5, .int .i64 F6, .int .i64 F7, .bool F8, .bool F9, .bool F10], .nilIface] := rfl

set_option maxRecDepth 100000 in
set_option maxHeartbeats 4000000 in
theorem law04_WalkFinds (w : World) (fr : Int) (hfr : (Lit.int .i64 fr).wf = true) (l : List Laid) (hl : ∀ d ∈ l, d.wf) (v : Value) (hv : SlRd w v 3 (l.map Laid.cells)) (root : Int) (_ : (Lit.int .i64 root).wf = true) (page : Int) (_ : (Lit.int .i64 page).wf = true) :
    Calls Try.prog 9 #[.int .i64 fr, v, .int .i64 root, .int .i64 page] w fun e w' => e = .returned (.bool true) ∧ w.grownBy w' none := by
  refine growC (R := fun e _ => e = .returned (.bool true)) ?_
  have hw := WOk_layW (layN fr) l hl
  have HL := Lib.hid hl
  have HV := Lib.hid hv
  have HR := Lib.hid hfr
  have heq := fun (w : World) => eql_err w 1 1
  clear hl hv hfr
  go_enter Try.func9, Try.ntmps9
  go_wp2_with fail
  refine (extC (law04_up _)).mono ?_
  rintro e w1 ⟨⟨ex1, rfl⟩, rfl⟩
  go_wp2_with fail
  refine (lay_ext _ fr HR.out l HL.out v (by repeat (first | exact HV.out | apply rd_more | apply rd_alloc | apply rd_drew | apply rd_drewN))).mono ?_
  rintro e w2 ⟨b, g, h, hc, gb, gc, rfl, hm2, hr2, hE⟩
  have hE2 : Ext w w2 := Ext.trans (by repeat (first | exact Ext.refl _ | apply Ext.more | apply Ext.alloc | apply Ext.drew | apply Ext.drewN)) hE
  have HM := Lib.hid hm2
  have HRF := Lib.hid hr2
  have HE2 := Lib.hid hE2
  clear HL HV HR hE hE2 hr2
  have hN1 := layN_lo fr
  generalize layW (layN fr) l = ws at *
  generalize layN fr = n at *
  clear hm2
  by_cases hin : 0 ≤ root ∧ root < n ∧ 0 ≤ page ∧ page < 4096
  · obtain ⟨r0, r1, p0, p1⟩ := hin
    obtain ⟨r, hres⟩ : ∃ r, walkAt ws n page 4 0 root = r := ⟨_, rfl⟩
    have HWK := Lib.hid (fun w (hm : MemAt w b g n n ws) => walk_Walk w hm hw root page r0 r1 p0 p1)
    rw [hres] at HWK
    have HWR := Lib.hid (fun w (hr : RefAt w h hc n gb gc ws) => ref04_Walk hr hw root page p0 p1 r hres)
    clear hw hres
    cases r with
    | none =>
      go_wp2_with fail
      refine (extC (HWK.out _ (by repeat (first | exact HM.out | apply MemAt.more | apply MemAt.alloc | apply MemAt.drew | apply MemAt.drewN)))).mono ?_
      rintro e w' ⟨⟨ex2, rfl⟩, rfl⟩
      rw [walkV_n]
      go_wp2_with fail
      refine (extC (walk_Walk_nil _ root page)).mono ?_
      rintro e w' ⟨⟨ex3, rfl⟩, rfl⟩
      rw [zeroF_v]
      go_wp2_with fail
      refine (HWR.out _ (by repeat (first | exact HRF.out | apply RefAt.more | apply RefAt.alloc | apply RefAt.drew | apply RefAt.drewN))).mono ?_
      rintro e w' ⟨⟨ex4, rfl⟩, rfl⟩
      rw [refV_n]
      go_wp2_with fail
      refine (law00_Code _ 2 (by omega) (by omega)).mono ?_
      rintro e w' ⟨rfl, rfl⟩
      go_wp2_with fail
      go_ret
      exact ⟨(by repeat (first | exact HE2.out | apply Ext.more | apply Ext.alloc | apply Ext.drew | apply Ext.drewN)), rfl⟩
    | some r =>
      obtain ⟨F0, F1, F2, F3, F4, F5, F6, F7, F8, F9, F10⟩ := r
      go_wp2_with fail
      refine (extC (HWK.out _ (by repeat (first | exact HM.out | apply MemAt.more | apply MemAt.alloc | apply MemAt.drew | apply MemAt.drewN)))).mono ?_
      rintro e w' ⟨⟨ex2, rfl⟩, rfl⟩
      rw [walkV_s]
      go_wp2_with fail
      refine (extC (walk_Walk_nil _ root page)).mono ?_
      rintro e w' ⟨⟨ex3, rfl⟩, rfl⟩
      rw [zeroF_v]
      go_wp2_with fail
      refine (HWR.out _ (by repeat (first | exact HRF.out | apply RefAt.more | apply RefAt.alloc | apply RefAt.drew | apply RefAt.drewN))).mono ?_
      rintro e w' ⟨⟨ex4, rfl⟩, rfl⟩
      rw [refV_s]
      go_wp2_with fail
      refine (law00_Code_nil _).mono ?_
      rintro e w' ⟨rfl, rfl⟩
      go_wp2_with fail
      go_ret
      exact ⟨(by repeat (first | exact HE2.out | apply Ext.more | apply Ext.alloc | apply Ext.drew | apply Ext.drewN)), rfl⟩
  · have HWK := Lib.hid (fun w (hm : MemAt w b g n n ws) => walk_Walk_no w hm root page hin)
    have hin' : root < 0 ∨ (n : Int) ≤ root ∨ page < 0 ∨ 4095 < page := by omega
    clear hin hw
    go_wp2_with fail
    refine (extC (HWK.out _ (by repeat (first | exact HM.out | apply MemAt.more | apply MemAt.alloc | apply MemAt.drew | apply MemAt.drewN)))).mono ?_
    rintro e w' ⟨⟨ex2, rfl⟩, rfl⟩
    rw [zeroF_v]
    go_wp2_with fail
    refine (extC (walk_Walk_nil _ root page)).mono ?_
    rintro e w' ⟨⟨ex3, rfl⟩, rfl⟩
    rw [zeroF_v]
    rcases hin' with hh | hh | hh | hh
    all_goals
      go_wp2_with fail
      all_goals (go_ret; exact ⟨(by repeat (first | exact HE2.out | apply Ext.more | apply Ext.alloc | apply Ext.drew | apply Ext.drewN)), rfl⟩)

end Go.Proofs.Ytmpgkgnbhjnelaa
