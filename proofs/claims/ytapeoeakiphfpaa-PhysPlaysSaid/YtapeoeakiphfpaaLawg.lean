/- The law paviorlaw04.WalkFinds. -/
import Derived.Test.YtapeoeakiphfpaaReff
import Derived.Test.YtapeoeakiphfpaaCode
namespace Go.Proofs.Ytapeoeakiphfpaa
open Go.RowKit
set_option linter.unusedVariables false
set_option linter.unusedSimpArgs false
attribute [local go_sem] setCell_drewN alloc_drewN lt_moreE le_moreE lt_moreK le_moreK cell_more frozen_more set_more drew_more drewN_more

theorem lay_ext (w : World) (fr : Int) (hfr : (Lit.int .i64 fr).wf = true) (l : List Laid) (hl : ∀ d ∈ l, d.wf) (v : Value) (hv : SlRd w v 3 (l.map Laid.cells)) :
    Calls Try.prog 33 #[.int .i64 fr, v] w fun e w' => ∃ b g h hc gb gc, e = .returned (.tuple #[.pointer (some ⟨b, 0, none⟩), .slice (some ⟨h, 0, none⟩) (layN fr) hc]) ∧
      MemAt w' b g (layN fr) (layN fr) (layW (layN fr) l) ∧ RefAt w' h hc (layN fr) gb gc (layW (layN fr) l) ∧ Ext w w' :=
  (law04_Lay w fr hfr l hl v hv).mono fun _ _ ⟨b, g, h, hc, gb, gc, he, hm, hr, hg, _⟩ => ⟨b, g, h, hc, gb, gc, he, hm, hr, .of hg⟩
theorem ref04_Walk {w : World} {h hc n : Nat} {gb gc : Nat → Nat} {us : List Int} (hr : RefAt w h hc n gb gc us) (hw : WOk us) (root page : Int) (p0 : 0 ≤ page) (p1 : page < 4096) (r : Option Found) (hres : walkAt us n page 4 0 root = r) :
    Calls Try.prog 45 #[.slice (some ⟨h, 0, none⟩) n hc, .int .i64 root, .int .i64 page] w fun e w' => Ext w w' ∧ e = .returned (refV r) := by
  have HR := Lib.hid hr
  have HA := Lib.hid (fun w hr => ref04_at (h := h) (hc := hc) (n := n) (gb := gb) (gc := gc) hw page p0 p1 4 w hr 0 root (by omega) (by omega) (by omega))
  rw [hres] at HA
  clear hr hw hres
  cases r with
  | none =>
    go_enter Try.func45, Try.ntmps45
    go_wp2_with (go_at_call 94; refine (HA.out _ (by repeat (first | exact HR.out | apply RefAt.more | apply RefAt.alloc | apply RefAt.drew | apply RefAt.drewN))).mono ?_; rintro e w' ⟨⟨ex1, rfl⟩, rfl⟩; rw [refV_n])
    refine bodyPost_ret (results_ct rfl _ _ w.heap.size 80 _ (0, 0) _ rfl (by repeat (first | (with_reducible exact heap_alloc_new _ _) | (with_reducible apply box_more) | (with_reducible apply box_alloc) | (with_reducible apply box_drew) | (with_reducible apply box_drewN))) Try.underlying80 rfl (by kernel_rfl)) rfl ?_
    exact ⟨(by repeat (first | exact Ext.refl _ | apply Ext.more | apply Ext.alloc | apply Ext.drew | apply Ext.drewN)), rfl⟩
  | some r =>
    obtain ⟨F0, F1, F2, F3, F4, F5, F6, F7, F8, F9, F10⟩ := r
    go_enter Try.func45, Try.ntmps45
    go_wp2_with (go_at_call 94; refine (HA.out _ (by repeat (first | exact HR.out | apply RefAt.more | apply RefAt.alloc | apply RefAt.drew | apply RefAt.drewN))).mono ?_; rintro e w' ⟨⟨ex1, rfl⟩, rfl⟩; rw [refV_s])
    refine bodyPost_ret (results_ct rfl _ _ w.heap.size 80 _ (0, 0) _ rfl (by repeat (first | (with_reducible exact heap_alloc_new _ _) | (with_reducible apply box_more) | (with_reducible apply box_alloc) | (with_reducible apply box_drew) | (with_reducible apply box_drewN))) Try.underlying80 rfl (by kernel_rfl)) rfl ?_
    exact ⟨(by repeat (first | exact Ext.refl _ | apply Ext.more | apply Ext.alloc | apply Ext.drew | apply Ext.drewN)), rfl⟩

theorem zeroF_v : zeroF.v = .agg #[.int .i64 0, .int .i64 0, .int .i64 0, .int .i64 0, .int .i64 0, .int .i64 0, .int .i64 0, .int .i64 0, .bool false, .bool false, .bool false] := rfl
theorem walkV_n : walkV none = .tuple #[.agg #[.int .i64 0, .int .i64 0, .int .i64 0, .int .i64 0, .int .i64 0, .int .i64 0, .int .i64 0, .int .i64 0, .bool false, .bool false, .bool false], errW 2] := rfl
theorem walkV_s (F0 F1 F2 F3 F4 F5 F6 F7 : Int) (F8 F9 F10 : Bool) : walkV (some ⟨F0, F1, F2, F3, F4, F5, F6, F7, F8, F9, F10⟩) = .tuple #[.agg #[.int .i64 F0, .int .i64 F1, .int .i64 F2, .int .i64 F3, .int .i64 F4, .int .i64 F5, .int .i64 F6, .int .i64 F7, .bool F8, .bool F9, .bool F10], .nilIface] := rfl

end Go.Proofs.Ytapeoeakiphfpaa
