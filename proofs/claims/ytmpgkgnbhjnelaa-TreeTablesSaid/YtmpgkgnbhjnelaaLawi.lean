/- The law paviorlaw12.TreeTables. -/
import Derived.Test.YtmpgkgnbhjnelaaNeed
import Derived.Test.YtmpgkgnbhjnelaaTabs
namespace Go.Proofs.Ytmpgkgnbhjnelaa
open Go.RowKit
set_option linter.unusedVariables false
set_option linter.unusedSimpArgs false
attribute [local go_sem] setCell_drewN alloc_drewN lt_moreE le_moreE lt_moreK le_moreK cell_more frozen_more set_more drew_more drewN_more

set_option maxRecDepth 100000 in
set_option maxHeartbeats 4000000 in
theorem law12_TreeTables (w : World) (fr : Int) (hfr : (Lit.int .i64 fr).wf = true) (l : List Laid) (hl : ∀ d ∈ l, d.wf) (v : Value) (hv : SlRd w v 3 (l.map Laid.cells)) (root : Int) (_ : (Lit.int .i64 root).wf = true) :
    Calls Try.prog 13 #[.int .i64 fr, v, .int .i64 root] w fun e w' => e = .returned (.bool true) ∧ w.grownBy w' none := by
  refine growC (R := fun e _ => e = .returned (.bool true)) ?_
  have hw := WOk_layW (layN fr) l hl
  have HL := Lib.hid hl
  have HV := Lib.hid hv
  have HR := Lib.hid hfr
  have heq := fun (w : World) => eql_err w 1 1
  have heq2 := fun (w : World) => eql_err w 2 2
  clear hl hv hfr
  go_enter Try.func13, Try.ntmps13
  go_wp2_with fail
  refine (law12_up _).mono ?_
  rintro e w1 ⟨⟨ex1, rfl⟩, rfl⟩
  go_wp2_with fail
  refine (lay_ext _ fr HR.out l HL.out v (by repeat (first | exact HV.out | apply rd_more | apply rd_alloc | apply rd_drew | apply rd_drewN))).mono ?_
  rintro e w2 ⟨b, g, h, hc, gb, gc, rfl, hm2, hr2, hE⟩
  have hE2 : Ext w w2 := Ext.trans (by repeat (first | exact Ext.refl _ | apply Ext.more | apply Ext.alloc | apply Ext.drew | apply Ext.drewN)) hE
  have HM := Lib.hid hm2
  have HRF := Lib.hid hr2
  have HE2 := Lib.hid hE2
  clear HL HV HR hE hE2 hr2
  generalize layW (layN fr) l = ws at *
  generalize layN fr = n at *
  clear hm2
  by_cases hin : 0 ≤ root ∧ root < n
  · obtain ⟨r0, r1⟩ := hin
    cases hres : tabsAt ws n 4 0 root with
    | none =>
      have HT := Lib.hid (fun w (hm : MemAt w b g n n ws) => tree_Tables w hm hw root r0 r1 none hres)
      have HQ := Lib.hid (fun w (hr : RefAt w h hc n gb gc ws) => ref12_Tables (h := h) (hc := hc) (n := n) (gb := gb) (gc := gc) hw 4 w hr 0 root (by omega) (by omega) (by omega))
      rw [hres] at HQ
      clear hres hw
      go_wp2_with fail
      refine (HT.out _ (by repeat (first | exact HM.out | apply MemAt.more | apply MemAt.alloc | apply MemAt.drew | apply MemAt.drewN))).mono ?_
      rintro e w' ⟨⟨ex2, rfl⟩, rfl⟩
      go_wp2_with fail
      refine (HQ.out _ (by repeat (first | exact HRF.out | apply RefAt.more | apply RefAt.alloc | apply RefAt.drew | apply RefAt.drewN))).mono ?_
      rintro e w' ⟨⟨ex4, rfl⟩, rfl⟩
      go_wp2_with fail
      go_ret
      exact ⟨(by repeat (first | exact HE2.out | apply Ext.more | apply Ext.alloc | apply Ext.drew | apply Ext.drewN)), rfl⟩
    | some s =>
      have HT := Lib.hid (fun w (hm : MemAt w b g n n ws) => tree_Tables w hm hw root r0 r1 (some s) hres)
      have HQ := Lib.hid (fun w (hr : RefAt w h hc n gb gc ws) => ref12_Tables (h := h) (hc := hc) (n := n) (gb := gb) (gc := gc) hw 4 w hr 0 root (by omega) (by omega) (by omega))
      rw [hres] at HQ
      have hlen := tabs_len _ _ _ _ hres
      clear hres hw
      go_wp2_with fail
      refine (HT.out _ (by repeat (first | exact HM.out | apply MemAt.more | apply MemAt.alloc | apply MemAt.drew | apply MemAt.drewN))).mono ?_
      rintro e w3 ⟨hE3, a1, c1, rfl, HO1⟩
      have HRF3 := Lib.hid (HRF.out.kept0 hE3.grow)
      have HE3 := Lib.hid (HE2.out.trans hE3)
      have HO1' := Lib.hid HO1
      clear HO1 hE3
      go_wp2_with fail
      refine (HQ.out _ HRF3.out).mono ?_
      rintro e w4 ⟨hE4, a2, c2, rfl, HO2⟩
      have HO1 := own_ext HO1'.out hE4
      have HE4 := Lib.hid (HE3.out.trans hE4)
      have hc1 := own_cap HO1
      have hc2 := own_cap HO2
      obtain ⟨g1, rfl, _, hg1, _, hx1, _⟩ := own_at HO1 (by omega)
      obtain ⟨g2, rfl, _, hg2, _, hx2, _⟩ := own_at HO2 (by omega)
      have HX1 := Lib.hid hx1
      have HX2 := Lib.hid hx2
      have hm1 : c1 ≤ 9223372036854775807 := by have := hc1.2.2; unfold maxLen at this; exact this
      have hm2 : c2 ≤ 9223372036854775807 := by have := hc2.2.2; unfold maxLen at this; exact this
      have hs1 := hc1.2.1
      have hs2 := hc2.2.1
      clear hE4 HO1 HO2 HO1' hx1 hx2 hc1 hc2
      go_wp2_with fail
      go_loopw [14] (fun i wr => ∃ q : Nat, q ≤ s.length ∧ i = .int .i64 q ∧ Ext w4 wr) (fun i _ => s.length - (intOf i).toNat)
      case atStart => exact ⟨0, by omega, rfl, Ext.refl _⟩
      case round =>
        obtain ⟨q, hq, rfl, ⟨x, rfl⟩⟩ := hrel
        by_cases hlt : q < s.length
        · have hz : s[q]? = some s[q] := List.getElem?_eq_getElem hlt
          have y1 := HX1.out q _ (flat_one (fun x => Value.int .i64 x) s q _ hz)
          have y2 := HX2.out q _ (flat_one (fun x => Value.int .i64 x) s q _ hz)
          generalize s[q] = z at *
          clear hz
          go_wp2_with fail
          go_region
          all_goals go_wp2_with fail
          go_roundw
          case rel => exact ⟨q + 1, by omega, by go_num, (by repeat (first | exact Ext.refl _ | apply Ext.more | apply Ext.alloc | apply Ext.drew | apply Ext.drewN))⟩
          case measure => simp [intOf]; omega
        · obtain rfl : q = s.length := by omega
          go_wp2_with fail
          go_ret
          exact ⟨(by repeat (first | exact HE4.out | apply Ext.more | apply Ext.alloc | apply Ext.drew | apply Ext.drewN)), rfl⟩
  · have HT := Lib.hid (fun w (hm : MemAt w b g n n ws) => tree_Tables_no w hm root hin)
    have hin' : root < 0 ∨ (n : Int) ≤ root := by omega
    clear hin hw
    go_wp2_with fail
    refine (HT.out _ (by repeat (first | exact HM.out | apply MemAt.more | apply MemAt.alloc | apply MemAt.drew | apply MemAt.drewN))).mono ?_
    rintro e w' ⟨⟨ex2, rfl⟩, rfl⟩
    rcases hin' with hh | hh
    all_goals
      go_wp2_with fail
      all_goals (go_ret; exact ⟨(by repeat (first | exact HE2.out | apply Ext.more | apply Ext.alloc | apply Ext.drew | apply Ext.drewN)), rfl⟩)

end Go.Proofs.Ytmpgkgnbhjnelaa
