/- The law paviorlaw12.TreeKeeps. -/
import Derived.Test.YtapeoeakiphfpaaKeeq
import Derived.Test.YtapeoeakiphfpaaAlik
import Derived.Test.YtapeoeakiphfpaaDo
namespace Go.Proofs.Ytapeoeakiphfpaa
open Go.RowKit
set_option linter.unusedVariables false
set_option linter.unusedSimpArgs false
attribute [local go_sem] setCell_drewN alloc_drewN lt_moreE le_moreE lt_moreK le_moreK cell_more frozen_more set_more drew_more drewN_more

set_option maxRecDepth 100000 in
set_option maxHeartbeats 8000000 in
theorem law12_TreeKeeps (w : World) (fr : Int) (hfr : (Lit.int .i64 fr).wf = true) (l : List Laid) (hl : ∀ d ∈ l, d.wf) (v : Value) (hv : SlRd w v 3 (l.map Laid.cells)) (root : Int) (_ : (Lit.int .i64 root).wf = true) (asid : Int) (_ : (Lit.int .i64 asid).wf = true) (page : Int) (_ : (Lit.int .i64 page).wf = true) (level : Int) (_ : (Lit.int .i64 level).wf = true)
    (fresh : List Int) (_ : ∀ n ∈ fresh, (Lit.int .i64 n).wf = true) (vf : Value) (hvf : SlRd w vf 1 (fresh.map intCells)) :
    Calls Try.prog 5 #[.int .i64 fr, v, .int .i64 root, .int .i64 asid, .int .i64 page, .int .i64 level, vf] w fun e w' => e = .returned (.bool true) ∧ w.grownBy w' none := by
  refine growC (R := fun e _ => e = .returned (.bool true)) ?_
  have hw := WOk_layW (layN fr) l hl
  have hn1 := layN_lo fr
  have hn2 := layN_hi fr
  have HL := Lib.hid hl
  have HV := Lib.hid hv
  have HR := Lib.hid hfr
  obtain ⟨fa, fcap, rfl, hfcap, hfc⟩ := hvf.form
  rw [List.length_map] at *
  have hcap' : fresh.length ≤ 9223372036854775807 := by unfold maxLen at hfcap; exact hfcap
  have HF := Lib.hid hvf
  have HW := Lib.hid hw
  clear hl hv hfr hvf hfc hfcap hw
  go_enter Try.func5, Try.ntmps5
  go_wp2_with fail
  refine (law12_up _).mono ?_
  rintro e w1 ⟨⟨ex1, rfl⟩, rfl⟩
  go_wp2_with fail
  refine (lay_ext _ fr HR.out l HL.out v (by repeat (first | exact HV.out | apply rd_more | apply rd_alloc | apply rd_drew | apply rd_drewN))).mono ?_
  rintro e w2 ⟨b, g, h, hc, gb, gc, rfl, hm2, hr2, hE⟩
  have hE2 : Ext w w2 := Ext.trans (by repeat (first | exact Ext.refl _ | apply Ext.more | apply Ext.alloc | apply Ext.drew | apply Ext.drewN)) hE
  have HM := Lib.hid hm2
  have HRF := Lib.hid hr2
  have HE2 := Lib.hid hE2
  clear HL HV HR hE hE2 hr2 hm2
  generalize layW (layN fr) l = ws at *
  generalize layN fr = n at *
  by_cases h20 : 20 < fresh.length
  · clear HF
    go_wp2_with fail
    go_ret
    exact ⟨(by repeat (first | exact HE2.out | apply Ext.more | apply Ext.alloc | apply Ext.drew | apply Ext.drewN)), rfl⟩
  have hfl : fresh.length ≤ 20 := by omega
  obtain ⟨rt, hrt⟩ : ∃ rt, tabsQ ws n root = rt := ⟨_, rfl⟩
  have HT := Lib.hid (fun w hm => tree_TablesQ (b := b) (g := g) (c := n) w hm HW.out root rt hrt)
  have HRT := Lib.hid hrt
  clear hrt
  go_wp2_with fail
  refine (HT.out _ (by repeat (first | exact HM.out | apply MemAt.more | apply MemAt.alloc | apply MemAt.drew | apply MemAt.drewN))).mono ?_
  rintro e w3 ⟨hE3, hq⟩
  have HE3 := Lib.hid (HE2.out.trans hE3)
  have HM3 := Lib.hid (HM.out.kept0 hE3.grow)
  have HRF3 := Lib.hid (HRF.out.kept0 hE3.grow)
  have HF3 := Lib.hid (HF.out.kept0 HE3.out.grow)
  have hbB := hE3.size
  generalize w2.heap.size = B2 at *
  clear HT HM HRF HE2 hE3 HF
  cases rt with
  | none =>
    obtain ⟨k, rfl⟩ := hq
    clear HF3 HM3 HRF3
    go_wp2_with fail
    go_ret
    exact ⟨(by repeat (first | exact HE3.out | apply Ext.more | apply Ext.alloc | apply Ext.drew | apply Ext.drewN)), rfl⟩
  | some t =>
    obtain ⟨ta, tcap, rfl, hot⟩ := hq
    obtain ⟨r0, r1, hat⟩ := tabsQ_some HRT.out
    obtain ⟨tl0, tl1⟩ := tabs_len _ _ _ _ hat
    have HAT := Lib.hid hat
    have HOT := Lib.hid hot
    have tok1 : True := trivial
    have HT1 := Lib.hid (all_flat intC Value.oneCell' (fun a => rfl) t)
    clear hot hat HRT
    go_wp2_with (first
      | (have _t := tok1; at_builtin; refine wpList_append_row w3 el_int rfl _ _ rfl (.slice (some ⟨w3.heap.size, 0, none⟩) 0 0) 0 [] rfl (own_lit' rfl (Nat.le_refl _) rfl (by decide) rfl rfl) (by repeat (first | exact Ext.refl _ | apply Ext.more | apply Ext.alloc | apply Ext.drew | apply Ext.drewN)) B2 _ t.length _ rfl (by repeat (first | exact HOT.out | apply own_more | apply own_alloc | apply own_drew | apply own_drewN)) tl0 HT1.out (by omega) ?_; intro v1 x1 HO1 keep; clear keep tok1)
      | (at_builtin; refine wpList_append_in w3 el_int rfl _ _ rfl v1 (0 + t.length) _ rfl HO1.out (by repeat (first | exact Ext.refl _ | apply Ext.more | apply Ext.alloc | apply Ext.drew | apply Ext.drewN)) _ (fresh.map intCells) rfl (by repeat (first | exact HF3.out | apply rd_more | apply rd_alloc | apply rd_drew | apply rd_drewN)) (ints_one _) (ints_flat _) (by simp; omega) ?_; intro v2 x2 HO2 keep; clear keep))
    obtain ⟨aa, acap, rfl⟩ := own_form HO2.out
    obtain ⟨N, hN⟩ : ∃ N, 0 + t.length + (fresh.map intCells).length = N := ⟨_, rfl⟩
    have hNl : N = (t ++ fresh).length := by rw [← hN]; simp
    have ho2 : (more w3 x2).ownsRow w3.heap.size 3 1 (.slice aa N acap) N ((t ++ fresh).map intC).flatten := by
      have := HO2.out
      rw [hN] at this
      rw [List.map_append, List.flatten_append]
      exact this
    obtain ⟨ag, rfl, _, hag, hac, hacm, hcell⟩ := ints_cell ho2 (by omega) hNl
    rw [hN]
    have hNb : N ≤ 7000 := by rw [hNl, List.length_append]; omega
    have hacm' : acap ≤ 9223372036854775807 := by unfold maxLen at hacm; exact hacm
    have HCl := Lib.hid hcell
    have HNl := Lib.hid hNl
    have HM4 := Lib.hid (show MemAt (more w3 x2) b g n n ws from (by repeat (first | exact HM3.out | apply MemAt.more | apply MemAt.alloc | apply MemAt.drew | apply MemAt.drewN)))
    have HRF4 := Lib.hid (show RefAt (more w3 x2) h hc n gb gc ws from (by repeat (first | exact HRF3.out | apply RefAt.more | apply RefAt.alloc | apply RefAt.drew | apply RefAt.drewN)))
    have HF4 := Lib.hid (show SlRd (more w3 x2) _ _ _ from (by repeat (first | exact HF3.out | apply rd_more | apply rd_alloc | apply rd_drew | apply rd_drewN)))
    have HE4 := Lib.hid (HE3.out.more x2)
    clear hNl hcell ho2 HO1 HO2 hN HOT HT1 HM3 HRF3 HF3 HE3 hacm
    generalize more w3 x2 = W4 at *
    generalize hall : t ++ fresh = all at *
    have HAll := Lib.hid hall
    obtain ⟨g1, g2, g3⟩ := lt_facts hag
    clear hall
    go_loopw [21, 22] (fun i _ wr => ∃ q : Nat, q ≤ N ∧ i = .int .i64 q ∧ Ext W4 wr ∧ Hid (Unlike all q)) (fun i _ _ => N - (intOf i).toNat)
    case atStart => exact ⟨0, Nat.zero_le _, rfl, Ext.refl _, unlike_zero _⟩
    case round =>
      obtain ⟨q, hq, rfl, hEr, HU⟩ := hrel
      obtain ⟨wo, rfl⟩ : ∃ wo : World, wo = wr := ⟨_, rfl⟩
      have HEr := Lib.hid hEr
      clear hEr
      by_cases hlt : q < N
      · go_wp2_with fail
        go_loopw [22] (fun i wi => ∃ p : Nat, p ≤ q ∧ i = .int .i64 p ∧ Ext W4 wi ∧ Hid (UnlikeAt all q p)) (fun i _ => q - (intOf i).toNat)
        case atStart => exact ⟨0, Nat.zero_le _, rfl, HEr.out, unlikeAt_zero _ _⟩
        case round =>
          obtain ⟨p, hp, rfl, ⟨xi, rfl⟩, HUA⟩ := hrel
          by_cases hpl : p < q
          · have y0 := HCl.out p (by omega)
            have y1 := HCl.out q hlt
            by_cases heq : all.getD p 0 = all.getD q 0
            · have heb : (all.getD p 0 == all.getD q 0) = true := by simpa using heq
              clear heq
              generalize all.getD p 0 = X at *
              generalize all.getD q 0 = Y at *
              go_wp2_with fail
              go_region
              all_goals
                go_wp2_with fail
                go_ret
                exact ⟨(by repeat (first | exact HE4.out | apply Ext.more | apply Ext.alloc | apply Ext.drew | apply Ext.drewN)), rfl⟩
            · have heb : (all.getD p 0 == all.getD q 0) = false := by simpa using heq
              have HN := Lib.hid (show Hid (UnlikeAt all q (p + 1)) from unlikeAt_succ HUA.out heq)
              clear heq
              generalize all.getD p 0 = X at *
              generalize all.getD q 0 = Y at *
              go_wp2_with fail
              go_region
              all_goals
                go_wp2_with fail
                go_roundw
                case rel => exact ⟨p + 1, by omega, by go_num, (by repeat (first | exact Ext.refl _ | apply Ext.more | apply Ext.alloc | apply Ext.drew | apply Ext.drewN)), HN.out⟩
                case measure => simp [intOf]; omega
          · obtain rfl : p = q := by omega
            have HN := Lib.hid (show Hid (Unlike all (p + 1)) from unlike_succ HU.out HUA.out)
            go_wp2_with fail
            go_roundw
            case rel => exact ⟨p + 1, by omega, by go_num, (by repeat (first | exact Ext.refl _ | apply Ext.more | apply Ext.alloc | apply Ext.drew | apply Ext.drewN)), HN.out⟩
            case measure => simp [intOf]; omega
      · obtain rfl : q = N := by omega
        obtain ⟨xr, rfl⟩ := HEr.out
        have hu := HU.out
        rw [HNl.out] at hu
        have hnd := unlike_nodup hu
        rw [← HAll.out] at hnd
        have HND := Lib.hid hnd
        have HM5 := Lib.hid (show MemAt (more W4 xr) b g n n ws from (by repeat (first | exact HM4.out | apply MemAt.more | apply MemAt.alloc | apply MemAt.drew | apply MemAt.drewN)))
        have HRF5 := Lib.hid (show RefAt (more W4 xr) h hc n gb gc ws from (by repeat (first | exact HRF4.out | apply RefAt.more | apply RefAt.alloc | apply RefAt.drew | apply RefAt.drewN)))
        have HF5 := Lib.hid (show SlRd (more W4 xr) _ _ _ from (by repeat (first | exact HF4.out | apply rd_more | apply rd_alloc | apply rd_drew | apply rd_drewN)))
        have HE5 := Lib.hid (HE4.out.more xr)
        clear hu hnd HEr HU HCl HM4 HRF4 HF4 HE4 hlt hq HNl HAll
        generalize more W4 xr = W5 at *
        obtain ⟨R, hR⟩ : ∃ R, pathQ ws n root asid page level fresh = R := ⟨_, rfl⟩
        have HP := Lib.hid (fun w hm v hv => tree_PathQ (b := b) (g := g) (c := n) w hm HW.out root asid page level fresh v hv (by omega) R hR)
        have HPR := Lib.hid hR
        clear hR
        go_wp2_with fail
        refine (HP.out _ (by repeat (first | exact HM5.out | apply MemAt.more | apply MemAt.alloc | apply MemAt.drew | apply MemAt.drewN)) _ (by repeat (first | exact HF5.out | apply rd_more | apply rd_alloc | apply rd_drew | apply rd_drewN))).mono ?_
        rintro e w6 ⟨hE6, hq6⟩
        cases R with
        | no k =>
          obtain rfl := hq6
          have HMt := Lib.hid (HM5.out.kept0 hE6.grow)
          have HRt := Lib.hid (HRF5.out.kept0 hE6.grow)
          have HEt := Lib.hid (HE5.out.trans hE6)
          clear hE6 HM5 HRF5 HE5 HP HPR
          have HMt := Lib.hid (HMt.out.alloc (.cells #[.int .i64 0, .int .i64 0] 61))
          have HRt := Lib.hid (HRt.out.alloc (.cells #[.int .i64 0, .int .i64 0] 61))
          have HEt := Lib.hid (HEt.out.alloc (.cells #[.int .i64 0, .int .i64 0] 61))
          go_wp2_with fail
          generalize w6.alloc (.cells #[.int .i64 0, .int .i64 0] 61) = WT at *
          obtain ⟨R2, hR2⟩ : ∃ R2, pruneQ ws n root asid page = R2 := ⟨_, rfl⟩
          have HQ := Lib.hid (fun w hm => tree_PruneQ (b := b) (g := g) (c := n) w hm HW.out root asid page R2 hR2)
          have HQR := Lib.hid hR2
          clear hR2
          refine (HQ.out _ (by repeat (first | exact HMt.out | apply MemAt.more | apply MemAt.alloc | apply MemAt.drew | apply MemAt.drewN))).mono ?_
          rintro e wq ⟨hEq, hqq⟩
          cases R2 with
          | no k2 =>
            obtain rfl := hqq
            go_wp2_with fail
            go_ret
            exact ⟨HEt.out.trans hEq, rfl⟩
          | yes sp gone =>
            obtain ⟨sa2, scap2, ga2, gcap2, rfl, hos2, _⟩ := hqq
            obtain ⟨_, _, p0, p1, hres2⟩ := pruneQ_yes HQR.out
            obtain ⟨hal2, hok2, hsl2⟩ := prune_keeps (by omega) HRt.out.len r0 r1 HAT.out (List.nodup_append.1 HND.out).1 hres2
            have HOs2 := Lib.hid hos2
            have HAL2 := Lib.hid hal2
            have HWU2 := Lib.hid (WOk_doW _ _ HW.out hok2 : WOk (doW n ws sp))
            have HRq := Lib.hid (HRt.out.kept0 hEq.grow)
            have HEq := Lib.hid (HEt.out.trans hEq)
            clear hos2 hal2 hok2 hres2 hEq HQ HQR
            go_wp2_with fail
            refine (ref12_Copy _ HRq.out (by omega) (by omega)).mono ?_
            rintro e wc ⟨hEc, h2, hc2, gb2, gc2, rfl, hrc, hhc, hgbc⟩
            have HDo := Lib.hid (ref12_Do wq wc hEc hrc hhc hgbc (own_ext HOs2.out hEc) (by omega))
            clear hEc hrc hhc hgbc
            go_wp2_with fail
            refine HDo.out.mono ?_
            rintro e wd ⟨rfl, hEd, _, gb3, gc3, hrd, _⟩
            have HRd := Lib.hid hrd
            have HRd0 := Lib.hid (HRq.out.kept0 hEd.grow)
            have HEd := Lib.hid (HEq.out.trans hEd)
            clear hEd hrd HDo HOs2
            go_wp2_with fail
            refine (law12_alike _ HRd0.out HRd.out HW.out HWU2.out root r0 r1 HAL2.out).mono ?_
            rintro e wz ⟨hEz, rfl⟩
            go_wp2_with fail
            go_ret
            exact ⟨HEd.out.trans hEz, rfl⟩
        | yes st tt =>
          obtain ⟨sa, scap, rfl, hos⟩ := hq6
          obtain ⟨L, rfl, _, _, p0, p1, l0, l1, hres⟩ := pathQ_yes HPR.out
          obtain ⟨hnd0, hal, hok, hsl⟩ := path_keeps (by omega) HRF5.out.len r0 r1 l1 HAT.out HND.out hres
          obtain ⟨tx, ty⟩ := tt
          dsimp only at *
          have HOs := Lib.hid (own_alloc hos (.cells #[.int .i64 tx, .int .i64 ty] 61))
          have HAL := Lib.hid hal
          have HN0 := Lib.hid hnd0
          have HWU := Lib.hid (WOk_doW _ _ HW.out hok : WOk (doW n ws st))
          have HM7 := Lib.hid ((HM5.out.kept0 hE6.grow).alloc (.cells #[.int .i64 tx, .int .i64 ty] 61))
          have HR7 := Lib.hid ((HRF5.out.kept0 hE6.grow).alloc (.cells #[.int .i64 tx, .int .i64 ty] 61))
          have HE7 := Lib.hid ((HE5.out.trans hE6).alloc (.cells #[.int .i64 tx, .int .i64 ty] 61))
          clear hos hal hok hnd0 hres hE6 HP HPR HM5 HRF5 HE5 HF5
          go_wp2_with fail
          generalize w6.alloc (.cells #[.int .i64 tx, .int .i64 ty] 61) = W7 at *
          refine (ref12_Copy _ HR7.out (by omega) (by omega)).mono ?_
          rintro e w8 ⟨hE8, h8, hc8, gb8, gc8, rfl, hr8, hh8, hgb8⟩
          have HDo1 := Lib.hid (ref12_Do W7 w8 hE8 hr8 hh8 hgb8 (own_ext HOs.out hE8) (by omega))
          clear hE8 hr8 hh8 hgb8
          go_wp2_with fail
          refine HDo1.out.mono ?_
          rintro e w9 ⟨rfl, hE9, _, gb9, gc9, hr9, _⟩
          have HR9 := Lib.hid hr9
          have HR90 := Lib.hid (HR7.out.kept0 hE9.grow)
          have HM9 := Lib.hid (HM7.out.kept0 hE9.grow)
          have HE9 := Lib.hid (HE7.out.trans hE9)
          clear hE9 hr9 HDo1 HOs HM7 HR7 HE7
          go_wp2_with fail
          refine (ref12_Need _ HR9.out HWU.out root page L r0 r1 p0 p1 l1 _ rfl).mono ?_
          rintro e w10 ⟨hE10, rfl⟩
          rw [HN0.out]
          have HR10 := Lib.hid (HR9.out.kept0 hE10.grow)
          have HR100 := Lib.hid (HR90.out.kept0 hE10.grow)
          have HM10 := Lib.hid (HM9.out.kept0 hE10.grow)
          have HE10 := Lib.hid (HE9.out.trans hE10)
          clear hE10 HR9 HR90 HM9 HE9
          go_wp2_with fail
          refine (law12_alike _ HR100.out HR10.out HW.out HWU.out root r0 r1 HAL.out).mono ?_
          rintro e w11 ⟨hE11, rfl⟩
          have HMt := Lib.hid (HM10.out.kept0 hE11.grow)
          have HRt := Lib.hid (HR100.out.kept0 hE11.grow)
          have HEt := Lib.hid (HE10.out.trans hE11)
          clear hE11 HR10 HR100 HM10 HE10
          go_wp2_with fail
          obtain ⟨R2, hR2⟩ : ∃ R2, pruneQ ws n root asid page = R2 := ⟨_, rfl⟩
          have HQ := Lib.hid (fun w hm => tree_PruneQ (b := b) (g := g) (c := n) w hm HW.out root asid page R2 hR2)
          have HQR := Lib.hid hR2
          clear hR2
          refine (HQ.out _ (by repeat (first | exact HMt.out | apply MemAt.more | apply MemAt.alloc | apply MemAt.drew | apply MemAt.drewN))).mono ?_
          rintro e wq ⟨hEq, hqq⟩
          cases R2 with
          | no k2 =>
            obtain rfl := hqq
            go_wp2_with fail
            go_ret
            exact ⟨HEt.out.trans hEq, rfl⟩
          | yes sp gone =>
            obtain ⟨sa2, scap2, ga2, gcap2, rfl, hos2, _⟩ := hqq
            obtain ⟨_, _, p0, p1, hres2⟩ := pruneQ_yes HQR.out
            obtain ⟨hal2, hok2, hsl2⟩ := prune_keeps (by omega) HRt.out.len r0 r1 HAT.out (List.nodup_append.1 HND.out).1 hres2
            have HOs2 := Lib.hid hos2
            have HAL2 := Lib.hid hal2
            have HWU2 := Lib.hid (WOk_doW _ _ HW.out hok2 : WOk (doW n ws sp))
            have HRq := Lib.hid (HRt.out.kept0 hEq.grow)
            have HEq := Lib.hid (HEt.out.trans hEq)
            clear hos2 hal2 hok2 hres2 hEq HQ HQR
            go_wp2_with fail
            refine (ref12_Copy _ HRq.out (by omega) (by omega)).mono ?_
            rintro e wc ⟨hEc, h2, hc2, gb2, gc2, rfl, hrc, hhc, hgbc⟩
            have HDo := Lib.hid (ref12_Do wq wc hEc hrc hhc hgbc (own_ext HOs2.out hEc) (by omega))
            clear hEc hrc hhc hgbc
            go_wp2_with fail
            refine HDo.out.mono ?_
            rintro e wd ⟨rfl, hEd, _, gb3, gc3, hrd, _⟩
            have HRd := Lib.hid hrd
            have HRd0 := Lib.hid (HRq.out.kept0 hEd.grow)
            have HEd := Lib.hid (HEq.out.trans hEd)
            clear hEd hrd HDo HOs2
            go_wp2_with fail
            refine (law12_alike _ HRd0.out HRd.out HW.out HWU2.out root r0 r1 HAL2.out).mono ?_
            rintro e wz ⟨hEz, rfl⟩
            go_wp2_with fail
            go_ret
            exact ⟨HEd.out.trans hEz, rfl⟩

end Go.Proofs.Ytapeoeakiphfpaa
