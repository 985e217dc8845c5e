import Derived.Test.YthcdecgecabgaaaBMerglMerkMovdRights
import Derived.Test.YthcdecgecabgaaaBPlaqRighttPltpMovc
import Derived.Test.YthcdecgecabgaaaWata
import Derived.Test.YthcdecgecabgaaaMovi
/- The law paviorlaw18.MoveKeeps. -/
namespace Go.Proofs.Ythcdecgecabgaaa
open Go.RowKit
set_option linter.unusedVariables false
set_option linter.unusedSimpArgs false
attribute [local go_sem] setCell_drewN alloc_drewN lt_moreE le_moreE lt_moreK le_moreK cell_more frozen_more set_more drew_more drewN_more

def UnA (rs : List (Int × Int)) (q : Nat) : Prop := ∀ i j : Nat, i < j → j < q → (rs.getD i (0, 0)).1 ≠ (rs.getD j (0, 0)).1
def UnAt (rs : List (Int × Int)) (q p : Nat) : Prop := ∀ i : Nat, i < p → (rs.getD i (0, 0)).1 ≠ (rs.getD q (0, 0)).1
set_option maxRecDepth 100000 in
set_option maxHeartbeats 8000000 in
theorem law18_MoveKeeps (w : World) (fr : Int) (hfr : (Lit.int .i64 fr).wf = true) (l : List Laid) (hl : ∀ d ∈ l, d.wf) (v : Value) (hv : SlRd w v 3 (l.map Laid.cells)) (roots : List Root) (_ : ∀ d ∈ roots, d.wf) (rv : Value) (hrv : SlRd w rv 2 (roots.map Root.cells)) (pages : List Where) (_ : ∀ d ∈ pages, d.wf) (pv : Value) (hpv : SlRd w pv 2 (pages.map Where.cells)) (frm : Int) (_ : (Lit.int .i64 frm).wf = true) (dst : Int) (_ : (Lit.int .i64 dst).wf = true) :
    Calls Try.prog 3 #[.int .i64 fr, v, rv, pv, .int .i64 frm, .int .i64 dst] w fun e w' => e = .returned (.bool true) ∧ w.grownBy w' none := by
  refine growC (R := fun e _ => e = .returned (.bool true)) ?_
  rw [roots_slots] at hrv
  rw [wheres_slots] at hpv
  generalize roots.map rootP = rs at *
  generalize pages.map whereP = ps at *
  have hw := WOk_layW (layN fr) l hl
  have hn1 := layN_lo fr
  have hn2 := layN_hi fr
  have HL := Lib.hid hl
  have HV := Lib.hid hv
  have HR := Lib.hid hfr
  have HRv := Lib.hid hrv
  have HPv := Lib.hid hpv
  have HW := Lib.hid hw
  obtain ⟨ra, rcap, rfl, hrcap, hrc⟩ := hrv.form
  obtain ⟨fa, fcap, rfl, hfcap, _⟩ := hpv.form
  have HRC := Lib.hid hrc
  clear hl hv hfr hrv hpv hrc hw
  rw [List.length_map] at *
  go_enter Try.func3, Try.ntmps3
  go_wp2_with fail
  refine (law18_up _).mono ?_
  rintro e w1 ⟨⟨ex1, rfl⟩, rfl⟩
  go_wp2_with fail
  refine (law04_Lay _ fr HR.out l HL.out v (by repeat (first | exact HV.out | apply rd_more | apply rd_alloc | apply rd_drew | apply rd_drewN))).mono ?_
  rintro e w2 ⟨b, g, h, hc, gb, gc, rfl, hm2, hr2, hg2, _, hgg, _, _⟩
  have hE : Ext (more w ex1) w2 := .of hg2
  have hE2 : Ext w w2 := Ext.trans (by repeat (first | exact Ext.refl _ | apply Ext.more | apply Ext.alloc | apply Ext.drew | apply Ext.drewN)) hE
  have hgw : w.heap.size ≤ g := by have := size_le_more w ex1; omega
  have HM := Lib.hid hm2
  have HRF := Lib.hid hr2
  have HE2 := Lib.hid hE2
  clear HL HV HR hE hE2 hr2 hm2 hg2 hgg
  generalize layW (layN fr) l = ws at *
  generalize layN fr = n at *
  by_cases h4 : 4 < rs.length
  · go_wp2_with fail
    go_ret
    exact ⟨(by repeat (first | exact HE2.out | apply Ext.more | apply Ext.alloc | apply Ext.drew | apply Ext.drewN)), rfl⟩
  by_cases h20 : 20 < ps.length
  · go_wp2_with fail
    go_ret
    exact ⟨(by repeat (first | exact HE2.out | apply Ext.more | apply Ext.alloc | apply Ext.drew | apply Ext.drewN)), rfl⟩
  have h4' : rs.length ≤ 4 := by omega
  have h20' : ps.length ≤ 20 := by omega
  clear h4 h20
  obtain ⟨R, hR⟩ : ∃ R, moveRes ws n rs ps frm dst = R := ⟨_, rfl⟩
  have HT := Lib.hid (fun w c (hm : MemAt w b g n c ws) rv hrv pv hpv => move_Move_any w hm HW.out rs rv hrv ps pv hpv (by omega) frm dst R hR)
  have HRR := Lib.hid hR
  clear hR
  go_wp2_with fail
  refine (HT.out _ _ (by repeat (first | exact HM.out | apply MemAt.more | apply MemAt.alloc | apply MemAt.drew | apply MemAt.drewN)) _ (HRv.out.kept0 HE2.out.grow) _ (HPv.out.kept0 HE2.out.grow)).mono ?_
  rintro e w3 ⟨hE3, hq3⟩
  have HM3 := Lib.hid (HM.out.kept0 hE3.grow)
  have HRF3 := Lib.hid (HRF.out.kept0 hE3.grow)
  have HE3 := Lib.hid (HE2.out.trans hE3)
  generalize w2.heap.size = B2 at *
  clear hE3 HM HRF HE2 HT
  cases R with
  | no k =>
    replace hq3 : e = .returned (.tuple #[.slice none 0 0, errW k]) := hq3
    subst hq3
    go_wp2_with fail
    go_ret
    exact ⟨(by repeat (first | exact HE3.out | apply Ext.more | apply Ext.alloc | apply Ext.drew | apply Ext.drewN)), rfl⟩
  | yes S =>
    obtain ⟨sa, scap, rfl, hos⟩ := hq3
    have HOS := Lib.hid hos
    have hscap := own_cap hos
    have hscap1 := hscap.2.1
    have hscap2 : scap ≤ 9223372036854775807 := by have := hscap.2.2; unfold maxLen at this; exact this
    obtain ⟨out, hSo, hMv⟩ := move_yes HRR.out
    have HMv := Lib.hid hMv
    have HSo := Lib.hid hSo
    have hf0 := hMv.f0
    have hf1 := hMv.f1
    have ht0 := hMv.t0
    have ht1 := hMv.t1
    clear hos hscap hMv hSo HRR
    go_wp2_with fail
    go_loopw [18, 19, 20, 21, 22] (fun o18 i _ _ _ wr => ∃ (q : Nat) (ts : List (List Int)) (N : Nat), q ≤ rs.length ∧ i = .int .i64 q ∧ Ext w3 wr ∧ Hid (TabsTo ws n rs q ts) ∧ N ≤ 2 + 6561 * q ∧ 2 ≤ N ∧ Hid ((allI frm dst ts).length = N) ∧ Hid (wr.ownsRow w3.heap.size 3 1 o18 N ((allI frm dst ts).map intC).flatten) ∧ Hid (UnA rs q)) (fun _ i _ _ _ _ => rs.length - (intOf i).toNat)
    case atStart => exact ⟨0, [], 2, by omega, rfl, (by repeat (first | exact Ext.refl _ | apply Ext.more | apply Ext.alloc | apply Ext.drew | apply Ext.drewN)), Lib.hid ⟨rfl, fun j t h => by simp at h⟩, by omega, by omega, Lib.hid rfl, (by show World.ownsRow _ _ _ _ _ _ _; exact own_lit' rfl (Nat.le_refl _) rfl (by decide) rfl rfl), Lib.hid (fun i j _ h => by omega)⟩
    case round =>
      obtain ⟨q, ts, N, hq, rfl, ⟨x, rfl⟩, HTs, hN, hN2, HNl, HO, HUA⟩ := hrel
      by_cases hlt : q < rs.length
      · have hz : rs[q]? = some rs[q] := List.getElem?_eq_getElem hlt
        obtain ⟨b1, o1, rfl, hb1, hc1⟩ := HRC.out q (slotC rs[q]) (by rw [List.getElem?_map, hz]; rfl) (by simp [slotC])
        have hb3 := HE3.out.size
        obtain ⟨x0', x1'⟩ := slotZ_at hc1
        have x0 := (HE3.out.grow).cell x0' (by simp)
        have x1 := (HE3.out.grow).cell x1' (by simp)
        obtain ⟨k1, k2, k3⟩ := lt_facts (show b1 < w3.heap.size by omega)
        have hb1' : b1 < w3.heap.size := by omega
        have hqi : (q : Int) < rs.length := by omega
        have hqi0 : 0 ≤ (q : Int) := by omega
        have HZ := Lib.hid hz
        have HZd := Lib.hid (show rs.getD q (0, 0) = rs[q] from by rw [List.getD_eq_getElem?_getD, hz]; rfl)
        generalize rs[q] = z at *
        obtain ⟨za, zb⟩ := z
        dsimp only at x0 x1
        clear hz hc1 x0' x1'
        go_wp2_with fail
        go_loopw [20] (fun i wi => ∃ p : Nat, p ≤ q ∧ i = .int .i64 p ∧ Ext w3 wi ∧ Hid (wi.ownsRow w3.heap.size 3 1 u18 N ((allI frm dst ts).map intC).flatten) ∧ Hid (UnAt rs q p)) (fun i _ => q - (intOf i).toNat)
        case atStart => exact ⟨0, Nat.zero_le _, rfl, (by repeat (first | exact Ext.refl _ | apply Ext.more | apply Ext.alloc | apply Ext.drew | apply Ext.drewN)), HO, Lib.hid (fun i h => by omega)⟩
        case round =>
          obtain ⟨p, hp, rfl, ⟨xi, rfl⟩, HOi, HAi⟩ := hrel
          clear HO
          by_cases hpl : p < q
          · have hpr : p < rs.length := by omega
            have hzp : rs[p]? = some rs[p] := List.getElem?_eq_getElem hpr
            obtain ⟨b2, o2, h12, hb2, hc2⟩ := HRC.out p (slotC rs[p]) (by rw [List.getElem?_map, hzp]; rfl) (by simp [slotC])
            cases h12
            obtain ⟨y0', y1'⟩ := slotZ_at hc2
            have y0 := (HE3.out.grow).cell y0' (by simp)
            have hpi : (p : Int) < rs.length := by omega
            have hpi0 : 0 ≤ (p : Int) := by omega
            have HZp := Lib.hid (show rs.getD p (0, 0) = rs[p] from by rw [List.getD_eq_getElem?_getD, hzp]; rfl)
            generalize rs[p] = y at *
            obtain ⟨ya, yb⟩ := y
            dsimp only at y0
            clear hzp hc2 y0' y1'
            by_cases heq : ya = za
            · have heb : (ya == za) = true := by simpa using heq
              clear heq
              go_wp2_with fail
              go_region
              all_goals
                go_wp2_with fail
                go_ret
                exact ⟨(by repeat (first | exact HE3.out | apply Ext.more | apply Ext.alloc | apply Ext.drew | apply Ext.drewN)), rfl⟩
            · have heb : (ya == za) = false := by simpa using heq
              have HN := Lib.hid (show Hid (UnAt rs q (p + 1)) from fun i hi => by
                by_cases e : i = p
                · subst e; rw [HZp.out, HZd.out]; exact heq
                · exact HAi.out i (by omega))
              clear heq
              go_wp2_with fail
              go_region
              all_goals
                go_wp2_with fail
                go_roundw
                case rel => exact ⟨p + 1, by omega, by go_num, (by repeat (first | exact Ext.refl _ | apply Ext.more | apply Ext.alloc | apply Ext.drew | apply Ext.drewN)), (by show World.ownsRow _ _ _ _ _ _ _; exact (by repeat (first | (with_reducible apply own_alloc) | (with_reducible apply own_drew) | (with_reducible apply own_drewN) | exact HOi.out | (with_reducible apply own_more)))), HN.out⟩
                case measure => simp [intOf]; omega
          · obtain rfl : p = q := by omega
            have HUA' := Lib.hid (show Hid (UnA rs (p + 1)) from fun i j hij hj => by
              by_cases e : j = p
              · subst e; exact HAi.out i hij
              · exact HUA.out i j hij (by omega))
            clear HAi hpl hp
            by_cases hin : 0 ≤ zb ∧ zb < n
            · obtain ⟨z0, z1⟩ := hin
              obtain ⟨rt, hrt⟩ : ∃ rt, tabsAt ws n 4 0 zb = rt := ⟨_, rfl⟩
              have HTb := Lib.hid (fun w hr => ref12_Tables (n := n) (h := h) (hc := hc) (gb := gb) (gc := gc) HW.out 4 w hr 0 zb (by omega) (by omega) (by omega))
              rw [hrt] at HTb
              have HRT := Lib.hid hrt
              clear hrt
              go_wp2_with fail
              refine (HTb.out _ (by repeat (first | exact HRF3.out | apply RefAt.more | apply RefAt.alloc | apply RefAt.drew | apply RefAt.drewN))).mono ?_
              rintro e w4 ⟨⟨ex2, rfl⟩, hq4⟩
              cases rt with
              | none =>
                unfold TabsRet at hq4
                dsimp only at hq4
                subst hq4
                go_wp2_with fail
                go_ret
                exact ⟨(by repeat (first | exact HE3.out | apply Ext.more | apply Ext.alloc | apply Ext.drew | apply Ext.drewN)), rfl⟩
              | some t =>
                obtain ⟨ta, tcap, rfl, hot⟩ := hq4
                obtain ⟨tl0, tl1⟩ := tabs_len _ _ _ _ HRT.out
                have HOT := Lib.hid hot
                have HT1 := Lib.hid (all_flat intC Value.oneCell' (fun a => rfl) t)
                generalize (more w3 xi).heap.size = B4 at *
                clear hot HTb
                go_wp2_with (at_builtin; refine wpList_append_row w3 el_int rfl _ _ rfl u18 N _ rfl (by repeat (first | exact HOi.out | apply own_more | apply own_alloc | apply own_drew | apply own_drewN)) (by repeat (first | exact Ext.refl _ | apply Ext.more | apply Ext.alloc | apply Ext.drew | apply Ext.drewN)) B4 _ t.length _ rfl (by repeat (first | exact HOT.out | apply own_more | apply own_alloc | apply own_drew | apply own_drewN)) tl0 HT1.out (by omega) ?_; intro v1 x1 HO1 keep; clear keep)
                have HN' := Lib.hid (tabsTo_succ HTs.out HZ.out HRT.out)
                have HL' := Lib.hid (show (allI frm dst (ts ++ [t])).length = N + t.length from by rw [allI_snoc, List.length_append, HNl.out])
                go_roundw
                case rel => exact ⟨p + 1, ts ++ [t], N + t.length, by omega, by go_num, (by repeat (first | exact Ext.refl _ | apply Ext.more | apply Ext.alloc | apply Ext.drew | apply Ext.drewN)), HN', by omega, by omega, HL', (by
                  show World.ownsRow _ _ _ _ _ _ _
                  rw [allI_snoc, List.map_append, List.flatten_append]
                  exact HO1.out), HUA'.out⟩
                case measure => simp [intOf]; omega
            · have hcs : zb < 0 ∨ (0 ≤ zb ∧ (n : Int) ≤ zb) := by omega
              clear hin
              rcases hcs with h1 | ⟨h1, h2⟩
              all_goals
                go_wp2_with fail
                go_ret
                exact ⟨(by repeat (first | exact HE3.out | apply Ext.more | apply Ext.alloc | apply Ext.drew | apply Ext.drewN)), rfl⟩
      · obtain rfl : q = rs.length := by omega
        obtain ⟨aa, acap, rfl⟩ := own_form HO.out
        have HTs' := HTs
        generalize hall : allI frm dst ts = all at *
        have HAll := Lib.hid hall
        obtain ⟨ag, rfl, _, hag, hac, hacm, hcell⟩ := ints_cell HO.out (by omega) HNl.out.symm
        have hNb : N ≤ 30000 := by omega
        have hacm' : acap ≤ 9223372036854775807 := by unfold maxLen at hacm; exact hacm
        have HCl := Lib.hid hcell
        have HRF5 := Lib.hid (show RefAt (more w3 x) h hc n gb gc ws from (by repeat (first | exact HRF3.out | apply RefAt.more | apply RefAt.alloc | apply RefAt.drew | apply RefAt.drewN)))
        have HOS5 := Lib.hid (show OwnS (more w3 x) B2 _ _ from own_more HOS.out x)
        have HE5 := Lib.hid (HE3.out.more x)
        clear hcell hall hacm HO HM3 HRF3 HE3 HOS
        generalize w3.heap.size = B3 at *
        generalize more w3 x = w5 at *
        obtain ⟨g1, g2, g3⟩ := lt_facts hag
        go_wp2_with fail
        go_loopw [23, 24] (fun i _ wr => ∃ q : Nat, q ≤ N ∧ i = .int .i64 q ∧ Ext w5 wr ∧ Hid (Unlike all q)) (fun i _ _ => N - (intOf i).toNat)
        case atStart => exact ⟨0, Nat.zero_le _, rfl, Ext.refl _, unlike_zero _⟩
        case round =>
          obtain ⟨q, hq, rfl, hEr, HU⟩ := hrel
          obtain ⟨wo, rfl⟩ : ∃ wo : World, wo = wr := ⟨_, rfl⟩
          have HEr := Lib.hid hEr
          clear hEr
          by_cases hlt : q < N
          · go_wp2_with fail
            go_loopw [24] (fun i wi => ∃ p : Nat, p ≤ q ∧ i = .int .i64 p ∧ Ext w5 wi ∧ Hid (UnlikeAt all q p)) (fun i _ => q - (intOf i).toNat)
            case atStart => exact ⟨0, Nat.zero_le _, rfl, HEr.out, unlikeAt_zero _ _⟩
            case round =>
              obtain ⟨p, hp, rfl, ⟨xi, rfl⟩, HUA⟩ := hrel
              by_cases hpl : p < q
              · have y0 := HCl.out p (by omega)
                have y1 := HCl.out q hlt
                by_cases heq : all.getD p 0 = all.getD q 0
                · have heb : (all.getD q 0 == all.getD p 0) = true := by simpa using heq.symm
                  clear heq
                  generalize all.getD p 0 = X at *
                  generalize all.getD q 0 = Y at *
                  go_wp2_with fail
                  go_region
                  all_goals
                    go_wp2_with fail
                    go_ret
                    exact ⟨(by repeat (first | exact HE5.out | apply Ext.more | apply Ext.alloc | apply Ext.drew | apply Ext.drewN)), rfl⟩
                · have heb : (all.getD q 0 == all.getD p 0) = false := by simpa using fun h => heq h.symm
                  have HN := Lib.hid (show Hid (UnlikeAt all q (p + 1)) from unlikeAt_succ HUA.out heq)
                  clear heq
                  generalize all.getD p 0 = X at *
                  generalize all.getD q 0 = Y at *
                  go_wp2_with fail
                  go_region
                  all_goals
                    go_wp2_with fail
                    go_roundw
                    case rel => exact ⟨p + 1, by omega, by go_num, (by repeat (first | exact Ext.refl _ | apply Ext.more | apply Ext.alloc | apply Ext.drew | apply Ext.drewN)), HN.out⟩
                    case measure => simp [intOf]; omega
              · obtain rfl : p = q := by omega
                have HN := Lib.hid (show Hid (Unlike all (p + 1)) from unlike_succ HU.out HUA.out)
                go_wp2_with fail
                go_roundw
                case rel => exact ⟨p + 1, by omega, by go_num, (by repeat (first | exact Ext.refl _ | apply Ext.more | apply Ext.alloc | apply Ext.drew | apply Ext.drewN)), HN.out⟩
                case measure => simp [intOf]; omega
          · obtain rfl : q = N := by omega
            obtain ⟨xr, rfl⟩ := HEr.out
            have hu := HU.out
            rw [← HNl.out] at hu
            have hnd := unlike_nodup hu
            rw [← HAll.out] at hnd
            have hT := tabs_to_tabs HTs'.out hnd
            have hlen := HRF5.out.len
            obtain ⟨m1, m2, m3, m4, m5⟩ := move_leaves hT HMv.out (by omega) hlen
            have hwalk := fun i hi q q0 q1 => move_walks hT HMv.out (by omega) hlen HUA.out (i := i) hi q q0 q1
            rw [← HSo.out] at m1 m2 m4
            rw [← HSo.out] at hwalk
            have hSl : S.length ≤ 1000 := by rw [HSo.out, moveL_len, HMv.out.len]; omega
            have HS := Lib.hid m2
            have HS6 := Lib.hid (show ∀ s ∈ S, s.fKind ≠ 6 from fun s hs => by
              rw [HSo.out] at hs
              unfold moveL at hs
              simp only [List.mem_append] at hs
              rcases hs with hs | hs | hs | hs
              · rw [held_kinds s hs]; omega
              · rw [told_kinds s hs]; omega
              · rw [copy_kinds s hs]; omega
              · rw [done_kinds s hs]; omega)
            have HWU := Lib.hid (WOk_doW (n := n) _ _ HW.out m1)
            have HCo := Lib.hid m4
            have HWk := Lib.hid hwalk
            have HWs := HW
            have hcap1 := hscap1
            have HO := Lib.hid (show OwnS (more w5 xr) B2 _ _ from own_more HOS5.out xr)
            have HR := Lib.hid (show RefAt (more w5 xr) h hc n gb gc ws from (by repeat (first | exact HRF5.out | apply RefAt.more | apply RefAt.alloc | apply RefAt.drew | apply RefAt.drewN)))
            have HE6 := Lib.hid (HE5.out.more xr)
            clear hu hnd hT hlen m1 m2 m3 m4 m5 hwalk HEr HU HCl HRF5 HOS5 HE5 hlt hq HAll HTs HTs' HMv HSo hag g1 g2 g3 HNl HUA
            generalize more w5 xr = w6 at *
            generalize gb = gb0 at *
            generalize gc = gc0 at *
            have n1 : 1 ≤ n := hn1
            have n2 : n ≤ 512 := by omega
            go_upto_region 31 with fail
            refine keeps_steps w HW hn1 hn2 rs ps h4' h20' ra rcap fa fcap HPv hrcap hfcap HRC frm dst hf0 hf1 ht0 ht1 hSl hscap1 hscap2 w6 HS HS6 HWU HO HE6 HR HCo HWk _ ?_
            assumption

end Go.Proofs.Ythcdecgecabgaaa
