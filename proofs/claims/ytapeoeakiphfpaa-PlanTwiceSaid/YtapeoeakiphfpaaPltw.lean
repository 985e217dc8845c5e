import Derived.Test.YtapeoeakiphfpaaBPltpPlanePlkl
import Derived.Test.YtapeoeakiphfpaaBKeeqBacp
import Derived.StillTailTactics
/- The law paviorlaw13.PlanTwice. -/
namespace Go.Proofs.Ytapeoeakiphfpaa
open Go.RowKit
set_option linter.unusedVariables false
set_option linter.unusedSimpArgs false
attribute [local go_sem] setCell_drewN alloc_drewN lt_moreE le_moreE lt_moreK le_moreK cell_more frozen_more set_more drew_more drewN_more

theorem lay_new (w : World) (fr : Int) (hfr : (Lit.int .i64 fr).wf = true) (l : List Laid) (hl : ∀ d ∈ l, d.wf) (v : Value) (hv : SlRd w v 3 (l.map Laid.cells)) :
    Calls Try.prog 33 #[.int .i64 fr, v] w fun e w' => ∃ b g h hc gb gc, e = .returned (.tuple #[.pointer (some ⟨b, 0, none⟩), .slice (some ⟨h, 0, none⟩) (layN fr) hc]) ∧
      MemAt w' b g (layN fr) (layN fr) (layW (layN fr) l) ∧ RefAt w' h hc (layN fr) gb gc (layW (layN fr) l) ∧ Ext w w' ∧ w.heap.size ≤ g :=
  (law04_Lay w fr hfr l hl v hv).mono fun _ _ ⟨b, g, h, hc, gb, gc, he, hm, hr, hg, _, h2, _⟩ => ⟨b, g, h, hc, gb, gc, he, hm, hr, .of hg, h2⟩
theorem do_succ {n k : Nat} {C : List Step} (ws : List Int) {s : Step} (hz : C[k]? = some s) : doW n ws (C.take (k + 1)) = stepW n (doW n ws (C.take k)) s := by
  rw [take_snoc hz, doW_append]
  rfl
set_option maxRecDepth 100000 in
set_option maxHeartbeats 8000000 in
theorem law13_PlanTwice (w : World) (fr : Int) (hfr : (Lit.int .i64 fr).wf = true) (l : List Laid) (hl : ∀ d ∈ l, d.wf) (v : Value) (hv : SlRd w v 3 (l.map Laid.cells)) (root : Int) (_ : (Lit.int .i64 root).wf = true) (from_ : Int) (_ : (Lit.int .i64 from_).wf = true) (to : Int) (hto : (Lit.int .i64 to).wf = true) (wr ex : Bool) :
    Calls Try.prog 8 #[.int .i64 fr, v, .int .i64 root, .int .i64 from_, .int .i64 to, .bool wr, .bool ex] w fun e w' => e = .returned (.bool true) ∧ w.grownBy w' none := by
  refine growC (R := fun e _ => e = .returned (.bool true)) ?_
  have hw := WOk_layW (layN fr) l hl
  have hn1 := layN_lo fr
  have hn2 := layN_hi fr
  have HL := Lib.hid hl
  have HV := Lib.hid hv
  have HR := Lib.hid hfr
  have HW := Lib.hid hw
  have HTo := Lib.hid hto
  clear hl hv hfr hw hto
  go_enter Try.func8, Try.ntmps8
  go_wp2_with fail
  refine (law13_up _).mono ?_
  rintro e w1 ⟨⟨ex1, rfl⟩, rfl⟩
  go_wp2_with fail
  refine (lay_new _ fr HR.out l HL.out v (by repeat (first | exact HV.out | apply rd_more | apply rd_alloc | apply rd_drew | apply rd_drewN))).mono ?_
  rintro e w2 ⟨b, g, h, hc, gb, gc, rfl, hm2, hr2, hE, hgg⟩
  have hE2 : Ext w w2 := Ext.trans (by repeat (first | exact Ext.refl _ | apply Ext.more | apply Ext.alloc | apply Ext.drew | apply Ext.drewN)) hE
  have hgw : w.heap.size ≤ g := by have := size_le_more w ex1; omega
  have HM := Lib.hid hm2
  have HLen := Lib.hid hr2.len
  have HE2 := Lib.hid hE2
  clear HL HV HR hE hE2 hr2 hm2 hgg
  generalize layW (layN fr) l = ws at *
  generalize layN fr = n at *
  obtain ⟨rt, hrt⟩ : ∃ rt, tabsQ ws n root = rt := ⟨_, rfl⟩
  have HT := Lib.hid (fun w hm => tree_TablesQ (b := b) (g := g) (c := n) w hm HW.out root rt hrt)
  obtain ⟨Q, hQ⟩ : ∃ Q, wholeRes 1 from_ to (leavesRes ws n root from_ to) = Q := ⟨_, rfl⟩
  have HG := Lib.hid (fun w hm => plan_Rights (b := b) (g := g) (c := n) w hm HW.out root 1 from_ to HTo.out wr ex Q hQ)
  have HRT := Lib.hid hrt
  have HQ := Lib.hid hQ
  clear hrt hQ
  go_wp2_with fail
  refine (HT.out _ (by repeat (first | exact HM.out | apply MemAt.more | apply MemAt.alloc | apply MemAt.drew | apply MemAt.drewN))).mono ?_
  rintro e w3 ⟨hE3, hq⟩
  have HE3 := Lib.hid (HE2.out.trans hE3)
  have HM3 := Lib.hid (HM.out.kept0 hE3.grow)
  generalize w2.heap.size = B2 at *
  clear HT HM HE2 hE3
  cases rt with
  | none =>
    obtain ⟨k, rfl⟩ := hq
    go_wp2_with fail
    go_ret
    exact ⟨(by repeat (first | exact HE3.out | apply Ext.more | apply Ext.alloc | apply Ext.drew | apply Ext.drewN)), rfl⟩
  | some t =>
    obtain ⟨ta, tcap, rfl, hot⟩ := hq
    obtain ⟨r0, r1, hat⟩ := tabsQ_some HRT.out
    obtain ⟨tl0, tl1⟩ := tabs_len _ _ _ _ hat
    have HAT := Lib.hid hat
    obtain ⟨N, hN⟩ : ∃ N, t.length = N := ⟨_, rfl⟩
    have HNl := Lib.hid hN
    rw [hN] at hot tl0 tl1
    rw [hN]
    obtain ⟨ag, rfl, _, hag, hac, hacm, hcell⟩ := ints_cell hot (by omega) hN.symm
    have hNb : N ≤ 7000 := by omega
    have hacm' : tcap ≤ 9223372036854775807 := by unfold maxLen at hacm; exact hacm
    have HCl := Lib.hid hcell
    clear hot hat HRT hcell hN hacm
    obtain ⟨g1, g2, g3⟩ := lt_facts hag
    go_wp2_with fail
    go_loopw [20, 21] (fun i _ wr => ∃ q : Nat, q ≤ N ∧ i = .int .i64 q ∧ Ext w3 wr ∧ Hid (Unlike t q)) (fun i _ _ => N - (intOf i).toNat)
    case atStart => exact ⟨0, Nat.zero_le _, rfl, Ext.refl _, unlike_zero _⟩
    case round =>
      obtain ⟨q, hq, rfl, hEr, HU⟩ := hrel
      obtain ⟨wo, rfl⟩ : ∃ wo : World, wo = wr := ⟨_, rfl⟩
      have HEr := Lib.hid hEr
      clear hEr
      by_cases hlt : q < N
      · go_wp2_with fail
        go_loopw [21] (fun i wi => ∃ p : Nat, p ≤ q ∧ i = .int .i64 p ∧ Ext w3 wi ∧ Hid (UnlikeAt t q p)) (fun i _ => q - (intOf i).toNat)
        case atStart => exact ⟨0, Nat.zero_le _, rfl, HEr.out, unlikeAt_zero _ _⟩
        case round =>
          obtain ⟨p, hp, rfl, ⟨xi, rfl⟩, HUA⟩ := hrel
          by_cases hpl : p < q
          · have y0 := HCl.out p (by omega)
            have y1 := HCl.out q hlt
            by_cases heq : t.getD p 0 = t.getD q 0
            · have heb : (t.getD q 0 == t.getD p 0) = true := by simpa using heq.symm
              clear heq
              generalize t.getD p 0 = X at *
              generalize t.getD q 0 = Y at *
              go_wp2_with fail
              go_region
              all_goals
                go_wp2_with fail
                go_ret
                exact ⟨(by repeat (first | exact HE3.out | apply Ext.more | apply Ext.alloc | apply Ext.drew | apply Ext.drewN)), rfl⟩
            · have heb : (t.getD q 0 == t.getD p 0) = false := by simpa using fun h => heq h.symm
              have HN := Lib.hid (show Hid (UnlikeAt t q (p + 1)) from unlikeAt_succ HUA.out heq)
              clear heq
              generalize t.getD p 0 = X at *
              generalize t.getD q 0 = Y at *
              go_wp2_with fail
              go_region
              all_goals
                go_wp2_with fail
                go_roundw
                case rel => exact ⟨p + 1, by omega, by go_num, (by repeat (first | exact Ext.refl _ | apply Ext.more | apply Ext.alloc | apply Ext.drew | apply Ext.drewN)), HN.out⟩
                case measure => simp [intOf]; omega
          · obtain rfl : p = q := by omega
            have HN := Lib.hid (show Hid (Unlike t (p + 1)) from unlike_succ HU.out HUA.out)
            go_wp2_with fail
            go_roundw
            case rel => exact ⟨p + 1, by omega, by go_num, (by repeat (first | exact Ext.refl _ | apply Ext.more | apply Ext.alloc | apply Ext.drew | apply Ext.drewN)), HN.out⟩
            case measure => simp [intOf]; omega
      · obtain rfl : q = N := by omega
        obtain ⟨xr, rfl⟩ := HEr.out
        have hu := HU.out
        rw [← HNl.out] at hu
        have HND := Lib.hid (unlike_nodup hu)
        have HM6 := Lib.hid (show MemAt (more w3 xr) b g n n ws from (by repeat (first | exact HM3.out | apply MemAt.more | apply MemAt.alloc | apply MemAt.drew | apply MemAt.drewN)))
        have HE6 := Lib.hid (HE3.out.more xr)
        clear hu HEr HU HCl HM3 HE3 hlt hq HNl hag g1 g2 g3
        generalize more w3 xr = W6 at *
        cases Q with
        | no k =>
          go_wp2_with fail
          refine (HG.out _ HM6.out).mono ?_
          rintro e w7 ⟨hE7, hq7⟩
          replace hq7 : e = .returned (.tuple #[.slice none 0 0, errW k]) := hq7
          subst hq7
          have HE7 := Lib.hid (HE6.out.trans hE7)
          clear hE7
          go_wp2_with fail
          go_ret
          exact ⟨(by repeat (first | exact HE7.out | apply Ext.more | apply Ext.alloc | apply Ext.drew | apply Ext.drewN)), rfl⟩
        | yes L =>
          have hLl := ((whole_ok2 (leaves_ok ws n root from_ to) HQ.out) L rfl).1
          have hl1 := awayL_len 1 L
          have hl2 := rightsL_len ws 1 wr ex L
          have hP := plan_at HQ.out HAT.out HND.out (by omega) HLen.out
          obtain ⟨_, _, _, _, k5⟩ := away_behind hP.lv
          obtain ⟨j1, _, j3, j4, j5⟩ := rights_behind (hP.lv.filter (chF wr ex)) wr ex
          have hC2 := rights_finds hP wr ex j3 j4
          have hCe : awayL 1 (L.filter (chF wr ex)) ++ setL ws 1 wr ex (L.filter (chF wr ex)) = rightsL ws 1 wr ex L := rfl
          rw [hCe] at j1 j3 j5 hC2
          have hvl : (doW n ws (rightsL ws 1 wr ex L)).length = n * 8 := by rw [doW_len]; exact HLen.out
          obtain ⟨hT2, hz2⟩ := clear_after (vs := doW n ws (rightsL ws 1 wr ex L)) hP.lv hvl (fun j hj => j3.off j fun f hf => hj f (List.mem_filter.1 hf).1)
          have hC3 := clear_finds hP hT2 hz2
          have hq2 := rights_leaves HQ.out hP wr ex hC2
          have hq3 := clear_leaves HQ.out hP hC3
          have hwv := WOk_doW (n := n) _ _ HW.out j1
          have hwu := WOk_doW (n := n) _ _ hwv (away_behind hP.lv).1
          have hr2 := rights_wx (doW n ws (rightsL ws 1 wr ex L)) 1 wr ex L
          have ha2 := away_wx 1 wr ex L
          obtain ⟨C, hC⟩ : ∃ C, rightsL ws 1 wr ex L = C := ⟨_, rfl⟩
          obtain ⟨A, hA⟩ : ∃ A, awayL 1 L = A := ⟨_, rfl⟩
          rw [hA] at k5 hq3 hwu ha2 hl1
          rw [hC] at j5 hq2 hq3 hwv hwu hr2 hl2
          have HVS := Lib.hid (show doW n ws (C.take C.length) = doW n ws C from by rw [List.take_length])
          have HUS := Lib.hid (show doW n (doW n ws C) (A.take A.length) = doW n (doW n ws C) A from by rw [List.take_length])
          have HK5 := Lib.hid k5
          have HJ5 := Lib.hid j5
          have HCe := Lib.hid (show rightsRes ws 1 wr ex (.yes L) = .yes C from by rw [← hC]; rfl)
          clear hC hA hT2 hz2 hC3 hC2 j1 j3 j4 j5 k5 hP hCe hvl
          generalize hvs : doW n ws C = vs at *
          generalize hus : doW n vs A = us at *
          have HG2 := Lib.hid (fun w hm => plan_Rights (b := b) (g := g) (c := n) w hm hwv root 1 from_ to HTo.out wr ex _ hq2)
          have HC2 := Lib.hid (fun w hm => plan_Clear (b := b) (g := g) (c := n) w hm hwv root 1 from_ to HTo.out _ hq2)
          have HR2 := Lib.hid (show rightsRes vs 1 wr ex (.yes (L.map (wxF wr ex))) = .yes [] from by unfold rightsRes; dsimp only; rw [hr2])
          have HA2 := Lib.hid (show clearRes 1 (.yes (L.map (wxF wr ex))) = .yes A from by unfold clearRes; dsimp only; rw [ha2])
          have hq4 : wholeRes 1 from_ to (leavesRes us n root from_ to) = .yes [] := by rw [hq3]; rfl
          have HC3 := Lib.hid (fun w hm => plan_Clear (b := b) (g := g) (c := n) w hm hwu root 1 from_ to HTo.out _ hq4)
          have HL3 := Lib.hid (fun w hm => plan_Leaves (b := b) (g := g) (c := n) w hm hwu root from_ to HTo.out _ hq3)
          have HWV := Lib.hid hwv
          clear hq2 hq3 hq4 hwv hwu hr2 ha2 hvs hus HQ HAT HND
          rw [HR2.out] at HG2
          rw [HA2.out] at HC2
          rw [HCe.out] at HG
          clear HR2 HA2 HCe
          generalize LeavesR.yes (L.map (wxF wr ex)) = QQ at *
          go_wp2_with fail
          refine (HG.out _ HM6.out).mono ?_
          rintro e w7 ⟨hE7, hq7⟩
          obtain ⟨aa, acap, rfl, hoa⟩ := hq7
          have HOA := Lib.hid hoa
          have HM7 := Lib.hid (HM6.out.kept0 hE7.grow)
          have HE7 := Lib.hid (HE6.out.trans hE7)
          have hcap := own_cap hoa
          have hcap1 := hcap.2.1
          have hcap2 : acap ≤ 9223372036854775807 := by have := hcap.2.2; unfold maxLen at this; exact this
          clear hE7 hoa HG HM6 HE6 hcap
          generalize W6.heap.size = B6 at *
          go_wp2_with fail
          go_loopw [24] (fun i wr' => ∃ k : Nat, k ≤ C.length ∧ i = .int .i64 k ∧ Ext w wr' ∧ Hid (MemAt wr' b g n n (doW n ws (C.take k))) ∧ Hid (OwnS wr' B6 (.slice aa C.length acap) C)) (fun i _ => C.length - (intOf i).toNat)
          case atStart => exact ⟨0, Nat.zero_le _, rfl, HE7.out, HM7, HOA⟩
          case round =>
            obtain ⟨k, hk, rfl, hEr, HMr, HOr⟩ := hrel
            have HEr := Lib.hid hEr
            clear hEr HM7 HOA HE7
            by_cases hlt : k < C.length
            · have hz : C[k]? = some C[k] := List.getElem?_eq_getElem hlt
              have HD := Lib.hid (do_succ (n := n) ws hz)
              have hks := HJ5.out _ (List.getElem_mem hlt)
              obtain ⟨gs, rfl, _, hgs, _, hcl, _⟩ := own_at HOr.out (by omega)
              obtain ⟨x0, x1, x2, x3, x4, x5, x6, x7, x8, x9⟩ := step_at hcl k C[k] hz
              have hki : (k : Int) < (C.length : Int) := by omega
              have hki0 : 0 ≤ (k : Int) := by omega
              clear hz hcl
              generalize C[k] = s at *
              rcases hks with hks | hks
              · obtain ⟨t0, t1, p0, p1⟩ := hks.inn
                have hkd := hks.kd
                rw [hks.step] at HD
                unfold idxS at HD
                obtain ⟨kd, asd, lv, tb, pl, fi, va, tt, fr, ii⟩ := s
                dsimp only at *
                subst hkd
                obtain ⟨T, rfl⟩ := Int.eq_ofNat_of_zero_le t0
                obtain ⟨P, rfl⟩ := Int.eq_ofNat_of_zero_le p0
                rw [Int.toNat_natCast, Int.toNat_natCast] at HD
                have HSt := Lib.hid (fun wr' (hm : MemAt wr' b g n n (doW n ws (C.take k))) => phys_Store_keep wr' hm T P va (by omega) (by omega))
                clear hks
                go_wp2_with fail
                refine wp_region_still_tail 16 (by kernel_rfl) (by kernel_rfl) ?_
                simp only [List.take_succ_cons, List.take_zero, List.drop_succ_cons, List.drop_zero]
                repeat still_step
                refine wpStill_nil ?_
                go_wp2_with fail
                refine (HSt.out _ (by repeat (first | exact HMr.out | apply MemAt.more | apply MemAt.alloc | apply MemAt.drew | apply MemAt.drewN))).mono ?_
                rintro e wn ⟨rfl, hmn, hgn, hkn⟩
                have HMn := Lib.hid hmn
                have HEn := Lib.hid (show Ext w wn from .of (grow_new (Ext.grow (by repeat (first | exact HEr.out | apply Ext.more | apply Ext.alloc | apply Ext.drew | apply Ext.drewN))) hgn hgw))
                have HOn := Lib.hid (own_keepM hkn (by repeat (first | exact HOr.out | apply own_more | apply own_alloc | apply own_drew | apply own_drewN)) (by decide))
                clear hmn hgn hkn HSt HMr HOr HEr x0 x1 x2 x3 x4 x5 x6 x7 x8 x9
                rw [← HD.out] at HMn
                go_wp2_with fail
                go_roundw
                case rel => exact ⟨k + 1, by omega, by go_num, HEn.out, HMn, HOn⟩
                case measure => simp [intOf]; omega
              · rw [stepW_none (by omega) (by omega) (by omega)] at HD
                obtain ⟨kd, asd, lv, tb, pl, fi, va, tt, fr, ii⟩ := s
                dsimp only at *
                subst hks
                rw [← HD.out] at HMr
                go_wp2_with fail
                go_roundw
                case rel => exact ⟨k + 1, by omega, by go_num, HEr.out, HMr, HOr⟩
                case measure => simp [intOf]; omega
            · obtain rfl : k = C.length := by omega
              rw [HVS.out] at HMr
              clear HOr
              go_wp2_with fail
              refine (HG2.out _ HMr.out).mono ?_
              rintro e w8 ⟨hE8, hq8⟩
              obtain ⟨ba, bcap, rfl, _⟩ := hq8
              have HM8 := Lib.hid (HMr.out.kept0 hE8.grow)
              have HE8 := Lib.hid (HEr.out.trans hE8)
              clear hE8 HMr HEr HG2
              rw [List.length_nil]
              go_wp2_with fail
              refine (HC2.out _ HM8.out).mono ?_
              rintro e w9 ⟨hE9, hq9⟩
              obtain ⟨ca, ccap, rfl, hoc⟩ := hq9
              have HOC := Lib.hid hoc
              have HM9 := Lib.hid (HM8.out.kept0 hE9.grow)
              have HE9 := Lib.hid (HE8.out.trans hE9)
              have hcap := own_cap hoc
              have hccap1 := hcap.2.1
              have hccap2 : ccap ≤ 9223372036854775807 := by have := hcap.2.2; unfold maxLen at this; exact this
              clear hE9 hoc HC2 HM8 HE8 hcap
              generalize w8.heap.size = B8 at *
              go_wp2_with fail
              go_loopw [29] (fun i wr' => ∃ k : Nat, k ≤ A.length ∧ i = .int .i64 k ∧ Ext w wr' ∧ Hid (MemAt wr' b g n n (doW n vs (A.take k))) ∧ Hid (OwnS wr' B8 (.slice ca A.length ccap) A)) (fun i _ => A.length - (intOf i).toNat)
              case atStart => exact ⟨0, Nat.zero_le _, rfl, HE9.out, HM9, HOC⟩
              case round =>
                obtain ⟨k, hk, rfl, hEr, HMr, HOr⟩ := hrel
                have HEr := Lib.hid hEr
                clear hEr HM9 HOC HE9
                by_cases hlt : k < A.length
                · have hz : A[k]? = some A[k] := List.getElem?_eq_getElem hlt
                  have HD := Lib.hid (do_succ (n := n) vs hz)
                  have hks := HK5.out _ (List.getElem_mem hlt)
                  obtain ⟨gs, rfl, _, hgs, _, hcl, _⟩ := own_at HOr.out (by omega)
                  obtain ⟨x0, x1, x2, x3, x4, x5, x6, x7, x8, x9⟩ := step_at hcl k A[k] hz
                  have hki : (k : Int) < (A.length : Int) := by omega
                  have hki0 : 0 ≤ (k : Int) := by omega
                  clear hz hcl
                  generalize A[k] = s at *
                  rcases hks with hks | hks
                  · obtain ⟨t0, t1, p0, p1⟩ := hks.inn
                    have hkd := hks.kd
                    rw [hks.step] at HD
                    unfold idxS at HD
                    obtain ⟨kd, asd, lv, tb, pl, fi, va, tt, fr, ii⟩ := s
                    dsimp only at *
                    subst hkd
                    obtain ⟨T, rfl⟩ := Int.eq_ofNat_of_zero_le t0
                    obtain ⟨P, rfl⟩ := Int.eq_ofNat_of_zero_le p0
                    rw [Int.toNat_natCast, Int.toNat_natCast] at HD
                    have HSt := Lib.hid (fun wr' (hm : MemAt wr' b g n n (doW n vs (A.take k))) => phys_Store_keep wr' hm T P va (by omega) (by omega))
                    clear hks
                    go_wp2_with fail
                    refine wp_region_still_tail 16 (by kernel_rfl) (by kernel_rfl) ?_
                    simp only [List.take_succ_cons, List.take_zero, List.drop_succ_cons, List.drop_zero]
                    repeat still_step
                    refine wpStill_nil ?_
                    go_wp2_with fail
                    refine (HSt.out _ (by repeat (first | exact HMr.out | apply MemAt.more | apply MemAt.alloc | apply MemAt.drew | apply MemAt.drewN))).mono ?_
                    rintro e wn ⟨rfl, hmn, hgn, hkn⟩
                    have HMn := Lib.hid hmn
                    have HEn := Lib.hid (show Ext w wn from .of (grow_new (Ext.grow (by repeat (first | exact HEr.out | apply Ext.more | apply Ext.alloc | apply Ext.drew | apply Ext.drewN))) hgn hgw))
                    have HOn := Lib.hid (own_keepM hkn (by repeat (first | exact HOr.out | apply own_more | apply own_alloc | apply own_drew | apply own_drewN)) (by decide))
                    clear hmn hgn hkn HSt HMr HOr HEr x0 x1 x2 x3 x4 x5 x6 x7 x8 x9
                    rw [← HD.out] at HMn
                    go_wp2_with fail
                    go_roundw
                    case rel => exact ⟨k + 1, by omega, by go_num, HEn.out, HMn, HOn⟩
                    case measure => simp [intOf]; omega
                  · rw [stepW_none (by omega) (by omega) (by omega)] at HD
                    obtain ⟨kd, asd, lv, tb, pl, fi, va, tt, fr, ii⟩ := s
                    dsimp only at *
                    subst hks
                    rw [← HD.out] at HMr
                    go_wp2_with fail
                    go_roundw
                    case rel => exact ⟨k + 1, by omega, by go_num, HEr.out, HMr, HOr⟩
                    case measure => simp [intOf]; omega
                · obtain rfl : k = A.length := by omega
                  rw [HUS.out] at HMr
                  clear HOr
                  go_wp2_with fail
                  refine (HC3.out _ HMr.out).mono ?_
                  rintro e w10 ⟨hE10, hq10⟩
                  obtain ⟨da, dcap, rfl, _⟩ := hq10
                  have HM10 := Lib.hid (HMr.out.kept0 hE10.grow)
                  have HE10 := Lib.hid (HEr.out.trans hE10)
                  clear hE10 HMr HEr HC3
                  rw [show (awayL 1 []).length = 0 from rfl]
                  go_wp2_with fail
                  refine (HL3.out _ HM10.out).mono ?_
                  rintro e w11 ⟨hE11, hq11⟩
                  obtain ⟨ea, ecap, rfl, _⟩ := hq11
                  have HE11 := Lib.hid (HE10.out.trans hE11)
                  clear hE11 HM10 HE10 HL3
                  rw [List.length_nil]
                  go_wp2_with fail
                  go_ret
                  exact ⟨(by repeat (first | exact HE11.out | apply Ext.more | apply Ext.alloc | apply Ext.drew | apply Ext.drewN)), rfl⟩

end Go.Proofs.Ytapeoeakiphfpaa
