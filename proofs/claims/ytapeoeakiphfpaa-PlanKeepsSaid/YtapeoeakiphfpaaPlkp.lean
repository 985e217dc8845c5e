import Derived.Test.YtapeoeakiphfpaaBPlaqRighttPlkl
import Derived.Test.YtapeoeakiphfpaaWatb
import Derived.Test.YtapeoeakiphfpaaBDobPlane
import Derived.Test.YtapeoeakiphfpaaBInSamqPrunsKeeqBacp
import Derived.Test.YtapeoeakiphfpaaFoldx
/- The law paviorlaw13.PlanKeeps. -/
namespace Go.Proofs.Ytapeoeakiphfpaa
open Go.RowKit
set_option linter.unusedVariables false
set_option linter.unusedSimpArgs false
attribute [local go_sem] setCell_drewN alloc_drewN lt_moreE le_moreE lt_moreK le_moreK cell_more frozen_more set_more drew_more drewN_more

theorem box_ext {w w' : World} {n : Nat} {o : Obj} (h : w.heap[n]? = some o) (hE : Ext w w') : w'.heap[n]? = some o := by
  obtain ⟨x, rfl⟩ := hE
  exact box_more h x
set_option maxRecDepth 100000 in
set_option maxHeartbeats 8000000 in
theorem law13_PlanKeeps (w : World) (fr : Int) (hfr : (Lit.int .i64 fr).wf = true) (l : List Laid) (hl : ∀ d ∈ l, d.wf) (v : Value) (hv : SlRd w v 3 (l.map Laid.cells)) (root : Int) (_ : (Lit.int .i64 root).wf = true) (asid : Int) (_ : (Lit.int .i64 asid).wf = true) (from_ : Int) (_ : (Lit.int .i64 from_).wf = true) (to : Int) (hto : (Lit.int .i64 to).wf = true) (wr ex : Bool) :
    Calls Try.prog 11 #[.int .i64 fr, v, .int .i64 root, .int .i64 asid, .int .i64 from_, .int .i64 to, .bool wr, .bool ex] w fun e w' => e = .returned (.bool true) ∧ w.grownBy w' none := by
  refine growC (R := fun e _ => e = .returned (.bool true)) ?_
  have hw := WOk_layW (layN fr) l hl
  have hn1 := layN_lo fr
  have hn2 := layN_hi fr
  have HL := Lib.hid hl
  have HV := Lib.hid hv
  have HR := Lib.hid hfr
  have HW := Lib.hid hw
  have HTo := Lib.hid hto
  clear hl hv hfr hw hto
  go_enter Try.func11, Try.ntmps11
  go_wp2_with fail
  refine (law13_up _).mono ?_
  rintro e w1 ⟨⟨ex1, rfl⟩, rfl⟩
  go_wp2_with fail
  refine (lay_ext _ fr HR.out l HL.out v (by repeat (first | exact HV.out | apply rd_more | apply rd_alloc | apply rd_drew | apply rd_drewN))).mono ?_
  rintro e w2 ⟨b, g, h, hc, gb, gc, rfl, hm2, hr2, hE⟩
  have hE2 : Ext w w2 := Ext.trans (by repeat (first | exact Ext.refl _ | apply Ext.more | apply Ext.alloc | apply Ext.drew | apply Ext.drewN)) hE
  have HM := Lib.hid hm2
  have HRF := Lib.hid hr2
  have HE2 := Lib.hid hE2
  clear HL HV HR hE hE2 hr2 hm2
  generalize layW (layN fr) l = ws at *
  generalize layN fr = n at *
  obtain ⟨rt, hrt⟩ : ∃ rt, tabsQ ws n root = rt := ⟨_, rfl⟩
  have HT := Lib.hid (fun w hm => tree_TablesQ (b := b) (g := g) (c := n) w hm HW.out root rt hrt)
  obtain ⟨Q, hQ⟩ : ∃ Q, wholeRes asid from_ to (leavesRes ws n root from_ to) = Q := ⟨_, rfl⟩
  have HC := Lib.hid (fun w hm => plan_Clear (b := b) (g := g) (c := n) w hm HW.out root asid from_ to HTo.out Q hQ)
  have HG := Lib.hid (fun w hm => plan_Rights (b := b) (g := g) (c := n) w hm HW.out root asid from_ to HTo.out wr ex Q hQ)
  have HRT := Lib.hid hrt
  have HQ := Lib.hid hQ
  clear hrt hQ
  go_wp2_with fail
  refine (HT.out _ (by repeat (first | exact HM.out | apply MemAt.more | apply MemAt.alloc | apply MemAt.drew | apply MemAt.drewN))).mono ?_
  rintro e w3 ⟨hE3, hq⟩
  have HE3 := Lib.hid (HE2.out.trans hE3)
  have HM3 := Lib.hid (HM.out.kept0 hE3.grow)
  have HRF3 := Lib.hid (HRF.out.kept0 hE3.grow)
  generalize w2.heap.size = B2 at *
  clear HT HM HRF HE2 hE3
  cases rt with
  | none =>
    obtain ⟨k, rfl⟩ := hq
    go_wp2_with fail
    refine (HC.out _ (by repeat (first | exact HM3.out | apply MemAt.more | apply MemAt.alloc | apply MemAt.drew | apply MemAt.drewN))).mono ?_
    rintro e w4 ⟨hE4, hq4⟩
    obtain ⟨va, ea, rfl, _⟩ := steps_out hq4
    have HM4 := Lib.hid (HM3.out.kept0 hE4.grow)
    have HE4 := Lib.hid (HE3.out.trans hE4)
    clear hE4 hq4
    go_wp2_with fail
    refine (HG.out _ (by repeat (first | exact HM4.out | apply MemAt.more | apply MemAt.alloc | apply MemAt.drew | apply MemAt.drewN))).mono ?_
    rintro e w5 ⟨hE5, hq5⟩
    obtain ⟨vb, eb, rfl, _⟩ := steps_out hq5
    have HE5 := Lib.hid (HE4.out.trans hE5)
    clear hE5 hq5
    go_wp2_with fail
    go_ret
    exact ⟨(by repeat (first | exact HE5.out | apply Ext.more | apply Ext.alloc | apply Ext.drew | apply Ext.drewN)), rfl⟩
  | some t =>
    obtain ⟨ta, tcap, rfl, hot⟩ := hq
    obtain ⟨r0, r1, hat⟩ := tabsQ_some HRT.out
    obtain ⟨tl0, tl1⟩ := tabs_len _ _ _ _ hat
    have HAT := Lib.hid hat
    have HOT := Lib.hid hot
    clear hot hat HRT
    go_wp2_with fail
    refine (HC.out _ (by repeat (first | exact HM3.out | apply MemAt.more | apply MemAt.alloc | apply MemAt.drew | apply MemAt.drewN))).mono ?_
    rintro e w4 ⟨hE4, hq4⟩
    have HM4 := Lib.hid (HM3.out.kept0 hE4.grow)
    have HRF4 := Lib.hid (HRF3.out.kept0 hE4.grow)
    have HOT4 := Lib.hid (own_ext HOT.out hE4)
    have HE4 := Lib.hid (HE3.out.trans hE4)
    clear hE4 HM3 HRF3 HE3 HOT HC
    generalize w3.heap.size = B3 at *
    cases Q with
    | no k =>
      replace hq4 : e = .returned (.tuple #[.slice none 0 0, errW k]) := hq4
      subst hq4
      go_wp2_with fail
      refine (HG.out _ (by repeat (first | exact HM4.out | apply MemAt.more | apply MemAt.alloc | apply MemAt.drew | apply MemAt.drewN))).mono ?_
      rintro e w5 ⟨hE5, hq5⟩
      replace hq5 : e = .returned (.tuple #[.slice none 0 0, errW k]) := hq5
      subst hq5
      have HE5 := Lib.hid (HE4.out.trans hE5)
      clear hE5
      go_wp2_with fail
      go_ret
      exact ⟨(by repeat (first | exact HE5.out | apply Ext.more | apply Ext.alloc | apply Ext.drew | apply Ext.drewN)), rfl⟩
    | yes L =>
      have hLl := ((whole_ok2 (leaves_ok ws n root from_ to) HQ.out) L rfl).1
      have hl1 := awayL_len asid L
      have hl2 := rightsL_len ws asid wr ex L
      obtain ⟨aa, acap, rfl, hoa⟩ := hq4
      have HOA := Lib.hid hoa
      clear hoa
      go_wp2_with fail
      refine (HG.out _ (by repeat (first | exact HM4.out | apply MemAt.more | apply MemAt.alloc | apply MemAt.drew | apply MemAt.drewN))).mono ?_
      rintro e w5 ⟨hE5, hq5⟩
      obtain ⟨ba, bcap, rfl, hob⟩ := hq5
      have HOB := Lib.hid hob
      have HOA5 := Lib.hid (own_ext HOA.out hE5)
      have HRF5 := Lib.hid (HRF4.out.kept0 hE5.grow)
      have HOT5 := Lib.hid (own_ext HOT4.out hE5)
      have HE5 := Lib.hid (HE4.out.trans hE5)
      clear hE5 hob HOA HRF4 HOT4 HE4 HM4 HG
      generalize w4.heap.size = B4 at *
      obtain ⟨N, hN⟩ : ∃ N, t.length = N := ⟨_, rfl⟩
      have HNl := Lib.hid hN
      have hot := HOT5.out
      rw [hN] at hot tl0 tl1
      rw [hN]
      obtain ⟨ag, rfl, _, hag, hac, hacm, hcell⟩ := ints_cell hot (by omega) hN.symm
      have hNb : N ≤ 7000 := by omega
      have hacm' : tcap ≤ 9223372036854775807 := by unfold maxLen at hacm; exact hacm
      have HCl := Lib.hid hcell
      obtain ⟨A, hA⟩ : ∃ A, awayL asid L = A := ⟨_, rfl⟩
      obtain ⟨C, hC⟩ : ∃ C, rightsL ws asid wr ex L = C := ⟨_, rfl⟩
      rw [hA] at HOA5 hl1
      rw [hC] at HOB hl2
      rw [hA, hC]
      have HA := Lib.hid hA
      have HCC := Lib.hid hC
      clear hcell hot hN hacm HOT5 hA hC
      obtain ⟨g1, g2, g3⟩ := lt_facts hag
      go_wp2_with fail
      go_loopw [26, 27] (fun i _ wr => ∃ q : Nat, q ≤ N ∧ i = .int .i64 q ∧ Ext w5 wr ∧ Hid (Unlike t q)) (fun i _ _ => N - (intOf i).toNat)
      case atStart => exact ⟨0, Nat.zero_le _, rfl, Ext.refl _, unlike_zero _⟩
      case round =>
        obtain ⟨q, hq, rfl, hEr, HU⟩ := hrel
        obtain ⟨wo, rfl⟩ : ∃ wo : World, wo = wr := ⟨_, rfl⟩
        have HEr := Lib.hid hEr
        clear hEr
        by_cases hlt : q < N
        · go_wp2_with fail
          go_loopw [27] (fun i wi => ∃ p : Nat, p ≤ q ∧ i = .int .i64 p ∧ Ext w5 wi ∧ Hid (UnlikeAt t q p)) (fun i _ => q - (intOf i).toNat)
          case atStart => exact ⟨0, Nat.zero_le _, rfl, HEr.out, unlikeAt_zero _ _⟩
          case round =>
            obtain ⟨p, hp, rfl, ⟨xi, rfl⟩, HUA⟩ := hrel
            by_cases hpl : p < q
            · have y0 := HCl.out p (by omega)
              have y1 := HCl.out q hlt
              by_cases heq : t.getD p 0 = t.getD q 0
              · have heb : (t.getD q 0 == t.getD p 0) = true := by simpa using heq.symm
                clear heq
                generalize t.getD p 0 = X at *
                generalize t.getD q 0 = Y at *
                go_wp2_with fail
                go_region
                all_goals
                  go_wp2_with fail
                  go_ret
                  exact ⟨(by repeat (first | exact HE5.out | apply Ext.more | apply Ext.alloc | apply Ext.drew | apply Ext.drewN)), rfl⟩
              · have heb : (t.getD q 0 == t.getD p 0) = false := by simpa using fun h => heq h.symm
                have HN := Lib.hid (show Hid (UnlikeAt t q (p + 1)) from unlikeAt_succ HUA.out heq)
                clear heq
                generalize t.getD p 0 = X at *
                generalize t.getD q 0 = Y at *
                go_wp2_with fail
                go_region
                all_goals
                  go_wp2_with fail
                  go_roundw
                  case rel => exact ⟨p + 1, by omega, by go_num, (by repeat (first | exact Ext.refl _ | apply Ext.more | apply Ext.alloc | apply Ext.drew | apply Ext.drewN)), HN.out⟩
                  case measure => simp [intOf]; omega
            · obtain rfl : p = q := by omega
              have HN := Lib.hid (show Hid (Unlike t (p + 1)) from unlike_succ HU.out HUA.out)
              go_wp2_with fail
              go_roundw
              case rel => exact ⟨p + 1, by omega, by go_num, (by repeat (first | exact Ext.refl _ | apply Ext.more | apply Ext.alloc | apply Ext.drew | apply Ext.drewN)), HN.out⟩
              case measure => simp [intOf]; omega
        · obtain rfl : q = N := by omega
          obtain ⟨xr, rfl⟩ := HEr.out
          have hu := HU.out
          rw [← HNl.out] at hu
          have hnd := unlike_nodup hu
          have hP := plan_at HQ.out HAT.out hnd (by omega) HRF5.out.len
          obtain ⟨k1, k2, k3, k4, k5⟩ := away_behind hP.lv
          obtain ⟨j1, j2, j3, j4, j5⟩ := rights_behind (hP.lv.filter (chF wr ex)) wr ex
          have hC1 := clear_finds hP k3 k4
          have hC2 := rights_finds hP wr ex j3 j4
          have hCe : awayL asid (L.filter (chF wr ex)) ++ setL ws asid wr ex (L.filter (chF wr ex)) = C := HCC.out
          rw [HA.out] at k1 k2 k5 hC1
          rw [hCe] at j1 j2 j5 hC2
          have HWU := Lib.hid (WOk_doW (n := n) _ _ HW.out k1)
          have HWV := Lib.hid (WOk_doW (n := n) _ _ HW.out j1)
          have HC1 := Lib.hid hC1
          have HC2 := Lib.hid hC2
          have HS1 := Lib.hid k2
          have HK5 := Lib.hid (fun s hs => (k5 s hs).elim (fun h => Or.inl h.kd) Or.inr : ∀ s ∈ A, s.fKind = 1 ∨ s.fKind = 2)
          have HJ5 := Lib.hid (fun s hs => (j5 s hs).elim (fun h => Or.inl h.kd) Or.inr : ∀ s ∈ C, s.fKind = 1 ∨ s.fKind = 2)
          have HS2 := Lib.hid j2
          have HOA6 := Lib.hid (own_ext HOA5.out ⟨xr, rfl⟩)
          have HOB6 := Lib.hid (own_ext HOB.out ⟨xr, rfl⟩)
          have HRF6 := Lib.hid (show RefAt (more w5 xr) h hc n gb gc ws from (by repeat (first | exact HRF5.out | apply RefAt.more | apply RefAt.alloc | apply RefAt.drew | apply RefAt.drewN)))
          have HE6 := Lib.hid (HE5.out.more xr)
          clear hu hnd hP k1 k2 k3 k4 k5 j1 j2 j3 j4 j5 hC1 hC2 hCe HEr HU HCl HRF5 HE5 HOA5 HOB hlt hq HNl hag g1 g2 g3 HQ HAT HA HCC
          generalize more w5 xr = W6 at *
          go_wp2_with fail
          refine (law13_watched _ HRF6.out HW.out (by omega) (by omega) HOA6.out (by omega) HS1.out).mono ?_
          rintro e w7 ⟨hE7, rfl⟩
          have HRF7 := Lib.hid (HRF6.out.kept0 hE7.grow)
          have HOA7 := Lib.hid (own_ext HOA6.out hE7)
          have HOB7 := Lib.hid (own_ext HOB6.out hE7)
          have HE7 := Lib.hid (HE6.out.trans hE7)
          clear hE7 HRF6 HOA6 HOB6 HE6 HS1
          go_wp2_with fail
          refine (law13_watched _ HRF7.out HW.out (by omega) (by omega) HOB7.out (by omega) HS2.out).mono ?_
          rintro e w8 ⟨hE8, rfl⟩
          have HRF8 := Lib.hid (HRF7.out.kept0 hE8.grow)
          have HOA8 := Lib.hid (own_ext HOA7.out hE8)
          have HOB8 := Lib.hid (own_ext HOB7.out hE8)
          have HE8 := Lib.hid (HE7.out.trans hE8)
          clear hE8 HRF7 HOA7 HOB7 HE7 HS2
          go_wp2_with fail
          refine (ref12_Copy _ HRF8.out (by omega) (by omega)).mono ?_
          rintro e w9 ⟨hE9, h9, hc9, gb9, gc9, rfl, hr9, hh9, hgb9⟩
          have HR9 := Lib.hid hr9
          have HH9 := Lib.hid hh9
          have HGB9 := Lib.hid hgb9
          have HX9 := Lib.hid hE9
          have HRF9 := Lib.hid (HRF8.out.kept0 hE9.grow)
          clear hr9 hh9 hgb9 hE9
          go_wp2_with fail
          refine (ref12_Copy _ HRF9.out (by omega) (by omega)).mono ?_
          rintro e w10 ⟨hE10, h10, hc10, gb10, gc10, rfl, hr10, hh10, hgb10⟩
          have HR10 := Lib.hid hr10
          have HH10 := Lib.hid hh10
          have HGB10 := Lib.hid hgb10
          have HR9' := Lib.hid (HR9.out.kept0 hE10.grow)
          have HX10 := Lib.hid (HX9.out.trans hE10)
          have HS98 := Lib.hid (HX9.out.size)
          have HLt := Lib.hid (show ∀ i, i < n → gb9 i < w9.heap.size from HR9.out.ltg)
          have HLh := Lib.hid HR9.out.lth
          clear hr10 hh10 hgb10 hE10 HRF9 HX9 HR9
          go_wp2_with fail
          refine (ref12_DoB w8 _ HX10.out HR9'.out HGB9.out (own_ext HOA8.out HX10.out) (by omega) HK5.out).mono ?_
          rintro e w11 ⟨rfl, hX11, hK11, hB11, hr11⟩
          have HR11 := Lib.hid hr11
          have HY11 := Lib.hid (HR10.out.keepB hB11 (fun i hi => by have := HLt.out i hi; have := HH10.out; omega) (fun j hj i hi => by have := HLt.out i hi; have := HGB10.out j hj; omega))
          have HX11 := Lib.hid hX11
          clear hr11 hX11 hK11 hB11 HR10 HX10 HR9'
          go_wp2_with fail
          refine (ref12_DoB w8 _ HX11.out HY11.out (fun i hi => Nat.le_trans HS98.out (HGB10.out i hi)) (own_ext HOB8.out HX11.out) (by omega) HJ5.out).mono ?_
          rintro e w12 ⟨rfl, hX12, hK12, hB12, hr12⟩
          have HR12 := Lib.hid hr12
          have HX12 := Lib.hid (HR11.out.keepB hB12 (fun i hi => by have := HLh.out; have := HGB10.out i hi; omega) (fun j hj i hi => by have := HLt.out j hj; have := HGB10.out i hi; omega))
          have HRF12 := Lib.hid (HRF8.out.kept0 hX12.grow)
          have HE12 := Lib.hid (HE8.out.trans hX12)
          clear hr12 hX12 hK12 hB12 HR11 HX11 HY11 HRF8 HE8 HOA8 HOB8 HS98 HLt HLh HH9 HH10 HGB9 HGB10 HK5 HJ5
          generalize doW n ws A = us at *
          generalize doW n ws C = vs at *
          go_wp2_with fail
          go_loopw [30, 31, 32, 33, 34, 35, 36, 37, 38] (fun i _ _ _ _ _ _ _ _ wr => ∃ k : Nat, k ≤ 4096 ∧ i = .int .i64 k ∧ Ext w12 wr) (fun i _ _ _ _ _ _ _ _ _ => 4096 - (intOf i).toNat)
          case atStart => exact ⟨0, Nat.zero_le _, rfl, Ext.refl _⟩
          case round =>
            obtain ⟨k, hk, rfl, ⟨x, rfl⟩⟩ := hrel
            by_cases hlt : k < 4096
            · obtain ⟨fx, fy, hx, hy, hin1, hout1⟩ := HC1.out k (by omega) (by omega)
              obtain ⟨fx', fz, hx', hz, hin2, hout2⟩ := HC2.out k (by omega) (by omega)
              rw [hx] at hx'
              obtain rfl := Option.some.inj hx'
              have HX := Lib.hid (fun w hr => ref04_Walk (w := w) (h := h) (hc := hc) (gb := gb) (gc := gc) hr HW.out root k (by omega) (by omega) _ hx)
              have HY := fun w hr => ref04_Walk (w := w) (h := h9) (hc := hc9) (gb := gb9) (gc := gc9) hr HWU.out root k (by omega) (by omega) _ hy
              have HZ := fun w hr => ref04_Walk (w := w) (h := h10) (hc := hc10) (gb := gb10) (gc := gc10) hr HWV.out root k (by omega) (by omega) _ hz
              clear hx hy hz hx'
              obtain ⟨F0, F1, F2, F3, F4, F5, F6, F7, F8, F9, F10⟩ := fx
              by_cases hh : hitP from_ to k ⟨F0, F1, F2, F3, F4, F5, F6, F7, F8, F9, F10⟩
              · have hy0 := hin1 hh
                obtain rfl := hin2 hh
                obtain ⟨Y0, Y1, Y2, Y3, Y4, Y5, Y6, Y7, Y8, Y9, Y10⟩ := fy
                dsimp only at hy0
                subst hy0
                unfold wxF at HZ
                dsimp only at HZ
                have HY := Lib.hid HY
                have HZ := Lib.hid HZ
                obtain ⟨h1, h2, h3⟩ := hh
                dsimp only at h3
                clear hin1 hin2 hout1 hout2
                rcases h3 with rfl | rfl
                all_goals
                  go_wp2_with fail
                  refine (HX.out _ (by repeat (first | exact HRF12.out | apply RefAt.more | apply RefAt.alloc | apply RefAt.drew | apply RefAt.drewN))).mono ?_
                  rintro e W1 ⟨hE1, rfl⟩
                  have HE1 := Lib.hid (Ext.trans (show Ext w12 (more w12 x) from ⟨x, rfl⟩) hE1)
                  have HY1 := Lib.hid (RefAt.kept0 (RefAt.more HX12.out x) hE1.grow)
                  have HZ1 := Lib.hid (RefAt.kept0 (RefAt.more HR12.out x) hE1.grow)
                  clear hE1
                  rw [refV_s]
                  go_wp2_with fail
                  refine (HY.out _ (by repeat (first | exact HY1.out | apply RefAt.more | apply RefAt.alloc | apply RefAt.drew | apply RefAt.drewN))).mono ?_
                  rintro e W2 ⟨hE2, rfl⟩
                  have HB2 := Lib.hid (box_ext (heap_alloc_new W1 _) hE2)
                  have HE2 := Lib.hid ((HE1.out.alloc _).trans hE2)
                  have HZ2 := Lib.hid (RefAt.kept0 (RefAt.alloc HZ1.out _) hE2.grow)
                  have hg1 := HE1.out.size
                  clear hE2 HE1 HY1 HZ1
                  rw [refV_s]
                  go_wp2_with fail
                  refine (HZ.out _ (by repeat (first | exact HZ2.out | apply RefAt.more | apply RefAt.alloc | apply RefAt.drew | apply RefAt.drewN))).mono ?_
                  rintro e W3 ⟨hE3, rfl⟩
                  have HB3 := Lib.hid (box_ext (box_alloc HB2.out _) hE3)
                  have HC3 := Lib.hid (box_ext (heap_alloc_new W2 _) hE3)
                  have HE3 := Lib.hid ((HE2.out.alloc _).trans hE3)
                  have hlt12 : W1.heap.size < W2.heap.size := (Array.getElem?_eq_some_iff.1 HB2.out).1
                  clear hE3 HE2 HZ2 HB2
                  generalize W1.heap.size = b1 at *
                  generalize W2.heap.size = b2 at *
                  rw [refV_s]
                  obtain ⟨c0, c1, c2, c3, c4, c5, c6, c7, c8, c9, c10, cl⟩ := cellsF HB3.out
                  obtain ⟨d0, d1, d2, d3, d4, d5, d6, d7, d8, d9, d10, dl⟩ := cellsF HC3.out
                  have cf : ∀ i, W3.frozen? ⟨b1, i, none⟩ = false := fun i => frozen_of_row _ _ _ _ _ HB3.out
                  obtain ⟨l1, l2, l3⟩ := lt_facts cl
                  obtain ⟨l4, l5, l6⟩ := lt_facts dl
                  have n1 : (b1 = W3.heap.size) = False := by simp; omega
                  have n2 : (W3.heap.size = b1) = False := by simp; omega
                  have n3 : (b1 = b2) = False := by simp; omega
                  have n4 : (b2 = b1) = False := by simp; omega
                  clear HB3 HC3
                  go_wp2_with fail
                  go_roundw
                  case rel => exact ⟨k + 1, by omega, by go_num, (by repeat (first | (with_reducible exact HE3.out) | (with_reducible refine ext_set ?_ hg1 _ _) | (with_reducible apply Ext.more) | (with_reducible apply Ext.alloc) | (with_reducible apply Ext.drew) | (with_reducible apply Ext.drewN)))⟩
                  case measure => simp [intOf]; omega
              · obtain rfl := hout1 hh
                obtain rfl := hout2 hh
                have HY := Lib.hid HY
                have HZ := Lib.hid HZ
                have hcs : ((F0 = 2 ∨ F0 = 3) ∧ ((k : Int) < from_ ∨ (from_ ≤ k ∧ to ≤ k))) ∨ (((F0 == 2) = false ∧ (F0 == 3) = false) ∧ ((k : Int) < from_ ∨ (from_ ≤ k ∧ to ≤ k) ∨ (from_ ≤ k ∧ (k : Int) < to))) := by
                  unfold hitP at hh
                  dsimp only at hh
                  by_cases h2 : F0 = 2
                  · left; omega
                  · by_cases h3 : F0 = 3
                    · left; omega
                    · right
                      exact ⟨⟨by simpa using h2, by simpa using h3⟩, by omega⟩
                clear hin1 hin2 hout1 hout2 hh
                rcases hcs with ⟨rfl | rfl, hr | ⟨hr, hr2⟩⟩ | ⟨⟨hz2, hz3⟩, hr | ⟨hr, hr2⟩ | ⟨hr, hr2⟩⟩
                all_goals
                  go_wp2_with fail
                  refine (HX.out _ (by repeat (first | exact HRF12.out | apply RefAt.more | apply RefAt.alloc | apply RefAt.drew | apply RefAt.drewN))).mono ?_
                  rintro e w' ⟨⟨ex1, rfl⟩, rfl⟩
                  rw [refV_s]
                  go_wp2_with fail
                  refine (HY.out _ (by repeat (first | exact HX12.out | apply RefAt.more | apply RefAt.alloc | apply RefAt.drew | apply RefAt.drewN))).mono ?_
                  rintro e w' ⟨⟨ex2, rfl⟩, rfl⟩
                  rw [refV_s]
                  go_wp2_with fail
                  refine (HZ.out _ (by repeat (first | exact HR12.out | apply RefAt.more | apply RefAt.alloc | apply RefAt.drew | apply RefAt.drewN))).mono ?_
                  rintro e w' ⟨⟨ex3, rfl⟩, rfl⟩
                  rw [refV_s]
                  go_wp2_with fail
                  go_roundw
                  case rel => exact ⟨k + 1, by omega, by go_num, (by repeat (first | exact Ext.refl _ | apply Ext.more | apply Ext.alloc | apply Ext.drew | apply Ext.drewN))⟩
                  case measure => simp [intOf]; omega
            · obtain rfl : k = 4096 := by omega
              go_wp2_with fail
              go_ret
              exact ⟨(by repeat (first | exact HE12.out | apply Ext.more | apply Ext.alloc | apply Ext.drew | apply Ext.drewN)), rfl⟩

end Go.Proofs.Ytapeoeakiphfpaa
