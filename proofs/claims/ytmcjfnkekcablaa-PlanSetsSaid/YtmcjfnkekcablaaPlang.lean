/- The contract of paviorref13.Set; the law paviorlaw13.PlanSets. -/
import Derived.Test.YtmcjfnkekcablaaPlanf
import Derived.Test.YtmcjfnkekcablaaSplit
namespace Go.Proofs.Ytmcjfnkekcablaa
open Go.RowKit
set_option linter.unusedVariables false
set_option linter.unusedSimpArgs false
attribute [local go_sem] setCell_drewN alloc_drewN lt_moreE le_moreE lt_moreK le_moreK cell_more frozen_more set_more drew_more drewN_more

set_option maxRecDepth 100000 in
set_option maxHeartbeats 8000000 in
theorem ref13_Set (w : World) {h hc n : Nat} {gb gc : Nat → Nat} {ws : List Int} (hr0 : RefAt w h hc n gb gc ws) (hw : WOk ws) (root asid page : Int) (d : Desc) (L : Nat) (hok : SetOk asid page d L) (r0 : 0 ≤ root) (r1 : root < n) (p0 : 0 ≤ page) (p1 : page < 4096) (r : Option (List (Int × Int) × Desc)) (hr : wayAt ws n page (L + 1) 0 root = r) :
    Calls Try.prog 48 #[.slice (some ⟨h, 0, none⟩) n hc, .int .i64 root, .int .i64 asid, .int .i64 page, d.v] w fun e w' => Ext w w' ∧ RStepsRet w.heap.size w' (setWay ws asid page d L r) e := by
  have HRF := Lib.hid hr0
  obtain ⟨hkl, hod, ha0, ha1⟩ := hok
  have hL : 1 ≤ L ∧ L < 4 := by omega
  have HE := Lib.hid (fun w => ref02_Word w L _ hod)
  have HN := Lib.hid (fun w hr0 => ref12_Need w (h := h) (hc := hc) (n := n) (gb := gb) (gc := gc) hr0 hw root page L r0 r1 p0 p1 hL.2 r hr)
  have HWy := Lib.hid (fun w hr0 => ref12_Way w (h := h) (hc := hc) (n := n) (gb := gb) (gc := gc) hr0 hw root page L r0 r1 p0 p1 hL.2)
  rw [hr] at HWy
  have HPc := Lib.hid (fun w => ref04_Place w L page (by omega) (by omega) p0 p1)
  obtain ⟨K, d1, d2, d3, d4, d5, d6⟩ := d
  dsimp only at hkl
  show Calls _ _ #[_, _, _, _, .agg #[.int .i64 K, .int .i64 d1, .bool d2, .bool d3, .bool d4, .bool d5, .int .i64 d6]] _ _
  obtain ⟨EW, hEW⟩ : ∃ EW, encW ⟨K, d1, d2, d3, d4, d5, d6⟩ = EW := ⟨_, rfl⟩
  have HSW := Lib.hid (fun (s : List (Int × Int)) (dd : Desc) => (show setWay ws asid page ⟨K, d1, d2, d3, d4, d5, d6⟩ L (some (s, dd)) = if s.length ≠ L + 1 then .no 7 else if ws.getD ((lastS s).1.toNat * 8 + (lastS s).2.toNat) 0 ≠ 0 then .no 7 else .yes [wr0 asid L (lastS s).1 (lastS s).2 page EW] from by unfold setWay; rw [hEW]))
  rw [hEW] at HE
  clear hEW hod
  cases r with
  | none =>
    clear hr HWy hw hr0
    rcases hkl with ⟨rfl, rfl, hp⟩ | ⟨rfl, rfl⟩
    all_goals
      go_enter Try.func48, Try.ntmps48
      go_wp2_with fail
      refine (HN.out _ (by repeat (first | exact HRF.out | apply RefAt.more | apply RefAt.alloc | apply RefAt.drew | apply RefAt.drewN))).mono ?_
      rintro e w' ⟨⟨ex1, rfl⟩, rfl⟩
      rw [show ∀ L, (needP L none).1 = 0 from fun _ => rfl, show ∀ L, (needP L none).2 = 2 from fun _ => rfl]
      go_wp2_with fail
      go_ret2
      exact ⟨(by repeat (first | exact Ext.refl _ | apply Ext.more | apply Ext.alloc | apply Ext.drew | apply Ext.drewN)), rfl⟩
  | some r =>
    obtain ⟨s, dd⟩ := r
    obtain ⟨s0, s1⟩ := wayAt_len (ws := ws) (n := n) (page := page) (L + 1) 0 root s dd hr
    by_cases hs : s.length = L + 1
    · have HNP := Lib.hid (show needP L (some (s, dd)) = (0, 0) from by simp only [needP]; rw [if_neg (by omega)]; congr 1; omega)
      have HV := Lib.hid ((HSW.out s dd).trans (if_neg (by omega)))
      obtain ⟨t0, t1, t2, t3⟩ := way_in (L + 1) 0 root s dd r0 r1 hr _ (lastS_mem s0)
      have hz : s[s.length - 1]? = some (lastS s) := by unfold lastS; rw [List.getD_eq_getElem?_getD, List.getElem?_eq_getElem (by omega)]; rfl
      have hpl := way_place (L + 1) 0 root s dd hr _ _ hz
      rw [show (0 : Int) + ((s.length - 1 : Nat) : Int) = (L : Int) by omega] at hpl
      rw [← hpl] at HPc
      generalize lastS s = tt at *
      obtain ⟨ta, tb⟩ := tt
      dsimp only at t0 t1 t2 t3 HV hpl HPc
      obtain ⟨T, rfl⟩ := Int.eq_ofNat_of_zero_le t0
      obtain ⟨Pl, rfl⟩ := Int.eq_ofNat_of_zero_le t2
      have u1 : T < n := by omega
      have u2 : Pl < 8 := by omega
      obtain ⟨hh1, hh2, hh3⟩ := lt_facts HRF.out.lth
      obtain ⟨gg1, gg2, gg3⟩ := lt_facts (HRF.out.ltg T u1)
      have hlth := HRF.out.lth
      have hltg := HRF.out.ltg T u1
      have y0 := HRF.out.hcell T u1
      have y1 := HRF.out.cell T Pl u1 u2
      have hcc := HRF.out.cc T u1
      have hnc := HRF.out.nc
      have HZ := Lib.hid hz
      have HSl := Lib.hid hs
      rw [Int.toNat_natCast, Int.toNat_natCast] at HV
      generalize ws.getD (T * 8 + Pl) 0 = X at *
      rw [HNP.out] at HN
      clear hr HSW hs hw hr0 hpl hz HNP
      obtain ⟨e0, e1, e2, e3, e4, e5, e6⟩ := dd
      by_cases hX : X = 0
      · subst hX
        have HVy := Lib.hid (HV.out.trans (if_neg (by simp)))
        clear HV
        rcases hkl with ⟨rfl, rfl, hp⟩ | ⟨rfl, rfl⟩
        all_goals
          go_enter Try.func48, Try.ntmps48
          go_wp2_with fail
          refine (HN.out _ (by repeat (first | exact HRF.out | apply RefAt.more | apply RefAt.alloc | apply RefAt.drew | apply RefAt.drewN))).mono ?_
          rintro e w' ⟨⟨ex1, rfl⟩, rfl⟩
          go_wp2_with fail
          refine (HWy.out _ (by repeat (first | exact HRF.out | apply RefAt.more | apply RefAt.alloc | apply RefAt.drew | apply RefAt.drewN))).mono ?_
          rintro e w' ⟨⟨ex2, rfl⟩, wa, wcap, rfl, hO⟩
          have hoc := own_cap hO
          have hm' : wcap ≤ 9223372036854775807 := by have := hoc.2.2; unfold maxLen at this; exact this
          obtain ⟨wg, rfl, _, hwg, _, hwx, _⟩ := own_at hO (by omega)
          have z0 := hwx _ _ (flat_one (fun s : Int × Int => Value.int .i64 s.1) s _ _ HZ.out)
          dsimp only at z0
          clear hO hoc hwx
          go_wp2_with fail
          refine (HPc.out _).mono ?_
          rintro e w' ⟨rfl, hww⟩
          subst w'
          go_wp2_with fail
          refine (HE.out _).mono ?_
          rintro e w' ⟨⟨ex3, rfl⟩, rfl⟩
          go_wp2_with fail
          go_ret2
          refine ⟨(by repeat (first | exact Ext.refl _ | apply Ext.more | apply Ext.alloc | apply Ext.drew | apply Ext.drewN)), ?_⟩
          rw [HVy.out]
          exact rstepsRet_yes (B' := 0 + w.heap.size) rfl (own_lit' (by simp) (by simp [size_more]; try omega) rfl (by decide) rfl rfl) (by omega) rfl rfl
      · have HVn := Lib.hid (HV.out.trans (if_pos hX))
        have hX' : (X != 0) = true := by simpa using hX
        clear HV hX
        rcases hkl with ⟨rfl, rfl, hp⟩ | ⟨rfl, rfl⟩
        all_goals
          go_enter Try.func48, Try.ntmps48
          go_wp2_with fail
          refine (HN.out _ (by repeat (first | exact HRF.out | apply RefAt.more | apply RefAt.alloc | apply RefAt.drew | apply RefAt.drewN))).mono ?_
          rintro e w' ⟨⟨ex1, rfl⟩, rfl⟩
          go_wp2_with fail
          refine (HWy.out _ (by repeat (first | exact HRF.out | apply RefAt.more | apply RefAt.alloc | apply RefAt.drew | apply RefAt.drewN))).mono ?_
          rintro e w' ⟨⟨ex2, rfl⟩, wa, wcap, rfl, hO⟩
          have hoc := own_cap hO
          have hm' : wcap ≤ 9223372036854775807 := by have := hoc.2.2; unfold maxLen at this; exact this
          obtain ⟨wg, rfl, _, hwg, _, hwx, _⟩ := own_at hO (by omega)
          have z0 := hwx _ _ (flat_one (fun s : Int × Int => Value.int .i64 s.1) s _ _ HZ.out)
          dsimp only at z0
          clear hO hoc hwx
          go_wp2_with fail
          refine (HPc.out _).mono ?_
          rintro e w' ⟨rfl, hww⟩
          subst w'
          go_wp2_with fail
          go_ret2
          exact ⟨(by repeat (first | exact Ext.refl _ | apply Ext.more | apply Ext.alloc | apply Ext.drew | apply Ext.drewN)), by rw [HVn.out]; rfl⟩
    · have HNP : Hid (∃ q : Int, needP L (some (s, dd)) = (0, 7) ∨ (0 < q ∧ needP L (some (s, dd)) = (q, 0))) := by
        by_cases h7 : (0 : Int) < L + 1 - s.length ∧ dd.fKind ≠ 0
        · exact ⟨0, .inl (by simp only [needP]; rw [if_pos h7])⟩
        · exact ⟨L + 1 - s.length, .inr ⟨by omega, by simp only [needP]; rw [if_neg h7]⟩⟩
      have HV := Lib.hid ((HSW.out s dd).trans (if_pos hs))
      clear hr HWy HSW hs hw hr0 s0 s1
      obtain ⟨q, hn | ⟨hq, hn⟩⟩ := HNP.out
      all_goals
        rw [hn] at HN
        clear hn HNP
        rcases hkl with ⟨rfl, rfl, hp⟩ | ⟨rfl, rfl⟩
        all_goals
          go_enter Try.func48, Try.ntmps48
          go_wp2_with fail
          refine (HN.out _ (by repeat (first | exact HRF.out | apply RefAt.more | apply RefAt.alloc | apply RefAt.drew | apply RefAt.drewN))).mono ?_
          rintro e w' ⟨⟨ex1, rfl⟩, rfl⟩
          go_wp2_with fail
          go_ret2
          exact ⟨(by repeat (first | exact Ext.refl _ | apply Ext.more | apply Ext.alloc | apply Ext.drew | apply Ext.drewN)), by rw [HV.out]; rfl⟩

theorem notSet {asid page : Int} {d : Desc} (h : ∀ L, ¬ SetOk asid page d L) : (d.fKind = 2 ∧ (okD 2 d = false ∨ okD 2 d = true ∧ (page.tmod 8 ≠ 0 ∨ page.tmod 8 = 0 ∧ (asid < 0 ∨ 0 ≤ asid ∧ 255 < asid)))) ∨ (d.fKind = 3 ∧ (okD 3 d = false ∨ okD 3 d = true ∧ (asid < 0 ∨ 0 ≤ asid ∧ 255 < asid))) ∨ (d.fKind ≠ 2 ∧ d.fKind ≠ 3 ∧ (okD 3 d = false ∨ okD 3 d = true)) := by
  have h2 := h 2
  have h3 := h 3
  unfold SetOk at h2 h3
  by_cases k2 : d.fKind = 2
  · refine .inl ⟨k2, ?_⟩
    cases ho : okD 2 d with
    | false => exact .inl rfl
    | true =>
      refine .inr ⟨rfl, ?_⟩
      by_cases hp : page.tmod 8 = 0
      · refine .inr ⟨hp, ?_⟩
        have : ¬ (0 ≤ asid ∧ asid ≤ 255) := fun hh => h2 ⟨.inl ⟨k2, rfl, hp⟩, ho, hh.1, hh.2⟩
        omega
      · exact .inl hp
  · by_cases k3 : d.fKind = 3
    · refine .inr (.inl ⟨k3, ?_⟩)
      cases ho : okD 3 d with
      | false => exact .inl rfl
      | true =>
        refine .inr ⟨rfl, ?_⟩
        have : ¬ (0 ≤ asid ∧ asid ≤ 255) := fun hh => h3 ⟨.inr ⟨k3, rfl⟩, ho, hh.1, hh.2⟩
        omega
    · refine .inr (.inr ⟨k2, k3, ?_⟩)
      cases okD 3 d <;> simp

set_option maxHeartbeats 2000000 in
theorem plan_Set_no (w : World) {b g n c : Nat} {ws : List Int} (hm : MemAt w b g n c ws) (root asid page : Int) (d : Desc) (L : Nat) (hok : SetOk asid page d L) (hth : ¬ (0 ≤ root ∧ root < n ∧ 0 ≤ page ∧ page < 4096)) :
    Calls Try.prog 46 #[.pointer (some ⟨b, 0, none⟩), .int .i64 root, .int .i64 asid, .int .i64 page, d.v] w fun e w' => Ext w w' ∧ e = .returned (.tuple #[.slice none 0 0, errW 1]) := by
  have HM := Lib.hid hm
  obtain ⟨hkl, hod, ha0, ha1⟩ := hok
  have HE := Lib.hid (fun w => extC (pte_Encode_yes w L _ hod))
  have HN := Lib.hid (fun w hm => tree_Need_no w (b := b) (g := g) (n := n) (c := c) (ws := ws) hm root page L (by omega))
  obtain ⟨K, d1, d2, d3, d4, d5, d6⟩ := d
  dsimp only at hkl
  show Calls _ _ #[_, _, _, _, .agg #[.int .i64 K, .int .i64 d1, .bool d2, .bool d3, .bool d4, .bool d5, .int .i64 d6]] _ _
  generalize encW _ = EW at HE
  clear hod hm hth
  rcases hkl with ⟨rfl, rfl, hp⟩ | ⟨rfl, rfl⟩
  · have hp' : (page.tmod 8 != 0) = false := by simpa using hp
    clear hp
    go_enter Try.func46, Try.ntmps46
    go_wp2_with fail
    refine (HE.out _).mono ?_
    rintro e w' ⟨⟨ex0, rfl⟩, rfl⟩
    go_wp2_with fail
    refine (HN.out _ (by repeat (first | exact HM.out | apply MemAt.more | apply MemAt.alloc | apply MemAt.drew | apply MemAt.drewN))).mono ?_
    rintro e w' ⟨⟨ex1, rfl⟩, rfl⟩
    go_wp2_with fail
    go_ret2
    exact ⟨(by repeat (first | exact Ext.refl _ | apply Ext.more | apply Ext.alloc | apply Ext.drew | apply Ext.drewN)), rfl⟩
  · go_enter Try.func46, Try.ntmps46
    go_wp2_with fail
    refine (HE.out _).mono ?_
    rintro e w' ⟨⟨ex0, rfl⟩, rfl⟩
    go_wp2_with fail
    refine (HN.out _ (by repeat (first | exact HM.out | apply MemAt.more | apply MemAt.alloc | apply MemAt.drew | apply MemAt.drewN))).mono ?_
    rintro e w' ⟨⟨ex1, rfl⟩, rfl⟩
    go_wp2_with fail
    go_ret2
    exact ⟨(by repeat (first | exact Ext.refl _ | apply Ext.more | apply Ext.alloc | apply Ext.drew | apply Ext.drewN)), rfl⟩
theorem plan_SetR (w : World) {b g n c : Nat} {ws : List Int} (hm : MemAt w b g n c ws) (hw : WOk ws) (root asid page : Int) (d : Desc) (L : Nat) (hok : SetOk asid page d L) (r0 : 0 ≤ root) (r1 : root < n) (p0 : 0 ≤ page) (p1 : page < 4096) (R : StepsR) (hR : setWay ws asid page d L (wayAt ws n page (L + 1) 0 root) = R) :
    Calls Try.prog 46 #[.pointer (some ⟨b, 0, none⟩), .int .i64 root, .int .i64 asid, .int .i64 page, d.v] w fun e w' => Ext w w' ∧ StepsRet w.heap.size w' R e := hR ▸ plan_Set w hm hw root asid page d L hok r0 r1 p0 p1 _ rfl
theorem ref13_SetR (w : World) {h hc n : Nat} {gb gc : Nat → Nat} {ws : List Int} (hr0 : RefAt w h hc n gb gc ws) (hw : WOk ws) (root asid page : Int) (d : Desc) (L : Nat) (hok : SetOk asid page d L) (r0 : 0 ≤ root) (r1 : root < n) (p0 : 0 ≤ page) (p1 : page < 4096) (R : StepsR) (hR : setWay ws asid page d L (wayAt ws n page (L + 1) 0 root) = R) :
    Calls Try.prog 48 #[.slice (some ⟨h, 0, none⟩) n hc, .int .i64 root, .int .i64 asid, .int .i64 page, d.v] w fun e w' => Ext w w' ∧ RStepsRet w.heap.size w' R e := hR ▸ ref13_Set w hr0 hw root asid page d L hok r0 r1 p0 p1 _ rfl
theorem setWay_no {ws : List Int} {asid page : Int} {d : Desc} {L : Nat} {r : Option (List (Int × Int) × Desc)} {k : Nat} (h : setWay ws asid page d L r = .no k) : k = 2 ∨ k = 7 := by
  unfold setWay at h
  split at h
  · cases h; exact .inl rfl
  · split at h
    · cases h; exact .inr rfl
    · split at h
      · cases h; exact .inr rfl
      · cases h
theorem setWay_len {ws : List Int} {asid page : Int} {d : Desc} {L : Nat} {r : Option (List (Int × Int) × Desc)} {s : List Step} (h : setWay ws asid page d L r = .yes s) : s.length = 1 := by
  unfold setWay at h
  split at h
  · cases h
  · split at h
    · cases h
    · split at h
      · cases h
      · cases h; rfl

set_option maxRecDepth 100000 in
set_option maxHeartbeats 8000000 in
theorem law13_PlanSets (w : World) (fr : Int) (hfr : (Lit.int .i64 fr).wf = true) (l : List Laid) (hl : ∀ d ∈ l, d.wf) (v : Value) (hv : SlRd w v 3 (l.map Laid.cells)) (root : Int) (_ : (Lit.int .i64 root).wf = true) (asid : Int) (_ : (Lit.int .i64 asid).wf = true) (page : Int) (_ : (Lit.int .i64 page).wf = true) (d : Desc) (_ : d.wf) :
    Calls Try.prog 13 #[.int .i64 fr, v, .int .i64 root, .int .i64 asid, .int .i64 page, .agg d.cells.toArray] w fun e w' => e = .returned (.bool true) ∧ w.grownBy w' none := by
  refine growC (R := fun e _ => e = .returned (.bool true)) ?_
  have hw := WOk_layW (layN fr) l hl
  have HL := Lib.hid hl
  have HV := Lib.hid hv
  have HR := Lib.hid hfr
  have heq := fun (w : World) => eql_err w 1 1
  clear hl hv hfr
  obtain ⟨K, d1, d2, d3, d4, d5, d6⟩ := d
  show Calls _ _ #[.int .i64 fr, v, .int .i64 root, .int .i64 asid, .int .i64 page, .agg #[.int .i64 K, .int .i64 d1, .bool d2, .bool d3, .bool d4, .bool d5, .int .i64 d6]] _ _
  go_enter Try.func13, Try.ntmps13
  go_wp2_with fail
  refine (law13_up _).mono ?_
  rintro e w1 ⟨⟨ex1, rfl⟩, rfl⟩
  go_wp2_with fail
  refine (lay_ext _ fr HR.out l HL.out v (by repeat (first | exact HV.out | apply rd_more | apply rd_alloc | apply rd_drew | apply rd_drewN))).mono ?_
  rintro e w2 ⟨b, g, h, hc, gb, gc, rfl, hm2, hr2, hE⟩
  have hE2 : Ext (w.alloc (.cells #[.int .i64 K, .int .i64 d1, .bool d2, .bool d3, .bool d4, .bool d5, .int .i64 d6] 94)) w2 := Ext.trans (by repeat (first | exact Ext.refl _ | apply Ext.more | apply Ext.alloc | apply Ext.drew | apply Ext.drewN)) hE
  obtain ⟨y2, rfl⟩ := hE2
  have HM := Lib.hid hm2
  have HRF := Lib.hid hr2
  clear HL HV HR hE hr2
  generalize layW (layN fr) l = ws at *
  generalize layN fr = n at *
  clear hm2
  by_cases hset : ∃ L, SetOk asid page ⟨K, d1, d2, d3, d4, d5, d6⟩ L
  · obtain ⟨L, hok⟩ := hset
    have HMay := Lib.hid (fun w => (show Calls Try.prog 47 #[.int .i64 L, .agg #[.int .i64 K, .int .i64 d1, .bool d2, .bool d3, .bool d4, .bool d5, .int .i64 d6]] w fun e w' => Ext w w' ∧ e = .returned (.bool true) from by have := ref02_May w L ⟨K, d1, d2, d3, d4, d5, d6⟩; rw [hok.2.1] at this; exact this))
    by_cases hth : 0 ≤ root ∧ root < n ∧ 0 ≤ page ∧ page < 4096
    · obtain ⟨r0, r1, p0, p1⟩ := hth
      obtain ⟨R, hR⟩ : ∃ R, setWay ws asid page ⟨K, d1, d2, d3, d4, d5, d6⟩ L (wayAt ws n page (L + 1) 0 root) = R := ⟨_, rfl⟩
      have HT := Lib.hid (fun w b g c (hm : MemAt w b g n c ws) => plan_SetR w hm hw root asid page ⟨K, d1, d2, d3, d4, d5, d6⟩ L hok r0 r1 p0 p1 R hR)
      have HI := Lib.hid (fun w h hc gb gc (hr : RefAt w h hc n gb gc ws) => ref13_SetR w hr hw root asid page ⟨K, d1, d2, d3, d4, d5, d6⟩ L hok r0 r1 p0 p1 R hR)
      obtain ⟨hkl, _, ha0, ha1⟩ := hok
      have hpt : page.tmod 8 = page % 8 := Int.tmod_eq_emod_of_nonneg p0
      dsimp only at hkl
      rw [hpt] at hkl
      clear hpt
      cases R with
      | no k =>
        have hk := setWay_no hR
        have hk1 : 1 ≤ k := by omega
        have hk2 : k ≤ 8 := by omega
        clear hR hw hk
        rcases hkl with ⟨rfl, rfl, hp⟩ | ⟨rfl, rfl⟩
        all_goals
          go_wp2_with fail
          refine (HT.out _ _ _ _ (by repeat (first | exact HM.out | apply MemAt.more | apply MemAt.alloc | apply MemAt.drew | apply MemAt.drewN))).mono ?_
          rintro e w' ⟨⟨x2, rfl⟩, rfl⟩
          go_wp2_with fail
          refine (HMay.out _).mono ?_
          rintro e w' ⟨⟨x3, rfl⟩, rfl⟩
          go_wp2_with fail
          refine (HI.out _ _ _ _ _ (by repeat (first | exact HRF.out | apply RefAt.more | apply RefAt.alloc | apply RefAt.drew | apply RefAt.drewN))).mono ?_
          rintro e w' ⟨⟨x4, rfl⟩, rfl⟩
          go_wp2_with fail
          refine (law00_Code _ k hk1 hk2).mono ?_
          rintro e w' ⟨rfl, hww⟩
          subst w'
          go_wp2_with fail
          refine (ref12_Same _ (s := []) (World.ownsRow_nil _ 0 _ _) (World.ownsRow_nil _ 0 _ _)).mono ?_
          rintro e w' ⟨⟨x5, rfl⟩, rfl⟩
          go_wp2_with fail
          go_ret
          exact ⟨(by repeat (first | exact Ext.refl _ | apply Ext.more | apply Ext.alloc | apply Ext.drew | apply Ext.drewN)), rfl⟩
      | yes s =>
        have hlen := setWay_len hR
        have hl1 : 1 ≤ s.length := by omega
        have hl2 : s.length ≤ 1 := by omega
        clear hR hw hlen
        rcases hkl with ⟨rfl, rfl, hp⟩ | ⟨rfl, rfl⟩
        all_goals
          go_wp2_with fail
          refine (HT.out _ _ _ _ (by repeat (first | exact HM.out | apply MemAt.more | apply MemAt.alloc | apply MemAt.drew | apply MemAt.drewN))).mono ?_
          rintro e w' ⟨⟨x2, rfl⟩, a1, c1, rfl, hO1⟩
          have HO1 := Lib.hid hO1
          clear hO1
          go_wp2_with fail
          refine (HMay.out _).mono ?_
          rintro e w' ⟨⟨x3, rfl⟩, rfl⟩
          go_wp2_with fail
          refine (HI.out _ _ _ _ _ (by repeat (first | exact HRF.out | apply RefAt.more | apply RefAt.alloc | apply RefAt.drew | apply RefAt.drewN))).mono ?_
          rintro e w' ⟨⟨x4, rfl⟩, a2, c2, rfl, hO2⟩
          have HO2 := Lib.hid hO2
          clear hO2
          go_wp2_with fail
          refine (law00_Code_nil _).mono ?_
          rintro e w' ⟨rfl, hww⟩
          subst w'
          go_wp2_with fail
          refine (ref12_Same _ (by repeat (first | exact HO1.out | apply own_more | apply own_alloc | apply own_drew | apply own_drewN)) (by repeat (first | exact HO2.out | apply own_more | apply own_alloc | apply own_drew | apply own_drewN))).mono ?_
          rintro e w' ⟨⟨x5, rfl⟩, rfl⟩
          go_wp2_with fail
          go_ret
          exact ⟨(by repeat (first | exact Ext.refl _ | apply Ext.more | apply Ext.alloc | apply Ext.drew | apply Ext.drewN)), rfl⟩
    · have HT := Lib.hid (fun w b g c (hm : MemAt w b g n c ws) => plan_Set_no w hm root asid page ⟨K, d1, d2, d3, d4, d5, d6⟩ L hok hth)
      obtain ⟨hkl, _, ha0, ha1⟩ := hok
      have hth' : root < 0 ∨ (0 ≤ root ∧ (n : Int) ≤ root) ∨ (0 ≤ root ∧ root < n ∧ page < 0) ∨ (0 ≤ root ∧ root < n ∧ 0 ≤ page ∧ 4095 < page) := by omega
      dsimp only at hkl
      clear hth hw
      rcases hkl with ⟨rfl, rfl, hp⟩ | ⟨rfl, rfl⟩
      · have hp' : (page.tmod 8 == 0) = true := by simpa using hp
        have hp2 : 0 ≤ page → (page % 8 == 0) = true := fun h0 => by rw [← Int.tmod_eq_emod_of_nonneg h0]; exact hp'
        have HP2 := Lib.hid hp2
        clear hp hp2
        rcases hth' with hh | ⟨g1, g2⟩ | ⟨g1, g2, g3⟩ | ⟨g1, g2, g3, g4⟩
        rotate_left 3
        have hp3 := HP2.out g3
        all_goals
          go_wp2_with fail
          refine (HT.out _ _ _ _ (by repeat (first | exact HM.out | apply MemAt.more | apply MemAt.alloc | apply MemAt.drew | apply MemAt.drewN))).mono ?_
          rintro e w' ⟨⟨x2, rfl⟩, rfl⟩
          go_wp2_with fail
          refine (HMay.out _).mono ?_
          rintro e w' ⟨⟨x3, rfl⟩, rfl⟩
          go_wp2_with fail
          go_ret
          exact ⟨(by repeat (first | exact Ext.refl _ | apply Ext.more | apply Ext.alloc | apply Ext.drew | apply Ext.drewN)), rfl⟩
      · rcases hth' with hh | ⟨g1, g2⟩ | ⟨g1, g2, g3⟩ | ⟨g1, g2, g3, g4⟩
        all_goals
          go_wp2_with fail
          refine (HT.out _ _ _ _ (by repeat (first | exact HM.out | apply MemAt.more | apply MemAt.alloc | apply MemAt.drew | apply MemAt.drewN))).mono ?_
          rintro e w' ⟨⟨x2, rfl⟩, rfl⟩
          go_wp2_with fail
          refine (HMay.out _).mono ?_
          rintro e w' ⟨⟨x3, rfl⟩, rfl⟩
          go_wp2_with fail
          go_ret
          exact ⟨(by repeat (first | exact Ext.refl _ | apply Ext.more | apply Ext.alloc | apply Ext.drew | apply Ext.drewN)), rfl⟩
  · have hset' : ∀ L, ¬ SetOk asid page ⟨K, d1, d2, d3, d4, d5, d6⟩ L := fun L h => hset ⟨L, h⟩
    have HT := Lib.hid (fun w m => plan_Set_arg w m root asid page ⟨K, d1, d2, d3, d4, d5, d6⟩ hset')
    have hcs := notSet hset'
    dsimp only at hcs
    clear hset hset' hw
    rcases hcs with ⟨rfl, ho | ⟨ho, hp | ⟨hp, ha | ⟨ha, ha2⟩⟩⟩⟩ | ⟨rfl, ho | ⟨ho, ha | ⟨ha, ha2⟩⟩⟩ | ⟨k2, k3, ho⟩
    · have HMay := Lib.hid (fun w => (show Calls Try.prog 47 #[.int .i64 2, .agg #[.int .i64 2, .int .i64 d1, .bool d2, .bool d3, .bool d4, .bool d5, .int .i64 d6]] w fun e w' => Ext w w' ∧ e = .returned (.bool false) from by have := ref02_May w 2 ⟨2, d1, d2, d3, d4, d5, d6⟩; rw [ho] at this; exact this))
      clear ho
      go_wp2_with fail
      refine (HT.out _ _).mono ?_
      rintro e w' ⟨⟨x2, rfl⟩, rfl⟩
      go_wp2_with fail
      refine (HMay.out _).mono ?_
      rintro e w' ⟨⟨x3, rfl⟩, rfl⟩
      go_wp2_with fail
      all_goals
        go_ret
        exact ⟨(by repeat (first | exact Ext.refl _ | apply Ext.more | apply Ext.alloc | apply Ext.drew | apply Ext.drewN)), rfl⟩
    · have HMay := Lib.hid (fun w => (show Calls Try.prog 47 #[.int .i64 2, .agg #[.int .i64 2, .int .i64 d1, .bool d2, .bool d3, .bool d4, .bool d5, .int .i64 d6]] w fun e w' => Ext w w' ∧ e = .returned (.bool true) from by have := ref02_May w 2 ⟨2, d1, d2, d3, d4, d5, d6⟩; rw [ho] at this; exact this))
      have hp' : (page.tmod 8 == 0) = false := by simpa using hp
      clear hp
      clear ho
      go_wp2_with fail
      refine (HT.out _ _).mono ?_
      rintro e w' ⟨⟨x2, rfl⟩, rfl⟩
      go_wp2_with fail
      refine (HMay.out _).mono ?_
      rintro e w' ⟨⟨x3, rfl⟩, rfl⟩
      go_wp2_with fail
      all_goals
        go_ret
        exact ⟨(by repeat (first | exact Ext.refl _ | apply Ext.more | apply Ext.alloc | apply Ext.drew | apply Ext.drewN)), rfl⟩
    · have HMay := Lib.hid (fun w => (show Calls Try.prog 47 #[.int .i64 2, .agg #[.int .i64 2, .int .i64 d1, .bool d2, .bool d3, .bool d4, .bool d5, .int .i64 d6]] w fun e w' => Ext w w' ∧ e = .returned (.bool true) from by have := ref02_May w 2 ⟨2, d1, d2, d3, d4, d5, d6⟩; rw [ho] at this; exact this))
      clear hp
      clear ho
      go_wp2_with fail
      refine (HT.out _ _).mono ?_
      rintro e w' ⟨⟨x2, rfl⟩, rfl⟩
      go_wp2_with fail
      refine (HMay.out _).mono ?_
      rintro e w' ⟨⟨x3, rfl⟩, rfl⟩
      go_wp2_with fail
      all_goals
        go_ret
        exact ⟨(by repeat (first | exact Ext.refl _ | apply Ext.more | apply Ext.alloc | apply Ext.drew | apply Ext.drewN)), rfl⟩
    · have HMay := Lib.hid (fun w => (show Calls Try.prog 47 #[.int .i64 2, .agg #[.int .i64 2, .int .i64 d1, .bool d2, .bool d3, .bool d4, .bool d5, .int .i64 d6]] w fun e w' => Ext w w' ∧ e = .returned (.bool true) from by have := ref02_May w 2 ⟨2, d1, d2, d3, d4, d5, d6⟩; rw [ho] at this; exact this))
      clear hp
      clear ho
      go_wp2_with fail
      refine (HT.out _ _).mono ?_
      rintro e w' ⟨⟨x2, rfl⟩, rfl⟩
      go_wp2_with fail
      refine (HMay.out _).mono ?_
      rintro e w' ⟨⟨x3, rfl⟩, rfl⟩
      go_wp2_with fail
      all_goals
        go_ret
        exact ⟨(by repeat (first | exact Ext.refl _ | apply Ext.more | apply Ext.alloc | apply Ext.drew | apply Ext.drewN)), rfl⟩
    · have HMay := Lib.hid (fun w => (show Calls Try.prog 47 #[.int .i64 3, .agg #[.int .i64 3, .int .i64 d1, .bool d2, .bool d3, .bool d4, .bool d5, .int .i64 d6]] w fun e w' => Ext w w' ∧ e = .returned (.bool false) from by have := ref02_May w 3 ⟨3, d1, d2, d3, d4, d5, d6⟩; rw [ho] at this; exact this))
      clear ho
      go_wp2_with fail
      refine (HT.out _ _).mono ?_
      rintro e w' ⟨⟨x2, rfl⟩, rfl⟩
      go_wp2_with fail
      refine (HMay.out _).mono ?_
      rintro e w' ⟨⟨x3, rfl⟩, rfl⟩
      go_wp2_with fail
      all_goals
        go_ret
        exact ⟨(by repeat (first | exact Ext.refl _ | apply Ext.more | apply Ext.alloc | apply Ext.drew | apply Ext.drewN)), rfl⟩
    · have HMay := Lib.hid (fun w => (show Calls Try.prog 47 #[.int .i64 3, .agg #[.int .i64 3, .int .i64 d1, .bool d2, .bool d3, .bool d4, .bool d5, .int .i64 d6]] w fun e w' => Ext w w' ∧ e = .returned (.bool true) from by have := ref02_May w 3 ⟨3, d1, d2, d3, d4, d5, d6⟩; rw [ho] at this; exact this))
      clear ho
      go_wp2_with fail
      refine (HT.out _ _).mono ?_
      rintro e w' ⟨⟨x2, rfl⟩, rfl⟩
      go_wp2_with fail
      refine (HMay.out _).mono ?_
      rintro e w' ⟨⟨x3, rfl⟩, rfl⟩
      go_wp2_with fail
      all_goals
        go_ret
        exact ⟨(by repeat (first | exact Ext.refl _ | apply Ext.more | apply Ext.alloc | apply Ext.drew | apply Ext.drewN)), rfl⟩
    · have HMay := Lib.hid (fun w => (show Calls Try.prog 47 #[.int .i64 3, .agg #[.int .i64 3, .int .i64 d1, .bool d2, .bool d3, .bool d4, .bool d5, .int .i64 d6]] w fun e w' => Ext w w' ∧ e = .returned (.bool true) from by have := ref02_May w 3 ⟨3, d1, d2, d3, d4, d5, d6⟩; rw [ho] at this; exact this))
      clear ho
      go_wp2_with fail
      refine (HT.out _ _).mono ?_
      rintro e w' ⟨⟨x2, rfl⟩, rfl⟩
      go_wp2_with fail
      refine (HMay.out _).mono ?_
      rintro e w' ⟨⟨x3, rfl⟩, rfl⟩
      go_wp2_with fail
      all_goals
        go_ret
        exact ⟨(by repeat (first | exact Ext.refl _ | apply Ext.more | apply Ext.alloc | apply Ext.drew | apply Ext.drewN)), rfl⟩
    · have z2 : (K == 2) = false := by simpa using k2
      have z3 : (K == 3) = false := by simpa using k3
      clear k2 k3
      clear ho
      go_wp2_with fail
      refine (HT.out _ _).mono ?_
      rintro e w' ⟨⟨x2, rfl⟩, rfl⟩
      go_wp2_with fail
      all_goals
        go_ret
        exact ⟨(by repeat (first | exact Ext.refl _ | apply Ext.more | apply Ext.alloc | apply Ext.drew | apply Ext.drewN)), rfl⟩

end Go.Proofs.Ytmcjfnkekcablaa
