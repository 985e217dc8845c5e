/- The contract of plan.Set. -/
import Derived.Test.YtmcjfnkekcablaaPlane
import Derived.Test.YtmcjfnkekcablaaPatht
namespace Go.Proofs.Ytmcjfnkekcablaa
open Go.RowKit
set_option linter.unusedVariables false
set_option linter.unusedSimpArgs false
attribute [local go_sem] setCell_drewN alloc_drewN lt_moreE le_moreE lt_moreK le_moreK cell_more frozen_more set_more drew_more drewN_more

/-- May that be set? -/
def SetOk (asid page : Int) (d : Desc) (L : Nat) : Prop := (d.fKind = 2 ∧ L = 2 ∧ page.tmod 8 = 0 ∨ d.fKind = 3 ∧ L = 3) ∧ okD L d = true ∧ 0 ≤ asid ∧ asid ≤ 255

set_option maxRecDepth 100000 in
set_option maxHeartbeats 4000000 in
theorem plan_Set_arg (w : World) (m : Option Addr) (root asid page : Int) (d : Desc) (h : ∀ L, ¬ SetOk asid page d L) :
    Calls Try.prog 46 #[.pointer m, .int .i64 root, .int .i64 asid, .int .i64 page, d.v] w fun e w' => Ext w w' ∧ e = .returned (.tuple #[.slice none 0 0, errW 1]) := by
  have hc : (d.fKind = 2 ∧ (okD 2 d = false ∨ okD 2 d = true ∧ (page.tmod 8 ≠ 0 ∨ page.tmod 8 = 0 ∧ (asid < 0 ∨ 0 ≤ asid ∧ 255 < asid)))) ∨ (d.fKind = 3 ∧ (okD 3 d = false ∨ okD 3 d = true ∧ (asid < 0 ∨ 0 ≤ asid ∧ 255 < asid))) ∨ (d.fKind ≠ 2 ∧ d.fKind ≠ 3 ∧ (okD 3 d = false ∨ okD 3 d = true)) := by
    have h2 := h 2
    have h3 := h 3
    unfold SetOk at h2 h3
    by_cases k2 : d.fKind = 2
    · refine .inl ⟨k2, ?_⟩
      cases ho : okD 2 d with
      | false => exact .inl rfl
      | true =>
        refine .inr ⟨rfl, ?_⟩
        by_cases hp : page.tmod 8 = 0
        · refine .inr ⟨hp, ?_⟩
          have : ¬ (0 ≤ asid ∧ asid ≤ 255) := fun hh => h2 ⟨.inl ⟨k2, rfl, hp⟩, ho, hh.1, hh.2⟩
          omega
        · exact .inl hp
    · by_cases k3 : d.fKind = 3
      · refine .inr (.inl ⟨k3, ?_⟩)
        cases ho : okD 3 d with
        | false => exact .inl rfl
        | true =>
          refine .inr ⟨rfl, ?_⟩
          have : ¬ (0 ≤ asid ∧ asid ≤ 255) := fun hh => h3 ⟨.inr ⟨k3, rfl⟩, ho, hh.1, hh.2⟩
          omega
      · refine .inr (.inr ⟨k2, k3, ?_⟩)
        cases okD 3 d <;> simp
  clear h
  obtain ⟨K, d1, d2, d3, d4, d5, d6⟩ := d
  dsimp only at hc
  show Calls _ _ #[.pointer m, .int .i64 root, .int .i64 asid, .int .i64 page, .agg #[.int .i64 K, .int .i64 d1, .bool d2, .bool d3, .bool d4, .bool d5, .int .i64 d6]] _ _
  rcases hc with ⟨rfl, ho | ⟨ho, hp | ⟨hp, ha | ⟨ha, ha2⟩⟩⟩⟩ | ⟨rfl, ho | ⟨ho, ha | ⟨ha, ha2⟩⟩⟩ | ⟨k2, k3, ho | ho⟩
  · have HE := Lib.hid (fun w => extC (pte_Encode_no w 2 _ ho))
    clear ho
    go_enter Try.func46, Try.ntmps46
    go_wp2_with fail
    refine (HE.out _).mono ?_
    rintro e w' ⟨⟨ex0, rfl⟩, rfl⟩
    go_wp2_with fail
    go_ret2
    exact ⟨(by repeat (first | exact Ext.refl _ | apply Ext.more | apply Ext.alloc | apply Ext.drew | apply Ext.drewN)), rfl⟩
  · have HE := Lib.hid (fun w => extC (pte_Encode_yes w 2 _ ho))
    have hp' : (page.tmod 8 != 0) = true := by simpa using hp
    clear ho hp
    generalize encW _ = EW at HE
    go_enter Try.func46, Try.ntmps46
    go_wp2_with fail
    refine (HE.out _).mono ?_
    rintro e w' ⟨⟨ex0, rfl⟩, rfl⟩
    go_wp2_with fail
    go_ret2
    exact ⟨(by repeat (first | exact Ext.refl _ | apply Ext.more | apply Ext.alloc | apply Ext.drew | apply Ext.drewN)), rfl⟩
  · have HE := Lib.hid (fun w => extC (pte_Encode_yes w 2 _ ho))
    have hp' : (page.tmod 8 != 0) = false := by simpa using hp
    clear ho hp
    generalize encW _ = EW at HE
    go_enter Try.func46, Try.ntmps46
    go_wp2_with fail
    refine (HE.out _).mono ?_
    rintro e w' ⟨⟨ex0, rfl⟩, rfl⟩
    go_wp2_with fail
    go_ret2
    exact ⟨(by repeat (first | exact Ext.refl _ | apply Ext.more | apply Ext.alloc | apply Ext.drew | apply Ext.drewN)), rfl⟩
  · have HE := Lib.hid (fun w => extC (pte_Encode_yes w 2 _ ho))
    have hp' : (page.tmod 8 != 0) = false := by simpa using hp
    clear ho hp
    generalize encW _ = EW at HE
    go_enter Try.func46, Try.ntmps46
    go_wp2_with fail
    refine (HE.out _).mono ?_
    rintro e w' ⟨⟨ex0, rfl⟩, rfl⟩
    go_wp2_with fail
    go_ret2
    exact ⟨(by repeat (first | exact Ext.refl _ | apply Ext.more | apply Ext.alloc | apply Ext.drew | apply Ext.drewN)), rfl⟩
  · have HE := Lib.hid (fun w => extC (pte_Encode_no w 3 _ ho))
    clear ho
    go_enter Try.func46, Try.ntmps46
    go_wp2_with fail
    refine (HE.out _).mono ?_
    rintro e w' ⟨⟨ex0, rfl⟩, rfl⟩
    go_wp2_with fail
    go_ret2
    exact ⟨(by repeat (first | exact Ext.refl _ | apply Ext.more | apply Ext.alloc | apply Ext.drew | apply Ext.drewN)), rfl⟩
  · have HE := Lib.hid (fun w => extC (pte_Encode_yes w 3 _ ho))
    clear ho
    generalize encW _ = EW at HE
    go_enter Try.func46, Try.ntmps46
    go_wp2_with fail
    refine (HE.out _).mono ?_
    rintro e w' ⟨⟨ex0, rfl⟩, rfl⟩
    go_wp2_with fail
    go_ret2
    exact ⟨(by repeat (first | exact Ext.refl _ | apply Ext.more | apply Ext.alloc | apply Ext.drew | apply Ext.drewN)), rfl⟩
  · have HE := Lib.hid (fun w => extC (pte_Encode_yes w 3 _ ho))
    clear ho
    generalize encW _ = EW at HE
    go_enter Try.func46, Try.ntmps46
    go_wp2_with fail
    refine (HE.out _).mono ?_
    rintro e w' ⟨⟨ex0, rfl⟩, rfl⟩
    go_wp2_with fail
    go_ret2
    exact ⟨(by repeat (first | exact Ext.refl _ | apply Ext.more | apply Ext.alloc | apply Ext.drew | apply Ext.drewN)), rfl⟩
  · have HE := Lib.hid (fun w => extC (pte_Encode_no w 3 _ ho))
    have z2 : (K == 2) = false := by simpa using k2
    clear ho k2 k3
    go_enter Try.func46, Try.ntmps46
    go_wp2_with fail
    refine (HE.out _).mono ?_
    rintro e w' ⟨⟨ex0, rfl⟩, rfl⟩
    go_wp2_with fail
    go_ret2
    exact ⟨(by repeat (first | exact Ext.refl _ | apply Ext.more | apply Ext.alloc | apply Ext.drew | apply Ext.drewN)), rfl⟩
  · have HE := Lib.hid (fun w => extC (pte_Encode_yes w 3 _ ho))
    have z2 : (K == 2) = false := by simpa using k2
    have z2' : (K != 2) = true := by simpa using k2
    have z3' : (K != 3) = true := by simpa using k3
    clear ho k2 k3
    generalize encW _ = EW at HE
    go_enter Try.func46, Try.ntmps46
    go_wp2_with fail
    refine (HE.out _).mono ?_
    rintro e w' ⟨⟨ex0, rfl⟩, rfl⟩
    go_wp2_with fail
    go_ret2
    exact ⟨(by repeat (first | exact Ext.refl _ | apply Ext.more | apply Ext.alloc | apply Ext.drew | apply Ext.drewN)), rfl⟩

/-- What Set tells of a way. -/
def setWay (ws : List Int) (asid page : Int) (d : Desc) (L : Nat) : Option (List (Int × Int) × Desc) → StepsR
  | none => .no 2
  | some (s, _) => if s.length ≠ L + 1 then .no 7 else if ws.getD ((lastS s).1.toNat * 8 + (lastS s).2.toNat) 0 ≠ 0 then .no 7 else .yes [wr0 asid L (lastS s).1 (lastS s).2 page (encW d)]
theorem way_in {ws : List Int} {n page : Int} : ∀ (k : Nat) (l tb : Int) (s : List (Int × Int)) (d : Desc), 0 ≤ tb → tb < n → wayAt ws n page k l tb = some (s, d) → ∀ z ∈ s, 0 ≤ z.1 ∧ z.1 < n ∧ 0 ≤ z.2 ∧ z.2 < 8 := by
  intro k
  induction k with
  | zero => intro l tb s d _ _ h; simp [wayAt] at h
  | succ k ih =>
    intro l tb s d t0 t1 h z hz
    rw [wayAt_in rfl rfl rfl] at h
    split at h
    · simp only [Option.some.injEq, Prod.mk.injEq] at h
      rw [← h.1] at hz
      simp at hz
      rw [hz]
      exact ⟨t0, t1, placeN_lo _ _, placeN_hi _ _⟩
    · split at h
      · rename_i ht
        rw [Option.map_eq_some_iff] at h
        obtain ⟨⟨s', d'⟩, h1, h2⟩ := h
        simp only [Prod.mk.injEq] at h2
        rw [← h2.1] at hz
        rcases List.mem_cons.1 hz with rfl | hz
        · exact ⟨t0, t1, placeN_lo _ _, placeN_hi _ _⟩
        · exact ih _ _ _ _ ht.1 ht.2 h1 z hz
      · cases h
theorem lastS_mem {s : List (Int × Int)} (h : 1 ≤ s.length) : lastS s ∈ s := by
  unfold lastS
  rw [List.getD_eq_getElem?_getD, List.getElem?_eq_getElem (by omega)]
  exact List.getElem_mem _

set_option maxRecDepth 100000 in
set_option maxHeartbeats 8000000 in
theorem plan_Set (w : World) {b g n c : Nat} {ws : List Int} (hm : MemAt w b g n c ws) (hw : WOk ws) (root asid page : Int) (d : Desc) (L : Nat) (hok : SetOk asid page d L) (r0 : 0 ≤ root) (r1 : root < n) (p0 : 0 ≤ page) (p1 : page < 4096) (r : Option (List (Int × Int) × Desc)) (hr : wayAt ws n page (L + 1) 0 root = r) :
    Calls Try.prog 46 #[.pointer (some ⟨b, 0, none⟩), .int .i64 root, .int .i64 asid, .int .i64 page, d.v] w fun e w' => Ext w w' ∧ StepsRet w.heap.size w' (setWay ws asid page d L r) e := by
  have HM := Lib.hid hm
  obtain ⟨hkl, hod, ha0, ha1⟩ := hok
  have hL : 1 ≤ L ∧ L < 4 := by omega
  have HE := Lib.hid (fun w => extC (pte_Encode_yes w L _ hod))
  have HN := Lib.hid (fun w hm => tree_Need w (b := b) (g := g) (n := n) (c := c) hm hw root page L r0 r1 p0 p1 hL.1 hL.2 r hr)
  have HPt := Lib.hid (fun R hR w hm => tree_PathR w (b := b) (g := g) (n := n) (c := c) hm hw root asid page L r0 r1 p0 p1 hL.1 hL.2 [] (.slice none 0 0) (.inl ⟨rfl, rfl⟩) (by simp) r hr R hR)
  obtain ⟨K, d1, d2, d3, d4, d5, d6⟩ := d
  dsimp only at hkl
  show Calls _ _ #[_, _, _, _, .agg #[.int .i64 K, .int .i64 d1, .bool d2, .bool d3, .bool d4, .bool d5, .int .i64 d6]] _ _
  have hpt : page.tmod 8 = page % 8 := Int.tmod_eq_emod_of_nonneg p0
  rw [hpt] at hkl
  obtain ⟨EW, hEW⟩ : ∃ EW, encW ⟨K, d1, d2, d3, d4, d5, d6⟩ = EW := ⟨_, rfl⟩
  have HSW := Lib.hid (fun (s : List (Int × Int)) (dd : Desc) => (show setWay ws asid page ⟨K, d1, d2, d3, d4, d5, d6⟩ L (some (s, dd)) = if s.length ≠ L + 1 then .no 7 else if ws.getD ((lastS s).1.toNat * 8 + (lastS s).2.toNat) 0 ≠ 0 then .no 7 else .yes [wr0 asid L (lastS s).1 (lastS s).2 page EW] from by unfold setWay; rw [hEW]))
  rw [hEW] at HE
  clear hEW hod hpt
  cases r with
  | none =>
    clear hr HPt hw hm
    rcases hkl with ⟨rfl, rfl, hp⟩ | ⟨rfl, rfl⟩
    all_goals
      go_enter Try.func46, Try.ntmps46
      go_wp2_with fail
      refine (HE.out _).mono ?_
      rintro e w' ⟨⟨ex0, rfl⟩, rfl⟩
      go_wp2_with fail
      refine (HN.out _ (by repeat (first | exact HM.out | apply MemAt.more | apply MemAt.alloc | apply MemAt.drew | apply MemAt.drewN))).mono ?_
      rintro e w' ⟨⟨ex1, rfl⟩, rfl⟩
      rw [show ∀ L, (needP L none).1 = 0 from fun _ => rfl, show ∀ L, errV (needP L none).2 = errW 2 from fun _ => rfl]
      go_wp2_with fail
      go_ret2
      exact ⟨(by repeat (first | exact Ext.refl _ | apply Ext.more | apply Ext.alloc | apply Ext.drew | apply Ext.drewN)), rfl⟩
  | some r =>
    obtain ⟨s, dd⟩ := r
    obtain ⟨s0, s1⟩ := wayAt_len (ws := ws) (n := n) (page := page) (L + 1) 0 root s dd hr
    by_cases hs : s.length = L + 1
    · have HNP := Lib.hid (show needP L (some (s, dd)) = (0, 0) from by simp only [needP]; rw [if_neg (by omega)]; congr 1; omega)
      have HV := Lib.hid ((HSW.out s dd).trans (if_neg (by omega)))
      obtain ⟨t0, t1, t2, t3⟩ := way_in (L + 1) 0 root s dd r0 r1 hr _ (lastS_mem s0)
      have hpth : pathRes n asid page L [] (some (s, dd)) = .yes [] (lastS s) := by
        unfold pathRes
        dsimp only
        rw [if_neg (by omega), if_neg (by omega), if_neg (by simp), if_neg (by simp; omega)]
        unfold pathT
        rw [show L + 1 - s.length = 0 by omega]
        rfl
      have HP' := Lib.hid (HPt.out _ hpth)
      generalize lastS s = tt at *
      obtain ⟨ta, tb⟩ := tt
      dsimp only at t0 t1 t2 t3 HV
      have HLd := Lib.hid (fun w hm => phys_Load_is w (b := b) (g := g) (n := n) (c := c) (ws := ws) hm ta tb _ t0 t1 t2 t3 rfl)
      generalize ws.getD (ta.toNat * 8 + tb.toNat) 0 = X at *
      clear hr HPt HSW hs hpth hw hm s0 s1
      rw [HNP.out] at HN
      clear HNP
      by_cases hX : X = 0
      · subst hX
        have HVy := Lib.hid (HV.out.trans (if_neg (by simp)))
        clear HV
        rcases hkl with ⟨rfl, rfl, hp⟩ | ⟨rfl, rfl⟩
        all_goals
          go_enter Try.func46, Try.ntmps46
          go_wp2_with fail
          refine (HE.out _).mono ?_
          rintro e w' ⟨⟨ex0, rfl⟩, rfl⟩
          go_wp2_with fail
          refine (HN.out _ (by repeat (first | exact HM.out | apply MemAt.more | apply MemAt.alloc | apply MemAt.drew | apply MemAt.drewN))).mono ?_
          rintro e w' ⟨⟨ex1, rfl⟩, rfl⟩
          rw [show errV 0 = .nilIface from rfl]
          go_wp2_with fail
          refine (HP'.out _ (by repeat (first | exact HM.out | apply MemAt.more | apply MemAt.alloc | apply MemAt.drew | apply MemAt.drewN))).mono ?_
          rintro e w' ⟨⟨ex2, rfl⟩, a1, c1, rfl, _⟩
          go_wp2_with fail
          refine (HLd.out _ (by repeat (first | exact HM.out | apply MemAt.more | apply MemAt.alloc | apply MemAt.drew | apply MemAt.drewN))).mono ?_
          rintro e w' ⟨rfl, hww⟩
          subst w'
          go_wp2_with fail
          go_ret2
          refine ⟨(by repeat (first | exact Ext.refl _ | apply Ext.more | apply Ext.alloc | apply Ext.drew | apply Ext.drewN)), ?_⟩
          rw [HVy.out]
          exact stepsRet_yes (B' := 0 + w.heap.size) rfl (own_lit' (by simp) (by simp [size_more]; try omega) rfl (by decide) rfl rfl) (by omega) rfl rfl
      · have HVn := Lib.hid (HV.out.trans (if_pos hX))
        have hX' : (X != 0) = true := by simpa using hX
        clear HV hX
        rcases hkl with ⟨rfl, rfl, hp⟩ | ⟨rfl, rfl⟩
        all_goals
          go_enter Try.func46, Try.ntmps46
          go_wp2_with fail
          refine (HE.out _).mono ?_
          rintro e w' ⟨⟨ex0, rfl⟩, rfl⟩
          go_wp2_with fail
          refine (HN.out _ (by repeat (first | exact HM.out | apply MemAt.more | apply MemAt.alloc | apply MemAt.drew | apply MemAt.drewN))).mono ?_
          rintro e w' ⟨⟨ex1, rfl⟩, rfl⟩
          rw [show errV 0 = .nilIface from rfl]
          go_wp2_with fail
          refine (HP'.out _ (by repeat (first | exact HM.out | apply MemAt.more | apply MemAt.alloc | apply MemAt.drew | apply MemAt.drewN))).mono ?_
          rintro e w' ⟨⟨ex2, rfl⟩, a1, c1, rfl, _⟩
          go_wp2_with fail
          refine (HLd.out _ (by repeat (first | exact HM.out | apply MemAt.more | apply MemAt.alloc | apply MemAt.drew | apply MemAt.drewN))).mono ?_
          rintro e w' ⟨rfl, hww⟩
          subst w'
          go_wp2_with fail
          go_ret2
          exact ⟨(by repeat (first | exact Ext.refl _ | apply Ext.more | apply Ext.alloc | apply Ext.drew | apply Ext.drewN)), by rw [HVn.out]; rfl⟩
    · have HNP : Hid (∃ q : Int, needP L (some (s, dd)) = (0, 7) ∨ (0 < q ∧ needP L (some (s, dd)) = (q, 0))) := by
        by_cases h7 : (0 : Int) < L + 1 - s.length ∧ dd.fKind ≠ 0
        · exact ⟨0, .inl (by simp only [needP]; rw [if_pos h7])⟩
        · exact ⟨L + 1 - s.length, .inr ⟨by omega, by simp only [needP]; rw [if_neg h7]⟩⟩
      have HV := Lib.hid ((HSW.out s dd).trans (if_pos hs))
      clear hr HPt HSW hs hw hm s0 s1
      obtain ⟨q, hn | ⟨hq, hn⟩⟩ := HNP.out
      · rw [hn] at HN
        clear hn HNP
        rcases hkl with ⟨rfl, rfl, hp⟩ | ⟨rfl, rfl⟩
        all_goals
          go_enter Try.func46, Try.ntmps46
          go_wp2_with fail
          refine (HE.out _).mono ?_
          rintro e w' ⟨⟨ex0, rfl⟩, rfl⟩
          go_wp2_with fail
          refine (HN.out _ (by repeat (first | exact HM.out | apply MemAt.more | apply MemAt.alloc | apply MemAt.drew | apply MemAt.drewN))).mono ?_
          rintro e w' ⟨⟨ex1, rfl⟩, rfl⟩
          rw [show errV 7 = errW 7 from rfl]
          go_wp2_with fail
          go_ret2
          exact ⟨(by repeat (first | exact Ext.refl _ | apply Ext.more | apply Ext.alloc | apply Ext.drew | apply Ext.drewN)), by rw [HV.out]; rfl⟩
      · rw [hn] at HN
        clear hn HNP
        rcases hkl with ⟨rfl, rfl, hp⟩ | ⟨rfl, rfl⟩
        all_goals
          go_enter Try.func46, Try.ntmps46
          go_wp2_with fail
          refine (HE.out _).mono ?_
          rintro e w' ⟨⟨ex0, rfl⟩, rfl⟩
          go_wp2_with fail
          refine (HN.out _ (by repeat (first | exact HM.out | apply MemAt.more | apply MemAt.alloc | apply MemAt.drew | apply MemAt.drewN))).mono ?_
          rintro e w' ⟨⟨ex1, rfl⟩, rfl⟩
          rw [show errV 0 = .nilIface from rfl]
          go_wp2_with fail
          go_ret2
          exact ⟨(by repeat (first | exact Ext.refl _ | apply Ext.more | apply Ext.alloc | apply Ext.drew | apply Ext.drewN)), by rw [HV.out]; rfl⟩

end Go.Proofs.Ytmcjfnkekcablaa
