import Derived.Test.YthcdecgecabgaaaPath
import Derived.Test.YthcdecgecabgaaaWipe
import Derived.Test.YthcdecgecabgaaaBRefgCodeLawgNeed
/- The contracts of slices.IndexFunc at roots, move.find$1. -/
namespace Go.Proofs.Ythcdecgecabgaaa
open Go.RowKit
set_option linter.unusedVariables false
set_option linter.unusedSimpArgs false
attribute [local go_sem] setCell_drewN alloc_drewN lt_moreE le_moreE lt_moreK le_moreK cell_more frozen_more set_more drew_more drewN_more

/-- Which root is a space's: from the i-th on; none: below 0. -/
def rootAt (roots : List (Int × Int)) (space : Int) : Nat → Nat → Int
  | 0, _ => -1
  | k + 1, i => if (roots.getD i (0, 0)).1 = space then i else rootAt roots space k (i + 1)

set_option maxHeartbeats 1000000 in
theorem move_find1 (w : World) (a f : Int) (B : Nat) (space : Int) (hb : B < w.heap.size) (hc : w.cell? ⟨B, 0, none⟩ = some (.int .i64 space)) :
    Calls Try.prog 143 #[.agg #[.int .i64 a, .int .i64 f], .pointer (some ⟨B, 0, none⟩)] w fun e w' => Ext w w' ∧ e = .returned (.bool (a == space)) := by
  obtain ⟨k1, k2, k3⟩ := lt_facts hb
  go_enter Try.func143, Try.ntmps143
  go_wp2_with fail
  go_ret
  exact ⟨(by repeat (first | exact Ext.refl _ | apply Ext.more | apply Ext.alloc | apply Ext.drew | apply Ext.drewN)), rfl⟩

set_option maxHeartbeats 2000000 in
theorem roots_Index (w : World) (roots : List (Int × Int)) (v : Value) (hv : SlRd w v 2 (roots.map slotC)) (B : Nat) (space : Int) (hb : B < w.heap.size) (hc : w.cell? ⟨B, 0, none⟩ = some (.int .i64 space)) :
    Calls Try.prog 142 #[v, .func (.func 143) #[] #[.pointer (some ⟨B, 0, none⟩)]] w fun e w' => Ext w w' ∧ e = .returned (.int .i64 (rootAt roots space roots.length 0)) := by
  obtain ⟨fa, fcap, rfl, hfcap, hfc⟩ := hv.form
  rw [List.length_map] at *
  have hcap' : roots.length ≤ 9223372036854775807 := by unfold maxLen at hfcap; exact hfcap
  have HFC := Lib.hid hfc
  have HF1 := Lib.hid (fun w' a f hE => move_find1 w' a f B space (Nat.lt_of_lt_of_le hb (Ext.size hE)) ((Ext.grow hE).cell hc (by simp)))
  clear hv hfc hfcap hc hb
  go_enter Try.func142, Try.ntmps142
  go_wp2_with fail
  go_loopw [8] (fun i wr => ∃ q : Nat, q ≤ roots.length ∧ i = .int .i64 q ∧ Ext w wr ∧ Hid (rootAt roots space roots.length 0 = rootAt roots space (roots.length - q) q)) (fun i _ => roots.length - (intOf i).toNat)
  case atStart => exact ⟨0, by omega, rfl, Ext.refl _, rfl⟩
  case round =>
    obtain ⟨q, hq, rfl, ⟨x, rfl⟩, HR⟩ := hrel
    by_cases hlt : q < roots.length
    · have hz : roots[q]? = some roots[q] := List.getElem?_eq_getElem hlt
      obtain ⟨fb, fo, rfl, hfb, hcl⟩ := HFC.out q (slotC roots[q]) (by rw [List.getElem?_map, hz]; rfl) (by simp [slotC])
      obtain ⟨k1, k2, k3⟩ := lt_facts hfb
      have x0 := hcl 0 _ rfl
      have x1 := hcl 1 _ rfl
      rw [← Nat.add_assoc] at x0 x1
      simp only [Nat.add_zero] at x0
      have HS := Lib.hid (show rootAt roots space (roots.length - q) q = if roots[q].1 = space then (q : Int) else rootAt roots space (roots.length - (q + 1)) (q + 1) from by
        obtain ⟨m, hm⟩ : ∃ m, roots.length - q = m + 1 := ⟨roots.length - q - 1, by omega⟩
        rw [hm, show roots.length - (q + 1) = m by omega]
        conv => lhs; unfold rootAt
        rw [List.getD_eq_getElem?_getD, hz]; rfl)
      generalize roots[q] = z at *
      obtain ⟨za, zb⟩ := z
      dsimp only at x0 x1 HS
      clear hz hcl
      by_cases he : za = space
      · have HS2 := Lib.hid (HR.out.trans (HS.out.trans (if_pos he)))
        have hb : (za == space) = true := by simpa using he
        clear HS HR he
        go_wp2_with fail
        refine (HF1.out _ _ _ (by repeat (first | exact Ext.refl _ | apply Ext.more | apply Ext.alloc | apply Ext.drew | apply Ext.drewN))).mono ?_
        rintro e w' ⟨⟨x2, rfl⟩, rfl⟩
        go_wp2_with fail
        go_ret
        exact ⟨(by repeat (first | exact Ext.refl _ | apply Ext.more | apply Ext.alloc | apply Ext.drew | apply Ext.drewN)), by rw [HS2.out]; rfl⟩
      · have HS2 := Lib.hid (HR.out.trans (HS.out.trans (if_neg he)))
        have hb : (za == space) = false := by simpa using he
        clear HS HR he
        go_wp2_with fail
        refine (HF1.out _ _ _ (by repeat (first | exact Ext.refl _ | apply Ext.more | apply Ext.alloc | apply Ext.drew | apply Ext.drewN))).mono ?_
        rintro e w' ⟨⟨x2, rfl⟩, rfl⟩
        go_wp2_with fail
        go_roundw
        case rel => exact ⟨q + 1, by omega, by go_num, (by repeat (first | exact Ext.refl _ | apply Ext.more | apply Ext.alloc | apply Ext.drew | apply Ext.drewN)), HS2⟩
        case measure => simp [intOf]; omega
    · obtain rfl : q = roots.length := by omega
      have HS2 := Lib.hid (show rootAt roots space roots.length 0 = -1 from HR.out.trans (by rw [Nat.sub_self]; rfl))
      clear HR
      go_wp2_with fail
      go_ret
      exact ⟨(by repeat (first | exact Ext.refl _ | apply Ext.more | apply Ext.alloc | apply Ext.drew | apply Ext.drewN)), by rw [HS2.out]; rfl⟩
/-- What IndexFunc tells of roots. -/
theorem rootAt_spec {roots : List (Int × Int)} {space : Int} : ∀ (k i : Nat), i + k = roots.length → (rootAt roots space k i = -1 ∧ ∀ j, i ≤ j → j < roots.length → (roots.getD j (0, 0)).1 ≠ space) ∨ ∃ q : Nat, i ≤ q ∧ q < roots.length ∧ rootAt roots space k i = q ∧ (roots.getD q (0, 0)).1 = space ∧ ∀ j, i ≤ j → j < q → (roots.getD j (0, 0)).1 ≠ space := by
  intro k
  induction k with
  | zero => intro i hi; exact .inl ⟨rfl, fun j h1 h2 => by omega⟩
  | succ k ih =>
    intro i hi
    unfold rootAt
    by_cases h : (roots.getD i (0, 0)).1 = space
    · rw [if_pos h]
      exact .inr ⟨i, Nat.le_refl _, by omega, rfl, h, fun j h1 h2 => by omega⟩
    · rw [if_neg h]
      rcases ih (i + 1) (by omega) with ⟨h1, h2⟩ | ⟨q, h1, h2, h3, h4, h5⟩
      · refine .inl ⟨h1, fun j h3 h4 => ?_⟩
        by_cases e : j = i
        · subst e; exact h
        · exact h2 j (by omega) h4
      · refine .inr ⟨q, by omega, h2, h3, h4, fun j h6 h7 => ?_⟩
        by_cases e : j = i
        · subst e; exact h
        · exact h5 j (by omega) h7
/-- Where a page's word stands, and what it says. -/
structure Place where
  asid : Int
  page : Int
  tb : Int
  pl : Int
  says : Desc
def Place.cells (p : Place) : List Value := [.int .i64 p.asid, .int .i64 p.page, .int .i64 p.tb, .int .i64 p.pl, .int .i64 p.says.fKind, .int .i64 p.says.fFrame, .bool p.says.fWrite, .bool p.says.fExec, .bool p.says.fSeen, .bool p.says.fFold, .int .i64 p.says.fSoft]
def zeroPl : Place := ⟨0, 0, 0, 0, noneD⟩
inductive FindR where
  | yes (p : Place)
  | no (k : Nat)
/-- What find tells of a walk. -/
def findW (ws : List Int) (space page frm : Int) : Option Found → FindR
  | none => .no 2
  | some f => if f.fKind = 3 ∧ f.fOrder = 0 ∧ f.fFrame = frm then .yes ⟨space, page, f.fTable, f.fPlace, decD 3 (ws.getD (f.fTable.toNat * 8 + f.fPlace.toNat) 0)⟩ else .no 7
def findR (ws : List Int) (n : Int) (roots : List (Int × Int)) (space page frm : Int) : FindR :=
  if rootAt roots space roots.length 0 < 0 ∨ space < 0 ∨ 255 < space then .no 1
  else if 0 ≤ (roots.getD (rootAt roots space roots.length 0).toNat (0, 0)).2 ∧ (roots.getD (rootAt roots space roots.length 0).toNat (0, 0)).2 < n ∧ 0 ≤ page ∧ page < 4096 then
    findW ws space page frm (walkAt ws n page 4 0 (roots.getD (rootAt roots space roots.length 0).toNat (0, 0)).2)
  else .no 1
def findV : FindR → Value
  | .yes p => .tuple #[.agg p.cells.toArray, .nilIface]
  | .no k => .tuple #[.agg zeroPl.cells.toArray, errW k]

set_option maxRecDepth 100000 in
set_option maxHeartbeats 4000000 in
theorem move_find (w : World) {b g n c : Nat} {ws : List Int} (hm : MemAt w b g n c ws) (hw : WOk ws) (roots : List (Int × Int)) (v : Value) (hv : SlRd w v 2 (roots.map slotC)) (space page frm : Int) (R : FindR) (hR : findR ws n roots space page frm = R) :
    Calls Try.prog 108 #[.pointer (some ⟨b, 0, none⟩), v, .agg #[.int .i64 space, .int .i64 page], .int .i64 frm] w fun e w' => Ext w w' ∧ e = .returned (findV R) := by
  have HM := Lib.hid hm
  have HW := Lib.hid hw
  have HV := Lib.hid hv
  have HR := Lib.hid hR
  have HI := Lib.hid (fun w v hv B hb hc => roots_Index w roots v hv B space hb hc)
  obtain ⟨fa, fcap, rfl, hfcap, hfc⟩ := hv.form
  rw [List.length_map] at *
  have hcap' : roots.length ≤ 9223372036854775807 := by unfold maxLen at hfcap; exact hfcap
  have HFC := Lib.hid hfc
  have hspec := rootAt_spec (roots := roots) (space := space) roots.length 0 (by omega)
  clear hm hw hv hR hfc hfcap
  rcases hspec with ⟨h1, _⟩ | ⟨q, _, hq, h1, h2, _⟩
  · have HV1 := Lib.hid (show R = .no 1 from by rw [← HR.out]; unfold findR; rw [if_pos (.inl (by omega))])
    rw [h1] at HI
    clear HR h1 HFC
    go_enter Try.func108, Try.ntmps108
    go_wp2_with fail
    refine (HI.out _ _ (by repeat (first | exact HV.out | apply rd_more | apply rd_alloc | apply rd_drew | apply rd_drewN)) _ (by simp; omega) (by simp [go_sem])).mono ?_
    rintro e w' ⟨⟨x1, rfl⟩, rfl⟩
    go_wp2_with fail
    refine bodyPost_ret (results_ct rfl _ _ (w.heap.size + 1) 130 _ (0, 0) _ rfl (by repeat (first | (with_reducible exact heap_alloc_at _ _ (by simp)) | (with_reducible apply box_more) | (with_reducible apply box_alloc) | (with_reducible apply box_drew) | (with_reducible apply box_drewN))) Try.underlying130 rfl (by kernel_rfl)) rfl ?_
    exact ⟨(by repeat (first | exact Ext.refl _ | apply Ext.more | apply Ext.alloc | apply Ext.drew | apply Ext.drewN)), by rw [HV1.out]; rfl⟩
  · have hz : roots[q]? = some (roots.getD q (0, 0)) := by rw [List.getD_eq_getElem?_getD, List.getElem?_eq_getElem hq]; rfl
    obtain ⟨fb, fo, rfl, hfb, hcl⟩ := HFC.out q (slotC (roots.getD q (0, 0))) (by rw [List.getElem?_map, hz]; rfl) (by simp [slotC])
    obtain ⟨k1, k2, k3⟩ := lt_facts hfb
    have x0 := hcl 0 _ rfl
    have x1 := hcl 1 _ rfl
    rw [← Nat.add_assoc] at x0 x1
    simp only [Nat.add_zero] at x0
    rw [h1] at HI
    have hq0 : (0 : Int) ≤ (q : Int) := by omega
    have hq1 : (q : Int) < (roots.length : Int) := by omega
    have hqt : ((q : Nat) : Int).toNat = q := rfl
    by_cases hs : space < 0 ∨ 255 < space
    · have HV1 := Lib.hid (show R = .no 1 from by rw [← HR.out]; unfold findR; rw [if_pos (.inr hs)])
      have hs' : space < 0 ∨ (0 ≤ space ∧ 255 < space) := by omega
      clear HR h1 HFC hs hz hcl h2
      rcases hs' with hs | ⟨hs, hs2⟩
      all_goals
        go_enter Try.func108, Try.ntmps108
        go_wp2_with fail
        refine (HI.out _ _ (by repeat (first | exact HV.out | apply rd_more | apply rd_alloc | apply rd_drew | apply rd_drewN)) _ (by simp; omega) (by simp [go_sem])).mono ?_
        rintro e w' ⟨⟨x1, rfl⟩, rfl⟩
        go_wp2_with fail
        refine bodyPost_ret (results_ct rfl _ _ (w.heap.size + 1) 130 _ (0, 0) _ rfl (by repeat (first | (with_reducible exact heap_alloc_at _ _ (by simp)) | (with_reducible apply box_more) | (with_reducible apply box_alloc) | (with_reducible apply box_drew) | (with_reducible apply box_drewN))) Try.underlying130 rfl (by kernel_rfl)) rfl ?_
        exact ⟨(by repeat (first | exact Ext.refl _ | apply Ext.more | apply Ext.alloc | apply Ext.drew | apply Ext.drewN)), by rw [HV1.out]; rfl⟩
    · have hs0 : 0 ≤ space := by omega
      have hs1 : space ≤ 255 := by omega
      have HR2 := Lib.hid (show (if 0 ≤ (roots.getD q (0, 0)).2 ∧ (roots.getD q (0, 0)).2 < n ∧ 0 ≤ page ∧ page < 4096 then findW ws space page frm (walkAt ws n page 4 0 (roots.getD q (0, 0)).2) else .no 1) = R from by
        rw [← HR.out]
        unfold findR
        rw [h1, hqt, if_neg (show ¬ ((q : Int) < 0 ∨ space < 0 ∨ 255 < space) by omega)])
      generalize roots.getD q (0, 0) = z at *
      obtain ⟨za, rf⟩ := z
      dsimp only at HR2 h2 x0 x1
      clear HR h1 hs hz hcl HFC hqt h2
      by_cases hin : 0 ≤ rf ∧ rf < n ∧ 0 ≤ page ∧ page < 4096
      · have HR3 := Lib.hid ((if_pos hin).symm.trans HR2.out)
        obtain ⟨i0, i1, i2, i3⟩ := hin
        have HWk := Lib.hid (fun w (hm : MemAt w b g n c ws) => extC (walk_Walk w hm HW.out rf page i0 i1 i2 i3))
        cases hwk : walkAt ws n page 4 0 rf with
        | none =>
          have HV1 := Lib.hid (show R = .no 2 from by rw [← HR3.out, hwk]; rfl)
          rw [hwk, walkV_n] at HWk
          clear HR2 HR3 hwk
          go_enter Try.func108, Try.ntmps108
          go_wp2_with fail
          refine (HI.out _ _ (by repeat (first | exact HV.out | apply rd_more | apply rd_alloc | apply rd_drew | apply rd_drewN)) _ (by simp; omega) (by simp [go_sem])).mono ?_
          rintro e w' ⟨⟨ex1, rfl⟩, rfl⟩
          go_wp2_with fail
          go_region_held3 (fun w' => w'.cell? ⟨fb, fo + q * 2 + 1, none⟩ = some (.int .i64 rf) ∧ w'.cell? ⟨w.heap.size, 1, none⟩ = some (.int .i64 page)) (first | (go_simp; done) | (dsimp only; refine ⟨?_, ?_⟩ <;> go_simp))
            ((go_at_call 97; refine (HWk.out _ (by repeat (first | exact HM.out | apply MemAt.more | apply MemAt.alloc | apply MemAt.drew | apply MemAt.drewN))).mono ?_; rintro e w' ⟨⟨ex2, rfl⟩, rfl⟩))
          all_goals
            go_wp2_with fail
            refine bodyPost_ret (results_ct rfl _ _ (w.heap.size + 1) 130 _ (0, 0) _ rfl (by repeat (first | (with_reducible exact heap_alloc_at _ _ (by simp)) | (with_reducible apply box_more) | (with_reducible apply box_alloc) | (with_reducible apply box_drew) | (with_reducible apply box_drewN))) Try.underlying130 rfl (by kernel_rfl)) rfl ?_
            exact ⟨(by repeat (first | exact Ext.refl _ | apply Ext.more | apply Ext.alloc | apply Ext.drew | apply Ext.drewN)), by rw [HV1.out]; rfl⟩
        | some f =>
          by_cases hok : f.fKind = 3 ∧ f.fOrder = 0 ∧ f.fFrame = frm
          · have HV1 := Lib.hid (show R = .yes ⟨space, page, f.fTable, f.fPlace, decD 3 (ws.getD (f.fTable.toNat * 8 + f.fPlace.toNat) 0)⟩ from by rw [← HR3.out, hwk]; unfold findW; dsimp only; rw [if_pos hok])
            obtain ⟨t0, t1, hpl, _⟩ := walkAt_word 4 0 rf f (by omega) (by omega) hwk
            obtain ⟨h4, _, d, h5, h6, h7, _⟩ := walk_page hwk hok.1
            have hp0 := placeN_lo f.fLevel page
            have hp1 := placeN_hi f.fLevel page
            rw [← hpl] at hp0 hp1
            have hx := HW.out.getD (f.fTable.toNat * 8 + f.fPlace.toNat)
            have HL := Lib.hid (fun w (hm : MemAt w b g n c ws) => phys_Load_is w hm f.fTable f.fPlace _ t0 t1 hp0 hp1 rfl)
            rw [hwk] at HWk
            obtain ⟨F0, F1, F2, F3, F4, F5, F6, F7, F8, F9, F10⟩ := f
            dsimp only at *
            obtain ⟨rfl, rfl, rfl⟩ := hok
            rw [walkV_s] at HWk
            generalize ws.getD (F2.toNat * 8 + F3.toNat) 0 = X at *
            have HDc := Lib.hid (fun w => extC (pte_Decode w 3 X (by omega) (by omega) hx.1 hx.2))
            generalize decD 3 X = D at *
            obtain ⟨D0, D1, D2, D3, D4, D5, D6⟩ := D
            clear HR2 HR3 hwk hpl hx h5 h6 h7
            go_enter Try.func108, Try.ntmps108
            go_wp2_with fail
            refine (HI.out _ _ (by repeat (first | exact HV.out | apply rd_more | apply rd_alloc | apply rd_drew | apply rd_drewN)) _ (by simp; omega) (by simp [go_sem])).mono ?_
            rintro e w' ⟨⟨ex1, rfl⟩, rfl⟩
            go_wp2_with fail
            go_region_held3 (fun w' => w'.cell? ⟨fb, fo + q * 2 + 1, none⟩ = some (.int .i64 rf) ∧ w'.cell? ⟨w.heap.size, 1, none⟩ = some (.int .i64 page)) (first | (go_simp; done) | (dsimp only; refine ⟨?_, ?_⟩ <;> go_simp))
              ((go_at_call 97; refine (HWk.out _ (by repeat (first | exact HM.out | apply MemAt.more | apply MemAt.alloc | apply MemAt.drew | apply MemAt.drewN))).mono ?_; rintro e w' ⟨⟨ex2, rfl⟩, rfl⟩))
            all_goals
              go_wp2_with fail
              refine (HL.out _ (by repeat (first | exact HM.out | apply MemAt.more | apply MemAt.alloc | apply MemAt.drew | apply MemAt.drewN))).mono ?_
              rintro e w' ⟨rfl, hww⟩
              subst w'
              go_wp2_with fail
              refine (HDc.out _).mono ?_
              rintro e w' ⟨⟨ex3, rfl⟩, rfl⟩
              go_wp2_with fail
              refine bodyPost_ret (results_ct rfl _ _ (w.heap.size + 1) 130 _ (0, 0) _ rfl (by repeat (first | (with_reducible exact heap_alloc_at _ _ (by simp)) | (with_reducible apply box_more) | (with_reducible apply box_alloc) | (with_reducible apply box_drew) | (with_reducible apply box_drewN))) Try.underlying130 rfl (by kernel_rfl)) rfl ?_
              exact ⟨(by repeat (first | exact Ext.refl _ | apply Ext.more | apply Ext.alloc | apply Ext.drew | apply Ext.drewN)), by rw [HV1.out]; rfl⟩
          · have HV1 := Lib.hid (show R = .no 7 from by rw [← HR3.out, hwk]; unfold findW; dsimp only; rw [if_neg hok])
            have hb : (f.fKind != 3) = true ∨ ((f.fKind != 3) = false ∧ (f.fOrder != 0) = true) ∨ ((f.fKind != 3) = false ∧ (f.fOrder != 0) = false ∧ (f.fFrame != frm) = true) := by
              by_cases h1 : f.fKind = 3
              · by_cases h2 : f.fOrder = 0
                · have h3 : f.fFrame ≠ frm := fun h => hok ⟨h1, h2, h⟩
                  exact .inr (.inr ⟨by simpa using h1, by simpa using h2, by simpa using h3⟩)
                · exact .inr (.inl ⟨by simpa using h1, by simpa using h2⟩)
              · exact .inl (by simpa using h1)
            rw [hwk] at HWk
            obtain ⟨F0, F1, F2, F3, F4, F5, F6, F7, F8, F9, F10⟩ := f
            dsimp only at hb
            rw [walkV_s] at HWk
            clear HR2 HR3 hwk hok
            rcases hb with b1 | ⟨b1, b2⟩ | ⟨b1, b2, b3⟩
            all_goals
              go_enter Try.func108, Try.ntmps108
              go_wp2_with fail
              refine (HI.out _ _ (by repeat (first | exact HV.out | apply rd_more | apply rd_alloc | apply rd_drew | apply rd_drewN)) _ (by simp; omega) (by simp [go_sem])).mono ?_
              rintro e w' ⟨⟨ex1, rfl⟩, rfl⟩
              go_wp2_with fail
              go_region_held3 (fun w' => w'.cell? ⟨fb, fo + q * 2 + 1, none⟩ = some (.int .i64 rf) ∧ w'.cell? ⟨w.heap.size, 1, none⟩ = some (.int .i64 page)) (first | (go_simp; done) | (dsimp only; refine ⟨?_, ?_⟩ <;> go_simp))
                ((go_at_call 97; refine (HWk.out _ (by repeat (first | exact HM.out | apply MemAt.more | apply MemAt.alloc | apply MemAt.drew | apply MemAt.drewN))).mono ?_; rintro e w' ⟨⟨ex2, rfl⟩, rfl⟩))
              all_goals
                go_wp2_with fail
                refine bodyPost_ret (results_ct rfl _ _ (w.heap.size + 1) 130 _ (0, 0) _ rfl (by repeat (first | (with_reducible exact heap_alloc_at _ _ (by simp)) | (with_reducible apply box_more) | (with_reducible apply box_alloc) | (with_reducible apply box_drew) | (with_reducible apply box_drewN))) Try.underlying130 rfl (by kernel_rfl)) rfl ?_
                exact ⟨(by repeat (first | exact Ext.refl _ | apply Ext.more | apply Ext.alloc | apply Ext.drew | apply Ext.drewN)), by rw [HV1.out]; rfl⟩
      · have HV1 := Lib.hid (show R = .no 1 from ((if_neg hin).symm.trans HR2.out).symm)
        have HWk := Lib.hid (fun w (hm : MemAt w b g n c ws) => extC (walk_Walk_no w hm rf page hin))
        clear HR2 hin
        go_enter Try.func108, Try.ntmps108
        go_wp2_with fail
        refine (HI.out _ _ (by repeat (first | exact HV.out | apply rd_more | apply rd_alloc | apply rd_drew | apply rd_drewN)) _ (by simp; omega) (by simp [go_sem])).mono ?_
        rintro e w' ⟨⟨ex1, rfl⟩, rfl⟩
        go_wp2_with fail
        go_region_held3 (fun w' => w'.cell? ⟨fb, fo + q * 2 + 1, none⟩ = some (.int .i64 rf) ∧ w'.cell? ⟨w.heap.size, 1, none⟩ = some (.int .i64 page)) (first | (go_simp; done) | (dsimp only; refine ⟨?_, ?_⟩ <;> go_simp))
          ((go_at_call 97; refine (HWk.out _ (by repeat (first | exact HM.out | apply MemAt.more | apply MemAt.alloc | apply MemAt.drew | apply MemAt.drewN))).mono ?_; rintro e w' ⟨⟨ex2, rfl⟩, rfl⟩))
        all_goals
          go_wp2_with fail
          refine bodyPost_ret (results_ct rfl _ _ (w.heap.size + 1) 130 _ (0, 0) _ rfl (by repeat (first | (with_reducible exact heap_alloc_at _ _ (by simp)) | (with_reducible apply box_more) | (with_reducible apply box_alloc) | (with_reducible apply box_drew) | (with_reducible apply box_drewN))) Try.underlying130 rfl (by kernel_rfl)) rfl ?_
          exact ⟨(by repeat (first | exact Ext.refl _ | apply Ext.more | apply Ext.alloc | apply Ext.drew | apply Ext.drewN)), by rw [HV1.out]; rfl⟩

end Go.Proofs.Ythcdecgecabgaaa
