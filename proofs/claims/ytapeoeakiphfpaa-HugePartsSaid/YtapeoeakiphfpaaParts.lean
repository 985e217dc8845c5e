import Derived.Test.YtapeoeakiphfpaaHugp
import Derived.Test.YtapeoeakiphfpaaUnl
import Derived.Test.YtapeoeakiphfpaaWata
import Derived.Test.YtapeoeakiphfpaaBFitsHugeHugfHugs
/- The law paviorlaw16.HugeParts. -/
namespace Go.Proofs.Ytapeoeakiphfpaa
open Go.RowKit
set_option linter.unusedVariables false
set_option linter.unusedSimpArgs false
attribute [local go_sem] setCell_drewN alloc_drewN lt_moreE le_moreE lt_moreK le_moreK cell_more frozen_more set_more drew_more drewN_more

/-- What Split tells of any arguments. -/
theorem split_any (n : Nat) (ws : List Int) (hw : WOk ws) (root asid page fresh : Int) : ∃ R : StepsR, (∀ s, R = .yes s → HasP n root asid page fresh ∧ ∃ f, walkAt ws n page 4 0 root = some f ∧ f.fKind = 2 ∧ s = splitS asid fresh f (decD 2 (wordF ws f))) ∧
    ∀ (w : World) (b g c : Nat), MemAt w b g n c ws → Calls Try.prog 42 #[.pointer (some ⟨b, 0, none⟩), .int .i64 root, .int .i64 asid, .int .i64 page, .int .i64 fresh] w fun e w' => Ext w w' ∧ StepsRet w.heap.size w' R e := by
  by_cases h : HasP n root asid page fresh
  · refine ⟨splitR ws asid fresh (walkAt ws n page 4 0 root), fun s hs => ?_, fun w b g c hm => huge_Split w hm hw root asid page fresh h _ rfl⟩
    refine ⟨h, ?_⟩
    cases hr : walkAt ws n page 4 0 root with
    | none => rw [hr] at hs; cases hs
    | some f =>
      rw [hr] at hs
      unfold splitR at hs
      dsimp only at hs
      split at hs
      · rename_i hk
        injection hs with hs
        exact ⟨f, rfl, hk, hs.symm⟩
      · cases hs
  · exact ⟨.no 1, fun s hs => (by cases hs), fun w b g c hm => huge_Split_no w hm root asid page fresh h⟩

set_option maxRecDepth 100000 in
set_option maxHeartbeats 8000000 in
theorem law16_HugeParts (w : World) (fr : Int) (hfr : (Lit.int .i64 fr).wf = true) (l : List Laid) (hl : ∀ d ∈ l, d.wf) (v : Value) (hv : SlRd w v 3 (l.map Laid.cells)) (root : Int) (_ : (Lit.int .i64 root).wf = true) (asid : Int) (_ : (Lit.int .i64 asid).wf = true) (page : Int) (_ : (Lit.int .i64 page).wf = true) (fresh : Int) (_ : (Lit.int .i64 fresh).wf = true) :
    Calls Try.prog 7 #[.int .i64 fr, v, .int .i64 root, .int .i64 asid, .int .i64 page, .int .i64 fresh] w fun e w' => e = .returned (.bool true) ∧ w.grownBy w' none := by
  refine growC (R := fun e _ => e = .returned (.bool true)) ?_
  have hw := WOk_layW (layN fr) l hl
  have hn1 := layN_lo fr
  have hn2 := layN_hi fr
  have HL := Lib.hid hl
  have HV := Lib.hid hv
  have HR := Lib.hid hfr
  have HW := Lib.hid hw
  clear hl hv hfr hw
  go_enter Try.func7, Try.ntmps7
  go_wp2_with fail
  refine (law16_up _).mono ?_
  rintro e w1 ⟨⟨ex1, rfl⟩, rfl⟩
  go_wp2_with fail
  refine (lay_ext _ fr HR.out l HL.out v (by repeat (first | exact HV.out | apply rd_more | apply rd_alloc | apply rd_drew | apply rd_drewN))).mono ?_
  rintro e w2 ⟨b, g, h, hc, gb, gc, rfl, hm2, hr2, hE⟩
  have hE2 : Ext w w2 := Ext.trans (by repeat (first | exact Ext.refl _ | apply Ext.more | apply Ext.alloc | apply Ext.drew | apply Ext.drewN)) hE
  have HM := Lib.hid hm2
  have HRF := Lib.hid hr2
  have HE2 := Lib.hid hE2
  clear HL HV HR hE hE2 hr2 hm2
  generalize layW (layN fr) l = ws at *
  generalize layN fr = n at *
  obtain ⟨R, hR, hC⟩ := split_any n ws HW.out root asid page fresh
  have HC := Lib.hid hC
  have HRR := Lib.hid hR
  clear hC hR
  go_wp2_with fail
  refine (HC.out _ _ _ _ (by repeat (first | exact HM.out | apply MemAt.more | apply MemAt.alloc | apply MemAt.drew | apply MemAt.drewN))).mono ?_
  rintro e w3 ⟨hE3, hq⟩
  have HE3 := Lib.hid (HE2.out.trans hE3)
  have HRF3 := Lib.hid (HRF.out.kept0 hE3.grow)
  clear hE3 HM HRF HE2 HC
  cases R with
  | no k =>
    obtain rfl := hq
    clear HRF3 HRR
    go_wp2_with fail
    go_ret
    exact ⟨(by repeat (first | exact HE3.out | apply Ext.more | apply Ext.alloc | apply Ext.drew | apply Ext.drewN)), rfl⟩
  | yes s =>
    obtain ⟨sa, scap, rfl, hos⟩ := hq
    obtain ⟨hhas, f, hf, hfk, rfl⟩ := HRR.out s rfl
    obtain ⟨r0, r1, p0, p1, f0, f1, a0, a1⟩ := hhas
    have HOs := Lib.hid hos
    have HF := Lib.hid hf
    have hsl : (splitS asid fresh f (decD 2 (wordF ws f))).length ≤ 19 := by rw [splitS_len]; omega
    have HFK := Lib.hid hfk
    clear hos hf hfk HRR
    generalize hs : splitS asid fresh f (decD 2 (wordF ws f)) = s at *
    have HS := Lib.hid hs
    clear hs
    go_wp2_with fail
    have HRd : SlRd (w3.alloc (.cells #[.int .i64 fresh] 3)) (.slice (some ⟨w3.heap.size, 0, none⟩) 1 1) 1 ([fresh].map intCells) := .inr ⟨w3.heap.size, 0, none, 1, rfl, Nat.le_refl _, (by unfold maxLen; omega), fun i c j u hi hj => by
      have hi0 : i = 0 := by have := (List.getElem?_eq_some_iff.1 hi).1; simpa using this
      subst hi0
      simp [intCells] at hi
      subst hi
      have hj0 : j = 0 := by have := (List.getElem?_eq_some_iff.1 hj).1; simpa using this
      subst hj0
      simp at hj
      subst hj
      exact ⟨rfl, by rw [cell_of_row _ _ _ _ _ _ (heap_alloc_new w3 _)]; rfl⟩⟩
    have HUn := law16_unlike _ (HRF3.out.alloc (.cells #[.int .i64 fresh] 3)) HW.out root r0 r1 [fresh] _ HRd (show 1 ≤ 1000 by omega)
    with_reducible refine HUn.mono ?_
    rintro e w4 ⟨hE4, bb, rfl, hbb⟩
    clear HUn HRd
    have HE4 := Lib.hid (HE3.out.trans (Ext.trans (show Ext w3 (w3.alloc (.cells #[.int .i64 fresh] 3)) from (Ext.refl w3).alloc _) hE4))
    have HRF4 := Lib.hid ((HRF3.out.alloc (.cells #[.int .i64 fresh] 3)).kept0 hE4.grow)
    have HOs4 := Lib.hid (own_ext (own_alloc HOs.out (.cells #[.int .i64 fresh] 3)) hE4)
    have HBB := Lib.hid hbb
    clear hE4 hbb HE3 HRF3 HOs
    cases bb with
    | false =>
      clear HRF4 HOs4 HBB
      go_wp2_with fail
      go_ret
      exact ⟨(by repeat (first | exact HE4.out | apply Ext.more | apply Ext.alloc | apply Ext.drew | apply Ext.drewN)), rfl⟩
    | true =>
      obtain ⟨t, hat, hnd⟩ := HBB.out rfl
      have hpl := split_behind (asid := asid) (by omega) HRF4.out.len r0 r1 a0 a1 p0 p1 f0 f1 hat hnd HF.out HFK.out
      rw [HS.out] at hpl
      obtain ⟨hok, hsafe, hwalks⟩ := hpl
      have HSafe := Lib.hid hsafe
      have HWa := Lib.hid hwalks
      have HWU := Lib.hid (WOk_doW _ _ HW.out hok : WOk (doW n ws s))
      clear hat hnd hok hsafe hwalks HBB HF HFK HS
      go_wp2_with fail
      refine (ref12_Copy _ HRF4.out (by omega) (by omega)).mono ?_
      rintro e w5 ⟨hE5, h5, hc5, gb5, gc5, rfl, hr5, hh5, hgb5⟩
      have HDo := Lib.hid (ref12_Do w4 w5 hE5 hr5 hh5 hgb5 (own_ext HOs4.out hE5) (by omega))
      clear hE5 hr5 hh5 hgb5
      go_wp2_with fail
      refine HDo.out.mono ?_
      rintro e w6 ⟨rfl, hE6, _, gb6, gc6, hr6, _⟩
      have HR6 := Lib.hid hr6
      have HR60 := Lib.hid (HRF4.out.kept0 hE6.grow)
      have HE6 := Lib.hid (HE4.out.trans hE6)
      have HOs6 := Lib.hid (own_ext HOs4.out hE6)
      clear hE6 hr6 HDo HOs4 HRF4 HE4
      go_wp2_with fail
      refine (law16_watched _ HR60.out HW.out (by omega) (by omega) HOs6.out (by omega) HSafe.out).mono ?_
      rintro e w7 ⟨hE7, rfl⟩
      have HR7 := Lib.hid (HR6.out.kept0 hE7.grow)
      have HR70 := Lib.hid (HR60.out.kept0 hE7.grow)
      have HE7 := Lib.hid (HE6.out.trans hE7)
      clear hE7 HR6 HR60 HE6 HOs6 HSafe
      generalize doW n ws s = us at *
      go_wp2_with fail
      go_loopw [19, 20, 21, 22, 23] (fun i _ _ _ _ wr => ∃ k : Nat, k ≤ 4096 ∧ i = .int .i64 k ∧ Ext w7 wr) (fun i _ _ _ _ _ => 4096 - (intOf i).toNat)
      case atStart => exact ⟨0, Nat.zero_le _, rfl, Ext.refl _⟩
      case round =>
        obtain ⟨k, hk, rfl, ⟨x, rfl⟩⟩ := hrel
        by_cases hlt : k < 4096
        · obtain ⟨fx, fy, hx, hy, hin, hout⟩ := HWa.out k (by omega) (by omega)
          have HX := Lib.hid (fun w hr => ref04_Walk (w := w) (h := h) (hc := hc) (gb := gb) (gc := gc) hr HW.out root k (by omega) (by omega) _ hx)
          have HY := Lib.hid (fun w hr => ref04_Walk (w := w) (h := h5) (hc := hc5) (gb := gb6) (gc := gc6) hr HWU.out root k (by omega) (by omega) _ hy)
          clear hx hy
          by_cases hkp : (k : Int) / 8 = page / 8
          · obtain ⟨e1, e2, e3, e4, e5⟩ := hin hkp
            obtain ⟨F0, F1, F2, F3, F4, F5, F6, F7, F8, F9, F10⟩ := fx
            obtain ⟨Y0, Y1, Y2, Y3, Y4, Y5, Y6, Y7, Y8, Y9, Y10⟩ := fy
            dsimp only at e1 e2 e3 e4 e5
            subst e1 e2 e3 e4 e5
            have hkb : ((k : Int) / 8 == page / 8) = true := by simpa using hkp
            clear hin hout hkp
            go_wp2_with fail
            refine (HX.out _ (by repeat (first | exact HR70.out | apply RefAt.more | apply RefAt.alloc | apply RefAt.drew | apply RefAt.drewN))).mono ?_
            rintro e w' ⟨⟨ex1, rfl⟩, rfl⟩
            rw [refV_s]
            go_wp2_with fail
            refine (HY.out _ (by repeat (first | exact HR7.out | apply RefAt.more | apply RefAt.alloc | apply RefAt.drew | apply RefAt.drewN))).mono ?_
            rintro e w' ⟨⟨ex2, rfl⟩, rfl⟩
            rw [refV_s]
            go_wp2_with fail
            go_roundw
            case rel => exact ⟨k + 1, by omega, by go_num, (by repeat (first | exact Ext.refl _ | apply Ext.more | apply Ext.alloc | apply Ext.drew | apply Ext.drewN))⟩
            case measure => simp [intOf]; omega
          · have he := hout hkp
            subst he
            obtain ⟨F0, F1, F2, F3, F4, F5, F6, F7, F8, F9, F10⟩ := fy
            have hkb : ((k : Int) / 8 == page / 8) = false := by simpa using hkp
            clear hin hout hkp
            go_wp2_with fail
            refine (HX.out _ (by repeat (first | exact HR70.out | apply RefAt.more | apply RefAt.alloc | apply RefAt.drew | apply RefAt.drewN))).mono ?_
            rintro e w' ⟨⟨ex1, rfl⟩, rfl⟩
            rw [refV_s]
            go_wp2_with fail
            refine (HY.out _ (by repeat (first | exact HR7.out | apply RefAt.more | apply RefAt.alloc | apply RefAt.drew | apply RefAt.drewN))).mono ?_
            rintro e w' ⟨⟨ex2, rfl⟩, rfl⟩
            rw [refV_s]
            go_wp2_with fail
            go_roundw
            case rel => exact ⟨k + 1, by omega, by go_num, (by repeat (first | exact Ext.refl _ | apply Ext.more | apply Ext.alloc | apply Ext.drew | apply Ext.drewN))⟩
            case measure => simp [intOf]; omega
        · obtain rfl : k = 4096 := by omega
          go_wp2_with fail
          go_ret
          exact ⟨(by repeat (first | exact HE7.out | apply Ext.more | apply Ext.alloc | apply Ext.drew | apply Ext.drewN)), rfl⟩

end Go.Proofs.Ytapeoeakiphfpaa
