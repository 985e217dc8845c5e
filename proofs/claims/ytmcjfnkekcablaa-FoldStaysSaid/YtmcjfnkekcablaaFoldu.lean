/- The law paviorlaw17.FoldSteps. -/
import Derived.Test.YtmcjfnkekcablaaFoldt
import Derived.Test.YtmcjfnkekcablaaFoldn
import Derived.Test.YtmcjfnkekcablaaSame
namespace Go.Proofs.Ytmcjfnkekcablaa
open Go.RowKit
set_option linter.unusedVariables false
set_option linter.unusedSimpArgs false
attribute [local go_sem] setCell_drewN alloc_drewN lt_moreE le_moreE lt_moreK le_moreK cell_more frozen_more set_more drew_more drewN_more

theorem foldR_n (ws : List Int) (asid first : Int) (may : List Found → Bool) (b : Bool) : foldR ws asid first may b none = .no 2 := rfl
theorem foldR_a {ws : List Int} {asid first : Int} {may : List Found → Bool} {b : Bool} {s : List Found} (h : asid < 0 ∨ 255 < asid) : foldR ws asid first may b (some s) = .no 1 := by unfold foldR; dsimp only; rw [if_pos h]
theorem foldR_y {ws : List Int} {asid first : Int} {may : List Found → Bool} {b : Bool} {s : List Found} (h : ¬ (asid < 0 ∨ 255 < asid)) (hm : may s = true) : foldR ws asid first may b (some s) = .yes (anewL ws s asid first b) := by unfold foldR; dsimp only; rw [if_neg h]; exact if_pos hm
theorem foldR_f {ws : List Int} {asid first : Int} {may : List Found → Bool} {b : Bool} {s : List Found} (h : ¬ (asid < 0 ∨ 255 < asid)) (hm : may s = false) : foldR ws asid first may b (some s) = .no 7 := by unfold foldR; dsimp only; rw [if_neg h]; exact if_neg (fun h => Bool.noConfusion (hm.symm.trans h))

theorem fold_FoldR (w : World) {b g n c : Nat} {ws : List Int} (hm : MemAt w b g n c ws) (hw : WOk ws) (root asid page : Int) (h0 : 0 ≤ root) (h1 : root < n) (p0 : 0 ≤ page) (p1 : page < 4096) (r : Option (List Found)) (hr : runN ws n root (page - page % 4) 4 = r) (R : StepsR) (hR : foldR ws asid (page - page % 4) mayB true r = R) :
    Calls Try.prog 22 #[.pointer (some ⟨b, 0, none⟩), .int .i64 root, .int .i64 asid, .int .i64 page] w fun e w' => Ext w w' ∧ StepsRet w.heap.size w' R e := hR ▸ fold_Fold w hm hw root asid page h0 h1 p0 p1 r hr
theorem fold_UnfoldR (w : World) {b g n c : Nat} {ws : List Int} (hm : MemAt w b g n c ws) (hw : WOk ws) (root asid page : Int) (h0 : 0 ≤ root) (h1 : root < n) (p0 : 0 ≤ page) (p1 : page < 4096) (r : Option (List Found)) (hr : runN ws n root (page - page % 4) 4 = r) (R : StepsR) (hR : foldR ws asid (page - page % 4) (fun l => alikeB l 2) false r = R) :
    Calls Try.prog 23 #[.pointer (some ⟨b, 0, none⟩), .int .i64 root, .int .i64 asid, .int .i64 page] w fun e w' => Ext w w' ∧ StepsRet w.heap.size w' R e := hR ▸ fold_Unfold w hm hw root asid page h0 h1 p0 p1 r hr
/-- Four pages are not folded and unfolded. -/
theorem not_both {s : List Found} (h : mayB s = true) (hl : s.length = 4) : alikeB s 2 = false := by
  simp only [mayB, Bool.and_eq_true] at h
  have hz : s[0]? = some s[0] := List.getElem?_eq_getElem (by omega)
  have h1 := alikeB_at h.1 hz
  simp only [likeB, Bool.and_eq_true, beq_iff_eq] at h1
  refine alikeB_no hz ?_
  simp [likeB, h1.1.1.1.2]

set_option maxRecDepth 100000 in
set_option maxHeartbeats 8000000 in
theorem law17_FoldSteps (w : World) (fr : Int) (hfr : (Lit.int .i64 fr).wf = true) (l : List Laid) (hl : ∀ d ∈ l, d.wf) (v : Value) (hv : SlRd w v 3 (l.map Laid.cells)) (root : Int) (_ : (Lit.int .i64 root).wf = true) (asid : Int) (_ : (Lit.int .i64 asid).wf = true) (page : Int) (_ : (Lit.int .i64 page).wf = true) :
    Calls Try.prog 4 #[.int .i64 fr, v, .int .i64 root, .int .i64 asid, .int .i64 page] w fun e w' => e = .returned (.bool true) ∧ w.grownBy w' none := by
  refine growC (R := fun e _ => e = .returned (.bool true)) ?_
  have hw := WOk_layW (layN fr) l hl
  have HL := Lib.hid hl
  have HV := Lib.hid hv
  have HR := Lib.hid hfr
  have heq := fun (w : World) => eql_err w 1 1
  have heq7 := fun (w : World) => eql_err w 7 7
  clear hl hv hfr
  go_enter Try.func4, Try.ntmps4
  go_wp2_with fail
  refine (law17_up _).mono ?_
  rintro e w1 ⟨⟨ex1, rfl⟩, rfl⟩
  go_wp2_with fail
  refine (lay_ext _ fr HR.out l HL.out v (by repeat (first | exact HV.out | apply rd_more | apply rd_alloc | apply rd_drew | apply rd_drewN))).mono ?_
  rintro e w2 ⟨b, g, h, hc, gb, gc, rfl, hm2, hr2, hE⟩
  have hE2 : Ext w w2 := Ext.trans (by repeat (first | exact Ext.refl _ | apply Ext.more | apply Ext.alloc | apply Ext.drew | apply Ext.drewN)) hE
  have HM := Lib.hid hm2
  have HRF := Lib.hid hr2
  have HE2 := Lib.hid hE2
  clear HL HV HR hE hE2 hr2
  generalize layW (layN fr) l = ws at *
  generalize layN fr = n at *
  clear hm2
  by_cases hin : 0 ≤ root ∧ root < n ∧ 0 ≤ page ∧ page < 4096
  · obtain ⟨r0, r1, p0, p1⟩ := hin
    have hfp : 0 ≤ page - page % 4 ∧ (page - page % 4) + (4 : Nat) ≤ 4096 := by omega
    cases hres : runN ws n root (page - page % 4) 4 with
    | none =>
      have HT := Lib.hid (fun w (hm : MemAt w b g n n ws) => fold_Fold w hm hw root asid page r0 r1 p0 p1 _ hres)
      have HI := Lib.hid (fun w (hm : MemAt w b g n n ws) => fold_Unfold w hm hw root asid page r0 r1 p0 p1 _ hres)
      have HQ := Lib.hid (fun w (hr : RefAt w h hc n gb gc ws) => ref17_Run w hr hw root page p0 p1 _ hres)
      clear hres hw
      go_wp2_with fail
      refine (HT.out _ (by repeat (first | exact HM.out | apply MemAt.more | apply MemAt.alloc | apply MemAt.drew | apply MemAt.drewN))).mono ?_
      rintro e w' ⟨⟨ex2, rfl⟩, rfl⟩
      go_wp2_with fail
      refine (HI.out _ (by repeat (first | exact HM.out | apply MemAt.more | apply MemAt.alloc | apply MemAt.drew | apply MemAt.drewN))).mono ?_
      rintro e w' ⟨⟨ex3, rfl⟩, rfl⟩
      go_wp2_with fail
      refine (HQ.out _ (by repeat (first | exact HRF.out | apply RefAt.more | apply RefAt.alloc | apply RefAt.drew | apply RefAt.drewN))).mono ?_
      rintro e w' ⟨⟨ex4, rfl⟩, rfl⟩
      go_wp2_with fail
      refine (law00_Code _ 2 (by omega) (by omega)).mono ?_
      rintro e w' ⟨rfl, hww⟩
      rw [hww]
      clear hww w'
      go_wp2_with fail
      refine (law00_Code _ 2 (by omega) (by omega)).mono ?_
      rintro e w' ⟨rfl, hww⟩
      rw [hww]
      clear hww w'
      go_wp2_with fail
      go_ret
      exact ⟨(by repeat (first | exact HE2.out | apply Ext.more | apply Ext.alloc | apply Ext.drew | apply Ext.drewN)), rfl⟩
    | some s =>
      have hlen := Lib.hid (runN_len _ _ hres)
      have HB := Lib.hid (walk_frames hres hfp.1 hfp.2)
      have HO := Lib.hid (run_orders hres)
      have HQ := Lib.hid (fun w (hr : RefAt w h hc n gb gc ws) => ref17_Run w hr hw root page p0 p1 _ hres)
      have HTR := Lib.hid (fun R hR w (hm : MemAt w b g n n ws) => fold_FoldR w hm hw root asid page r0 r1 p0 p1 _ hres R hR)
      have HIR := Lib.hid (fun R hR w (hm : MemAt w b g n n ws) => fold_UnfoldR w hm hw root asid page r0 r1 p0 p1 _ hres R hR)
      by_cases ha : asid < 0 ∨ 255 < asid
      · have HT := Lib.hid (HTR.out _ (foldR_a ha))
        have HI := Lib.hid (HIR.out _ (foldR_a ha))
        clear hres hw HTR HIR HB HO hlen
        go_wp2_with fail
        refine (HT.out _ (by repeat (first | exact HM.out | apply MemAt.more | apply MemAt.alloc | apply MemAt.drew | apply MemAt.drewN))).mono ?_
        rintro e w' ⟨⟨ex2, rfl⟩, rfl⟩
        go_wp2_with fail
        refine (HI.out _ (by repeat (first | exact HM.out | apply MemAt.more | apply MemAt.alloc | apply MemAt.drew | apply MemAt.drewN))).mono ?_
        rintro e w' ⟨⟨ex3, rfl⟩, rfl⟩
        go_wp2_with fail
        refine (HQ.out _ (by repeat (first | exact HRF.out | apply RefAt.more | apply RefAt.alloc | apply RefAt.drew | apply RefAt.drewN))).mono ?_
        rintro e w3 ⟨hE3, a, cap, rfl, hO⟩
        have HE3 := Lib.hid (HE2.out.trans (Ext.trans (by repeat (first | exact Ext.refl _ | apply Ext.more | apply Ext.alloc | apply Ext.drew | apply Ext.drewN)) hE3))
        clear hE3 hO HQ HT HI
        rcases ha with ha | ha
        · go_wp2_with fail
          go_ret
          exact ⟨(by repeat (first | exact HE3.out | apply Ext.more | apply Ext.alloc | apply Ext.drew | apply Ext.drewN)), rfl⟩
        · have ha' : 0 ≤ asid := by omega
          go_wp2_with fail
          go_ret
          exact ⟨(by repeat (first | exact HE3.out | apply Ext.more | apply Ext.alloc | apply Ext.drew | apply Ext.drewN)), rfl⟩
      · have ha' : 0 ≤ asid ∧ asid ≤ 255 := by omega
        obtain ⟨ha0, ha1⟩ := ha'
        cases hmay : mayB s with
        | true =>
          have his := not_both hmay hlen.out
          have HT := Lib.hid (HTR.out _ (foldR_y ha hmay))
          have HI := Lib.hid (HIR.out _ (foldR_f ha his))
          have HG := Lib.hid (fun f hf => run_good hres f hf (mayB_kinds hmay f hf))
          have HN := Lib.hid (fun w (hr : RefAt w h hc n gb gc ws) B cap a hO => ref17_Anew w hr hw (B := B) (cap := cap) (a := a) (s := s) hO hlen.out HG.out asid page true p0 p1)
          have hll : (anewL ws s asid (page - page % 4) true).length = 12 := by have := hlen.out; simp [anewL, goneL_len, toldL_len, backL_len]; omega
          generalize anewL ws s asid (page - page % 4) true = L at *
          have hl0 : ((L.length : Int) == 0) = false := by rw [hll]; rfl
          have hl1 : 12 ≤ L.length := by omega
          have hl2 : L.length ≤ 12 := by omega
          have HA1 := Lib.hid (fun w B cap a HO' => ref17_Alike w (B := B) (cap := cap) (a := a) (l := s) HO' false hlen.out HB.out HO.out true (by exact hmay))
          have HA2 := Lib.hid (fun w B cap a HO' => ref17_Alike w (B := B) (cap := cap) (a := a) (l := s) HO' true hlen.out HB.out HO.out false (by exact his))
          clear hres hw HTR HIR hmay his ha hll
          go_wp2_with fail
          refine (HT.out _ (by repeat (first | exact HM.out | apply MemAt.more | apply MemAt.alloc | apply MemAt.drew | apply MemAt.drewN))).mono ?_
          rintro e w' ⟨⟨x3, rfl⟩, a1, c1, rfl, hO1⟩
          have HO1 := Lib.hid hO1
          clear hO1
          go_wp2_with fail
          refine (HI.out _ (by repeat (first | exact HM.out | apply MemAt.more | apply MemAt.alloc | apply MemAt.drew | apply MemAt.drewN))).mono ?_
          rintro e w' ⟨⟨x4, rfl⟩, rfl⟩
          go_wp2_with fail
          refine (HQ.out _ (by repeat (first | exact HRF.out | apply RefAt.more | apply RefAt.alloc | apply RefAt.drew | apply RefAt.drewN))).mono ?_
          rintro e w' ⟨⟨x5, rfl⟩, a, cap, rfl, hO⟩
          have HO2 := Lib.hid hO
          clear hO HT HI HQ
          go_wp2_with fail
          refine (HA1.out _ _ _ _ (by repeat (first | exact HO2.out | apply own_more | apply own_alloc | apply own_drew | apply own_drewN))).mono ?_
          rintro e w' ⟨⟨x6, rfl⟩, rfl⟩
          go_wp2_with fail
          refine (HA2.out _ _ _ _ (by repeat (first | exact HO2.out | apply own_more | apply own_alloc | apply own_drew | apply own_drewN))).mono ?_
          rintro e w' ⟨⟨x7, rfl⟩, rfl⟩
          go_wp2_with fail
          refine (HN.out _ (by repeat (first | exact HRF.out | apply RefAt.more | apply RefAt.alloc | apply RefAt.drew | apply RefAt.drewN)) _ _ _ (by repeat (first | exact HO2.out | apply own_more | apply own_alloc | apply own_drew | apply own_drewN))).mono ?_
          rintro e w' ⟨⟨x8, rfl⟩, a2, c2, rfl, hO3⟩
          have HO3 := Lib.hid hO3
          clear hO3
          go_wp2_with fail
          refine (ref12_Same _ (by repeat (first | exact HO1.out | apply own_more | apply own_alloc | apply own_drew | apply own_drewN)) (by repeat (first | exact HO3.out | apply own_more | apply own_alloc | apply own_drew | apply own_drewN))).mono ?_
          rintro e w' ⟨⟨x9, rfl⟩, rfl⟩
          go_wp2_with fail
          go_ret
          exact ⟨(by repeat (first | exact HE2.out | apply Ext.more | apply Ext.alloc | apply Ext.drew | apply Ext.drewN)), rfl⟩
        | false =>
          cases his : alikeB s 2 with
          | true =>
            have HT := Lib.hid (HTR.out _ (foldR_f ha hmay))
            have HI := Lib.hid (HIR.out _ (foldR_y ha his))
            have HG := Lib.hid (fun f hf => run_good hres f hf (alikeB_kinds his f hf))
            have HN := Lib.hid (fun w (hr : RefAt w h hc n gb gc ws) B cap a hO => ref17_Anew w hr hw (B := B) (cap := cap) (a := a) (s := s) hO hlen.out HG.out asid page false p0 p1)
            have hll : (anewL ws s asid (page - page % 4) false).length = 12 := by have := hlen.out; simp [anewL, goneL_len, toldL_len, backL_len]; omega
            generalize anewL ws s asid (page - page % 4) false = L at *
            have hl0 : ((L.length : Int) == 0) = false := by rw [hll]; rfl
            have hl1 : 12 ≤ L.length := by omega
            have hl2 : L.length ≤ 12 := by omega
            have HA1 := Lib.hid (fun w B cap a HO' => ref17_Alike w (B := B) (cap := cap) (a := a) (l := s) HO' false hlen.out HB.out HO.out false (by exact hmay))
            have HA2 := Lib.hid (fun w B cap a HO' => ref17_Alike w (B := B) (cap := cap) (a := a) (l := s) HO' true hlen.out HB.out HO.out true (by exact his))
            clear hres hw HTR HIR hmay his ha hll
            go_wp2_with fail
            refine (HT.out _ (by repeat (first | exact HM.out | apply MemAt.more | apply MemAt.alloc | apply MemAt.drew | apply MemAt.drewN))).mono ?_
            rintro e w' ⟨⟨x3, rfl⟩, rfl⟩
            go_wp2_with fail
            refine (HI.out _ (by repeat (first | exact HM.out | apply MemAt.more | apply MemAt.alloc | apply MemAt.drew | apply MemAt.drewN))).mono ?_
            rintro e w' ⟨⟨x4, rfl⟩, a1, c1, rfl, hO1⟩
            have HO1 := Lib.hid hO1
            clear hO1
            go_wp2_with fail
            refine (HQ.out _ (by repeat (first | exact HRF.out | apply RefAt.more | apply RefAt.alloc | apply RefAt.drew | apply RefAt.drewN))).mono ?_
            rintro e w' ⟨⟨x5, rfl⟩, a, cap, rfl, hO⟩
            have HO2 := Lib.hid hO
            clear hO HT HI HQ
            go_wp2_with fail
            refine (HA1.out _ _ _ _ (by repeat (first | exact HO2.out | apply own_more | apply own_alloc | apply own_drew | apply own_drewN))).mono ?_
            rintro e w' ⟨⟨x6, rfl⟩, rfl⟩
            go_wp2_with fail
            refine (HA2.out _ _ _ _ (by repeat (first | exact HO2.out | apply own_more | apply own_alloc | apply own_drew | apply own_drewN))).mono ?_
            rintro e w' ⟨⟨x7, rfl⟩, rfl⟩
            go_wp2_with fail
            refine (HN.out _ (by repeat (first | exact HRF.out | apply RefAt.more | apply RefAt.alloc | apply RefAt.drew | apply RefAt.drewN)) _ _ _ (by repeat (first | exact HO2.out | apply own_more | apply own_alloc | apply own_drew | apply own_drewN))).mono ?_
            rintro e w' ⟨⟨x8, rfl⟩, a2, c2, rfl, hO3⟩
            have HO3 := Lib.hid hO3
            clear hO3
            go_wp2_with fail
            refine (ref12_Same _ (by repeat (first | exact HO1.out | apply own_more | apply own_alloc | apply own_drew | apply own_drewN)) (by repeat (first | exact HO3.out | apply own_more | apply own_alloc | apply own_drew | apply own_drewN))).mono ?_
            rintro e w' ⟨⟨x9, rfl⟩, rfl⟩
            go_wp2_with fail
            go_ret
            exact ⟨(by repeat (first | exact HE2.out | apply Ext.more | apply Ext.alloc | apply Ext.drew | apply Ext.drewN)), rfl⟩
          | false =>
            have HT := Lib.hid (HTR.out _ (foldR_f ha hmay))
            have HI := Lib.hid (HIR.out _ (foldR_f ha his))
            have HA1 := Lib.hid (fun w B cap a HO' => ref17_Alike w (B := B) (cap := cap) (a := a) (l := s) HO' false hlen.out HB.out HO.out false (by exact hmay))
            have HA2 := Lib.hid (fun w B cap a HO' => ref17_Alike w (B := B) (cap := cap) (a := a) (l := s) HO' true hlen.out HB.out HO.out false (by exact his))
            clear hres hw HTR HIR hmay his ha
            go_wp2_with fail
            refine (HT.out _ (by repeat (first | exact HM.out | apply MemAt.more | apply MemAt.alloc | apply MemAt.drew | apply MemAt.drewN))).mono ?_
            rintro e w' ⟨⟨x3, rfl⟩, rfl⟩
            go_wp2_with fail
            refine (HI.out _ (by repeat (first | exact HM.out | apply MemAt.more | apply MemAt.alloc | apply MemAt.drew | apply MemAt.drewN))).mono ?_
            rintro e w' ⟨⟨x4, rfl⟩, rfl⟩
            go_wp2_with fail
            refine (HQ.out _ (by repeat (first | exact HRF.out | apply RefAt.more | apply RefAt.alloc | apply RefAt.drew | apply RefAt.drewN))).mono ?_
            rintro e w' ⟨⟨x5, rfl⟩, a, cap, rfl, hO⟩
            have HO2 := Lib.hid hO
            clear hO HT HI HQ
            go_wp2_with fail
            refine (HA1.out _ _ _ _ (by repeat (first | exact HO2.out | apply own_more | apply own_alloc | apply own_drew | apply own_drewN))).mono ?_
            rintro e w' ⟨⟨x6, rfl⟩, rfl⟩
            go_wp2_with fail
            refine (HA2.out _ _ _ _ (by repeat (first | exact HO2.out | apply own_more | apply own_alloc | apply own_drew | apply own_drewN))).mono ?_
            rintro e w' ⟨⟨x7, rfl⟩, rfl⟩
            go_wp2_with fail
            go_ret
            exact ⟨(by repeat (first | exact HE2.out | apply Ext.more | apply Ext.alloc | apply Ext.drew | apply Ext.drewN)), rfl⟩
  · have HT := Lib.hid (fun w (hm : MemAt w b g n n ws) => fold_Fold_no w hm root asid page hin)
    have HI := Lib.hid (fun w (hm : MemAt w b g n n ws) => fold_Unfold_no w hm root asid page hin)
    have hin' : root < 0 ∨ (0 ≤ root ∧ (n : Int) ≤ root) ∨ (0 ≤ root ∧ root < n ∧ page < 0) ∨ (0 ≤ root ∧ root < n ∧ 0 ≤ page ∧ 4095 < page) := by omega
    clear hin hw
    go_wp2_with fail
    refine (HT.out _ (by repeat (first | exact HM.out | apply MemAt.more | apply MemAt.alloc | apply MemAt.drew | apply MemAt.drewN))).mono ?_
    rintro e w' ⟨⟨ex2, rfl⟩, rfl⟩
    go_wp2_with fail
    refine (HI.out _ (by repeat (first | exact HM.out | apply MemAt.more | apply MemAt.alloc | apply MemAt.drew | apply MemAt.drewN))).mono ?_
    rintro e w' ⟨⟨ex3, rfl⟩, rfl⟩
    rcases hin' with hh | ⟨h1, h2⟩ | ⟨h1, h2, h3⟩ | ⟨h1, h2, h3, h4⟩
    all_goals
      go_wp2_with fail
      go_ret
      exact ⟨(by repeat (first | exact HE2.out | apply Ext.more | apply Ext.alloc | apply Ext.drew | apply Ext.drewN)), rfl⟩

end Go.Proofs.Ytmcjfnkekcablaa
