/- The law paviorlaw17.FoldStays. -/
import Derived.Test.YtmcjfnkekcablaaFoldu
import Derived.Test.YtmcjfnkekcablaaWipe
import Derived.Deep.QuietTactic
import Derived.BigQuiet
namespace Go.Proofs.Ytmcjfnkekcablaa
open Go.RowKit
set_option linter.unusedVariables false
set_option linter.unusedSimpArgs false
attribute [local go_sem] setCell_drewN alloc_drewN lt_moreE le_moreE lt_moreK le_moreK cell_more frozen_more set_more drew_more drewN_more

theorem first_anew (ws : List Int) (l : List Found) (asid first : Int) (b : Bool) (hl : 1 ≤ l.length) : ∀ h : Step, (anewL ws l asid first b)[0]? = some h → h.fKind = 1 := by
  intro h hh
  cases l with
  | nil => simp at hl
  | cons x t => simp [anewL, goneL, List.mapIdx_cons] at hh; rw [← hh]; rfl
theorem first_foldR (ws : List Int) (asid first : Int) (may : List Found → Bool) (b : Bool) (r : Option (List Found)) (hl : ∀ s, r = some s → s.length = 4) : FirstK 1 (foldR ws asid first may b r) := by
  intro s hs
  cases r with
  | none => cases hs
  | some l =>
    have hl := hl l rfl
    unfold foldR at hs
    dsimp only at hs
    split at hs
    · cases hs
    · split at hs
      · cases hs
        exact ⟨by simp [anewL, goneL_len, toldL_len, backL_len]; omega, first_anew _ _ _ _ _ (by omega)⟩
      · cases hs
/-- What Fold and Unfold tell of any root and page. -/
theorem fold_Fold_any (n : Nat) (ws : List Int) (hw : WOk ws) (root asid page : Int) : ∃ k ev, k ≤ 900000 ∧ (ev = .nilIface ∨ ∃ k : Nat, ev = errW k) ∧ ∀ w b g c, MemAt w b g n c ws → Calls Try.prog 22 #[.pointer (some ⟨b, 0, none⟩), .int .i64 root, .int .i64 asid, .int .i64 page] w fun e w' => Ext w w' ∧ Told 1 k ev w.heap.size w' e := by
  by_cases h : 0 ≤ root ∧ root < n ∧ 0 ≤ page ∧ page < 4096
  · obtain ⟨h0, h1, p0, p1⟩ := h
    refine told_any (args := #[.int .i64 root, .int .i64 asid, .int .i64 page]) (first_foldR _ _ _ _ _ _ fun s hs => runN_len _ _ hs) fun w b g c hm => fold_Fold w hm hw root asid page h0 h1 p0 p1 _ rfl
  · refine told_any (args := #[.int .i64 root, .int .i64 asid, .int .i64 page]) (R := .no 1) (fun s hs => (by cases hs)) fun w b g c hm => fold_Fold_no w hm root asid page h
theorem fold_Unfold_any (n : Nat) (ws : List Int) (hw : WOk ws) (root asid page : Int) : ∃ k ev, k ≤ 900000 ∧ (ev = .nilIface ∨ ∃ k : Nat, ev = errW k) ∧ ∀ w b g c, MemAt w b g n c ws → Calls Try.prog 23 #[.pointer (some ⟨b, 0, none⟩), .int .i64 root, .int .i64 asid, .int .i64 page] w fun e w' => Ext w w' ∧ Told 1 k ev w.heap.size w' e := by
  by_cases h : 0 ≤ root ∧ root < n ∧ 0 ≤ page ∧ page < 4096
  · obtain ⟨h0, h1, p0, p1⟩ := h
    refine told_any (args := #[.int .i64 root, .int .i64 asid, .int .i64 page]) (first_foldR _ _ _ _ _ _ fun s hs => runN_len _ _ hs) fun w b g c hm => fold_Unfold w hm hw root asid page h0 h1 p0 p1 _ rfl
  · refine told_any (args := #[.int .i64 root, .int .i64 asid, .int .i64 page]) (R := .no 1) (fun s hs => (by cases hs)) fun w b g c hm => fold_Unfold_no w hm root asid page h

set_option maxRecDepth 100000 in
set_option maxHeartbeats 8000000 in
theorem law17_FoldStays (w : World) (fr : Int) (hfr : (Lit.int .i64 fr).wf = true) (l : List Laid) (hl : ∀ d ∈ l, d.wf) (v : Value) (hv : SlRd w v 3 (l.map Laid.cells)) (root : Int) (_ : (Lit.int .i64 root).wf = true) (page : Int) (_ : (Lit.int .i64 page).wf = true) :
    Calls Try.prog 5 #[.int .i64 fr, v, .int .i64 root, .int .i64 page] w fun e w' => e = .returned (.bool true) ∧ w.grownBy w' none := by
  refine growC (R := fun e _ => e = .returned (.bool true)) ?_
  have hw := WOk_layW (layN fr) l hl
  have HL := Lib.hid hl
  have HV := Lib.hid hv
  have HR := Lib.hid hfr
  clear hl hv hfr
  go_enter Try.func5, Try.ntmps5
  go_wp2_with fail
  refine (law17_up _).mono ?_
  rintro e w1 ⟨⟨ex1, rfl⟩, rfl⟩
  go_wp2_with fail
  refine (lay_ext _ fr HR.out l HL.out v (by repeat (first | exact HV.out | apply rd_more | apply rd_alloc | apply rd_drew | apply rd_drewN))).mono ?_
  rintro e w2 ⟨b, g, h, hc, gb, gc, rfl, hm2, hr2, hE⟩
  have hE2 : Ext w w2 := Ext.trans (by repeat (first | exact Ext.refl _ | apply Ext.more | apply Ext.alloc | apply Ext.drew | apply Ext.drewN)) hE
  have HM := Lib.hid hm2
  have HE2 := Lib.hid hE2
  clear HL HV HR hE hE2 hr2 hm2
  generalize layW (layN fr) l = ws at *
  generalize layN fr = n at *
  obtain ⟨n1, ev1, hn1, hv1, hT⟩ := fold_Fold_any n ws hw root 1 page
  obtain ⟨n2, ev2, hn2, hv2, hI⟩ := fold_Unfold_any n ws hw root 1 page
  have HT := Lib.hid hT
  have HI := Lib.hid hI
  have HV1 := Lib.hid hv1
  have HV2 := Lib.hid hv2
  clear hT hI hw hv1 hv2
  go_wp2_with fail
  refine (extC (R := fun e w' => ∃ b' g' c', e = .returned (.pointer (some ⟨b', 0, none⟩)) ∧ MemAt w' b' g' n c' ws) ((phys_Clone _ HM.out).mono fun e w' ⟨b', g', c', he, hm, hg, _⟩ => ⟨⟨b', g', c', he, hm⟩, hg⟩)).mono ?_
  rintro e w3 ⟨hE3, cb, cg, cc, rfl, hc3⟩
  have HM3 := Lib.hid (HM.out.kept0 hE3.grow)
  have HC := Lib.hid hc3
  have HE3 := Lib.hid (HE2.out.trans hE3)
  clear HM HE2 hE3 hc3
  go_wp2_with fail
  refine (HT.out _ _ _ _ (by repeat (first | exact HM3.out | apply MemAt.more | apply MemAt.alloc | apply MemAt.drew | apply MemAt.drewN))).mono ?_
  rintro e w' ⟨⟨x3, rfl⟩, a1, c1, rfl, hR1, hc1, hm1, _⟩
  have HR1 := Lib.hid hR1
  unfold maxLen at hm1
  clear hR1
  go_wp2_with fail
  refine (HI.out _ _ _ _ (by repeat (first | exact HM3.out | apply MemAt.more | apply MemAt.alloc | apply MemAt.drew | apply MemAt.drewN))).mono ?_
  rintro e w' ⟨⟨x4, rfl⟩, a2, c2, rfl, _⟩
  go_wp2_with fail
  go_loopw [19] (fun i wr => ∃ q : Nat, q ≤ n1 ∧ i = .int .i64 q ∧ Ext w3 wr ∧ Hid (Row wr w3.heap.size 49 10 (.slice a1 n1 c1) n1)) (fun i _ => n1 - (intOf i).toNat)
  case atStart => exact ⟨0, by omega, rfl, (by repeat (first | exact Ext.refl _ | apply Ext.more | apply Ext.alloc | apply Ext.drew | apply Ext.drewN)), (by show Row _ _ _ _ _ _; repeat (first | (with_reducible exact HR1.out) | (with_reducible apply Row.set) | (with_reducible apply Row.more) | (with_reducible apply Row.alloc) | (with_reducible apply Row.drew) | (with_reducible apply Row.drewN)))⟩
  case round =>
    obtain ⟨q, hq, rfl, hE, HR⟩ := hrel
    by_cases hlt : q < n1
    · have HE := Lib.hid hE
      clear hE
      obtain ⟨g, rfl, hBg, hg, hcell, hfz⟩ := HR.out.cells (by omega)
      obtain ⟨u0, u1, u2, u3, u4, u5, u6, u7, u8, u9, y0, y1, y2, y3, y4, y5, y6, y7, y8, y9⟩ := row_ten hcell q hlt
      clear hcell
      go_wp2_with fail
      go_roundw
      case rel => exact ⟨q + 1, by omega, by go_num, (by repeat (first | (with_reducible exact HE.out) | (with_reducible refine ext_set ?_ hBg _ _) | (with_reducible apply Ext.more) | (with_reducible apply Ext.alloc) | (with_reducible apply Ext.drew) | (with_reducible apply Ext.drewN))), (by show Row _ _ _ _ _ _; repeat (first | (with_reducible exact HR.out) | (with_reducible apply Row.set) | (with_reducible apply Row.more) | (with_reducible apply Row.alloc) | (with_reducible apply Row.drew) | (with_reducible apply Row.drewN)))⟩
      case measure => simp [intOf]; omega
    · obtain rfl : q = n1 := by omega
      obtain ⟨x, rfl⟩ := hE
      clear hlt hq
      go_wp2_with fail
      refine (HT.out _ _ _ _ (by repeat (first | exact HM3.out | apply MemAt.more | apply MemAt.alloc | apply MemAt.drew | apply MemAt.drewN))).mono ?_
      rintro e w' ⟨⟨x5, rfl⟩, a3, c3, rfl, _, hc3, hm3, hk3⟩
      have HK3 := Lib.hid hk3
      unfold maxLen at hm3
      clear hk3
      go_wp2_with fail
      refine (HI.out _ _ _ _ (by repeat (first | exact HM3.out | apply MemAt.more | apply MemAt.alloc | apply MemAt.drew | apply MemAt.drewN))).mono ?_
      rintro e w' ⟨⟨x6, rfl⟩, a4, c4, rfl, _⟩
      by_cases hz : q = 0
      · subst hz
        rcases HV1.out with rfl | ⟨k1, rfl⟩ <;> rcases HV2.out with rfl | ⟨k2, rfl⟩
        all_goals
          go_wp2_with fail
          go_quiet ((go_at_call 27; exact Calls.quiet_of (phys_Same_yes _ (by repeat (first | exact HM3.out | apply MemAt.more | apply MemAt.alloc | apply MemAt.drew | apply MemAt.drewN)) (by repeat (first | exact HC.out | apply MemAt.more | apply MemAt.alloc | apply MemAt.drew | apply MemAt.drewN)))))
          go_wp2_with fail
          go_ret
          exact ⟨(by repeat (first | exact HE3.out | apply Ext.more | apply Ext.alloc | apply Ext.drew | apply Ext.drewN)), rfl⟩
      · obtain ⟨g, rfl, hBg, hg, y0⟩ := HK3.out (by omega)
        have hz' : ((q : Int) == 0) = false := by simpa using hz
        have hz2 : 1 ≤ q := by omega
        clear hz
        rcases HV1.out with rfl | ⟨k1, rfl⟩ <;> rcases HV2.out with rfl | ⟨k2, rfl⟩
        all_goals
          go_wp2_with fail
          go_quiet ((go_at_call 27; exact Calls.quiet_of (phys_Same_yes _ (by repeat (first | exact HM3.out | apply MemAt.more | apply MemAt.alloc | apply MemAt.drew | apply MemAt.drewN)) (by repeat (first | exact HC.out | apply MemAt.more | apply MemAt.alloc | apply MemAt.drew | apply MemAt.drewN)))))
          go_wp2_with fail
          go_ret
          exact ⟨(by repeat (first | exact HE3.out | apply Ext.more | apply Ext.alloc | apply Ext.drew | apply Ext.drewN)), rfl⟩

end Go.Proofs.Ytmcjfnkekcablaa
