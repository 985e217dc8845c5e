import Derived.Test.YtapeoeakiphfpaaFold
/- The contracts of the document's answer paviorref17: Run, Alike. -/
namespace Go.Proofs.Ytapeoeakiphfpaa
open Go.RowKit
set_option linter.unusedVariables false
set_option linter.unusedSimpArgs false
attribute [local go_sem] setCell_drewN alloc_drewN lt_moreE le_moreE lt_moreK le_moreK cell_more frozen_more set_more drew_more drewN_more
end Go.Proofs.Ytapeoeakiphfpaa

/- The contracts of fold.May and fold.Is. -/
namespace Go.Proofs.Ytapeoeakiphfpaa
open Go.RowKit
set_option linter.unusedVariables false
set_option linter.unusedSimpArgs false
attribute [local go_sem] setCell_drewN alloc_drewN lt_moreE le_moreE lt_moreK le_moreK cell_more frozen_more set_more drew_more drewN_more

/-- What May and Is tell. -/
def tellV (r : Option Bool) : Value := match r with
  | some b => .tuple #[.bool b, .nilIface]
  | none => .tuple #[.bool false, errW 2]
theorem tellV_n (f : List Found → Bool) : tellV ((none : Option (List Found)).map f) = .tuple #[.bool false, errW 2] := rfl
theorem tellV_s (f : List Found → Bool) (s : List Found) : tellV ((some s).map f) = .tuple #[.bool (f s), .nilIface] := rfl
theorem fold_May_nil (w : World) (root page : Int) : Calls Try.prog 102 #[.pointer none, .int .i64 root, .int .i64 page] w fun e w' => Ext w w' ∧ e = .returned (.tuple #[.bool false, errW 1]) := by
  have HF := Lib.hid (fun w => fold_run_nil w root page)
  go_enter Try.func102, Try.ntmps102
  go_wp2_with fail
  refine (HF.out _).mono ?_
  rintro e w1 ⟨⟨ex1, rfl⟩, rfl⟩
  go_wp2_with fail
  go_ret2
  exact ⟨(by repeat (first | exact Ext.refl _ | apply Ext.more | apply Ext.alloc | apply Ext.drew | apply Ext.drewN)), rfl⟩
theorem fold_May_no (w : World) {b g n c : Nat} {ws : List Int} (hm : MemAt w b g n c ws) (root page : Int) (h : ¬ (0 ≤ root ∧ root < n ∧ 0 ≤ page ∧ page < 4096)) :
    Calls Try.prog 102 #[.pointer (some ⟨b, 0, none⟩), .int .i64 root, .int .i64 page] w fun e w' => Ext w w' ∧ e = .returned (.tuple #[.bool false, errW 1]) := by
  have HM := Lib.hid hm
  have HF := Lib.hid (fun w hm => fold_run_no w (b := b) (g := g) (n := n) (c := c) (ws := ws) hm root page h)
  clear hm h
  go_enter Try.func102, Try.ntmps102
  go_wp2_with fail
  refine (HF.out _ (by repeat (first | exact HM.out | apply MemAt.more | apply MemAt.alloc | apply MemAt.drew | apply MemAt.drewN))).mono ?_
  rintro e w1 ⟨⟨ex1, rfl⟩, rfl⟩
  go_wp2_with fail
  go_ret2
  exact ⟨(by repeat (first | exact Ext.refl _ | apply Ext.more | apply Ext.alloc | apply Ext.drew | apply Ext.drewN)), rfl⟩
theorem fold_Is_no (w : World) {b g n c : Nat} {ws : List Int} (hm : MemAt w b g n c ws) (root page : Int) (h : ¬ (0 ≤ root ∧ root < n ∧ 0 ≤ page ∧ page < 4096)) :
    Calls Try.prog 56 #[.pointer (some ⟨b, 0, none⟩), .int .i64 root, .int .i64 page] w fun e w' => Ext w w' ∧ e = .returned (.tuple #[.bool false, errW 1]) := by
  have HM := Lib.hid hm
  have HF := Lib.hid (fun w hm => fold_run_no w (b := b) (g := g) (n := n) (c := c) (ws := ws) hm root page h)
  clear hm h
  go_enter Try.func56, Try.ntmps56
  go_wp2_with fail
  refine (HF.out _ (by repeat (first | exact HM.out | apply MemAt.more | apply MemAt.alloc | apply MemAt.drew | apply MemAt.drewN))).mono ?_
  rintro e w1 ⟨⟨ex1, rfl⟩, rfl⟩
  go_wp2_with fail
  go_ret2
  exact ⟨(by repeat (first | exact Ext.refl _ | apply Ext.more | apply Ext.alloc | apply Ext.drew | apply Ext.drewN)), rfl⟩

set_option maxRecDepth 100000 in
set_option maxHeartbeats 1000000 in
theorem fold_Is (w : World) {b g n c : Nat} {ws : List Int} (hm : MemAt w b g n c ws) (hw : WOk ws) (root page : Int) (h0 : 0 ≤ root) (h1 : root < n) (p0 : 0 ≤ page) (p1 : page < 4096) (r : Option (List Found)) (hr : runN ws n root (page - page % 4) 4 = r) :
    Calls Try.prog 56 #[.pointer (some ⟨b, 0, none⟩), .int .i64 root, .int .i64 page] w fun e w' => Ext w w' ∧ e = .returned (tellV (r.map fun l => alikeB l 2)) := by
  have HM := Lib.hid hm
  have HF := Lib.hid (fun w hm => fold_run w (b := b) (g := g) (n := n) (c := c) (ws := ws) hm hw root page h0 h1 p0 p1 r hr)
  have HR := Lib.hid hr
  have hfp : 0 ≤ page - page % 4 ∧ (page - page % 4) + (4 : Nat) ≤ 4096 := by omega
  clear hm hw hr
  cases r with
  | none =>
    clear HR
    go_enter Try.func56, Try.ntmps56
    go_wp2_with fail
    refine (HF.out _ (by repeat (first | exact HM.out | apply MemAt.more | apply MemAt.alloc | apply MemAt.drew | apply MemAt.drewN))).mono ?_
    rintro e w1 ⟨⟨ex1, rfl⟩, rfl⟩
    go_wp2_with fail
    go_ret2
    exact ⟨(by repeat (first | exact Ext.refl _ | apply Ext.more | apply Ext.alloc | apply Ext.drew | apply Ext.drewN)), rfl⟩
  | some s =>
    have HB := Lib.hid (walk_frames HR.out hfp.1 hfp.2)
    have hlen := runN_len _ _ HR.out
    have HLn := Lib.hid (show s.length = 4 from hlen)
    clear HR
    go_enter Try.func56, Try.ntmps56
    go_wp2_with fail
    refine (HF.out _ (by repeat (first | exact HM.out | apply MemAt.more | apply MemAt.alloc | apply MemAt.drew | apply MemAt.drewN))).mono ?_
    rintro e w1 ⟨⟨ex1, rfl⟩, a, cap, rfl, HO⟩
    have HA := Lib.hid (fun w' HO => fold_alike w' (B := w.heap.size) (cap := cap) (a := a) (l := s) HO 2 HB.out (by omega) _ rfl)
    have HO' := Lib.hid HO
    clear HO HB HF hlen
    go_wp2_with fail
    refine (HA.out _ (by repeat (first | exact HO'.out | apply own_more | apply own_alloc | apply own_drew | apply own_drewN))).mono ?_
    rintro e w' ⟨⟨ex2, rfl⟩, rfl⟩
    go_wp2_with fail
    go_ret2
    exact ⟨(by repeat (first | exact Ext.refl _ | apply Ext.more | apply Ext.alloc | apply Ext.drew | apply Ext.drewN)), rfl⟩

set_option maxRecDepth 100000 in
set_option maxHeartbeats 1000000 in
theorem fold_May (w : World) {b g n c : Nat} {ws : List Int} (hm : MemAt w b g n c ws) (hw : WOk ws) (root page : Int) (h0 : 0 ≤ root) (h1 : root < n) (p0 : 0 ≤ page) (p1 : page < 4096) (r : Option (List Found)) (hr : runN ws n root (page - page % 4) 4 = r) :
    Calls Try.prog 102 #[.pointer (some ⟨b, 0, none⟩), .int .i64 root, .int .i64 page] w fun e w' => Ext w w' ∧ e = .returned (tellV (r.map mayB)) := by
  have HM := Lib.hid hm
  have HF := Lib.hid (fun w hm => fold_run w (b := b) (g := g) (n := n) (c := c) (ws := ws) hm hw root page h0 h1 p0 p1 r hr)
  have HR := Lib.hid hr
  have hfp : 0 ≤ page - page % 4 ∧ (page - page % 4) + (4 : Nat) ≤ 4096 := by omega
  clear hm hw hr
  cases r with
  | none =>
    clear HR
    go_enter Try.func102, Try.ntmps102
    go_wp2_with fail
    refine (HF.out _ (by repeat (first | exact HM.out | apply MemAt.more | apply MemAt.alloc | apply MemAt.drew | apply MemAt.drewN))).mono ?_
    rintro e w1 ⟨⟨ex1, rfl⟩, rfl⟩
    go_wp2_with fail
    go_ret2
    exact ⟨(by repeat (first | exact Ext.refl _ | apply Ext.more | apply Ext.alloc | apply Ext.drew | apply Ext.drewN)), rfl⟩
  | some s =>
    have HB := Lib.hid (walk_frames HR.out hfp.1 hfp.2)
    have hlen := runN_len _ _ HR.out
    have HLn := Lib.hid (show s.length = 4 from hlen)
    clear HR
    go_enter Try.func102, Try.ntmps102
    go_wp2_with fail
    refine (HF.out _ (by repeat (first | exact HM.out | apply MemAt.more | apply MemAt.alloc | apply MemAt.drew | apply MemAt.drewN))).mono ?_
    rintro e w1 ⟨⟨ex1, rfl⟩, a, cap, rfl, HO⟩
    have hc := own_cap HO
    obtain ⟨g', rfl, _, hg, _, hx, _⟩ := own_at HO (by omega)
    have hm' : cap ≤ 9223372036854775807 := by have := hc.2.2; unfold maxLen at this; exact this
    have hs' := hc.2.1
    have hz0 : s[0]? = some s[0] := List.getElem?_eq_getElem (by omega)
    obtain ⟨y0, y1, y2, y3, y4, y5, y6, y7, y8, y9, y10⟩ := found_at hx 0 _ hz0
    simp only [Nat.zero_mul, Nat.zero_add] at y0 y1 y2 y3 y4 y5 y6 y7 y8 y9 y10
    have hgd : s.getD 0 zeroF = s[0] := by rw [List.getD_eq_getElem?_getD, hz0]; rfl
    have HMB := Lib.hid (show ∀ r, alikeB s 0 = r → mayB s = (r && decide (s[0].fFrame % 4 = 0)) from fun r h => by unfold mayB; rw [h, hgd])
    have HA := Lib.hid (fun r hr w' HO => fold_alike w' (B := w.heap.size) (cap := cap) (a := some ⟨g', 0, none⟩) (l := s) HO 0 HB.out (by omega) r hr)
    have HO' := Lib.hid HO
    have hb0 := HB.out _ (List.getElem_mem (show 0 < s.length by omega))
    generalize s[0] = z0 at *
    obtain ⟨G0, G1, G2, G3, G4, G5, G6, G7, G8, G9, G10⟩ := z0
    dsimp only at y0 y1 y2 y3 y4 y5 y6 y7 y8 y9 y10 hb0
    have hs'' : 0 < s.length := by omega
    clear HO HB HF hx hz0 hgd hc hlen
    cases hr : alikeB s 0 with
    | false =>
      have HV := Lib.hid (HMB.out _ hr)
      have HA' := Lib.hid (HA.out _ hr)
      clear hr HMB HA
      go_wp2_with fail
      refine (HA'.out _ (by repeat (first | exact HO'.out | apply own_more | apply own_alloc | apply own_drew | apply own_drewN))).mono ?_
      rintro e w' ⟨⟨ex2, rfl⟩, rfl⟩
      go_wp2_with fail
      go_ret2
      exact ⟨(by repeat (first | exact Ext.refl _ | apply Ext.more | apply Ext.alloc | apply Ext.drew | apply Ext.drewN)), by simp [tellV, HV.out]⟩
    | true =>
      have HV := Lib.hid (HMB.out _ hr)
      have HA' := Lib.hid (HA.out _ hr)
      clear hr HMB HA
      have hrem : G4.tmod 4 = G4 % 4 := Int.tmod_eq_emod_of_nonneg hb0.1
      by_cases h4 : G4 % 4 = 0
      all_goals
        go_wp2_with fail
        refine (HA'.out _ (by repeat (first | exact HO'.out | apply own_more | apply own_alloc | apply own_drew | apply own_drewN))).mono ?_
        rintro e w' ⟨⟨ex2, rfl⟩, rfl⟩
        go_wp2_with fail
        go_ret2
        exact ⟨(by repeat (first | exact Ext.refl _ | apply Ext.more | apply Ext.alloc | apply Ext.drew | apply Ext.drewN)), by simp [tellV, HV.out, h4]⟩

end Go.Proofs.Ytapeoeakiphfpaa
