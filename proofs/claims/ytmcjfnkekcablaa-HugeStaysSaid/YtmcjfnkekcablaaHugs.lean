/- The law paviorlaw16.HugeSplits. -/
import Derived.Test.YtmcjfnkekcablaaHugf
import Derived.Test.YtmcjfnkekcablaaCode
namespace Go.Proofs.Ytmcjfnkekcablaa
open Go.RowKit
set_option linter.unusedVariables false
set_option linter.unusedSimpArgs false
attribute [local go_sem] setCell_drewN alloc_drewN lt_moreE le_moreE lt_moreK le_moreK cell_more frozen_more set_more drew_more drewN_more

set_option maxHeartbeats 1000000 in
theorem law16_there_yes (w : World) (v : Option Addr) (n hc : Nat) (root asid page frame : Int) (h : HasP n root asid page frame) :
    Calls Try.prog 32 #[.slice v n hc, .int .i64 root, .int .i64 asid, .int .i64 page, .int .i64 frame] w fun e w' => e = .returned (.bool true) ∧ w' = w := by
  obtain ⟨h0, h1, h2, h3, h4, h5, h6, h7⟩ := h
  go_enter Try.func32, Try.ntmps32
  go_wp2_with fail
  go_ret
  exact ⟨by first | rfl | exact ret_bool (by simp; omega), rfl⟩
set_option maxHeartbeats 2000000 in
theorem law16_there_no (w : World) (v : Option Addr) (n hc : Nat) (root asid page frame : Int) (h : ¬ HasP n root asid page frame) :
    Calls Try.prog 32 #[.slice v n hc, .int .i64 root, .int .i64 asid, .int .i64 page, .int .i64 frame] w fun e w' => e = .returned (.bool false) ∧ w' = w := by
  have h' : root < 0 ∨ (0 ≤ root ∧ (n : Int) ≤ root) ∨ (0 ≤ root ∧ root < n ∧ asid < 0) ∨ (0 ≤ root ∧ root < n ∧ 0 ≤ asid ∧ 255 < asid) ∨ (0 ≤ root ∧ root < n ∧ 0 ≤ asid ∧ asid ≤ 255 ∧ page < 0) ∨ (0 ≤ root ∧ root < n ∧ 0 ≤ asid ∧ asid ≤ 255 ∧ 0 ≤ page ∧ 4096 ≤ page) ∨ (0 ≤ root ∧ root < n ∧ 0 ≤ asid ∧ asid ≤ 255 ∧ 0 ≤ page ∧ page < 4096 ∧ frame < 0) ∨ (0 ≤ root ∧ root < n ∧ 0 ≤ asid ∧ asid ≤ 255 ∧ 0 ≤ page ∧ page < 4096 ∧ 0 ≤ frame ∧ (n : Int) ≤ frame) := by unfold HasP at h; omega
  clear h
  rcases h' with h | ⟨h0, h⟩ | ⟨h0, h1, h⟩ | ⟨h0, h1, h2, h⟩ | ⟨h0, h1, h2, h3, h⟩ | ⟨h0, h1, h2, h3, h4, h⟩ | ⟨h0, h1, h2, h3, h4, h5, h⟩ | ⟨h0, h1, h2, h3, h4, h5, h6, h⟩
  all_goals
    go_enter Try.func32, Try.ntmps32
    go_wp2_with fail
    go_ret
    exact ⟨by first | rfl | exact ret_bool (by simp; omega), rfl⟩

theorem huge_SplitR (w : World) {b g n c : Nat} {ws : List Int} (hm : MemAt w b g n c ws) (hw : WOk ws) (root asid page fresh : Int) (h : HasP n root asid page fresh) (r : Option Found) (hr : walkAt ws n page 4 0 root = r) (R : StepsR) (hR : splitR ws asid fresh r = R) :
    Calls Try.prog 31 #[.pointer (some ⟨b, 0, none⟩), .int .i64 root, .int .i64 asid, .int .i64 page, .int .i64 fresh] w fun e w' => Ext w w' ∧ StepsRet w.heap.size w' R e := hR ▸ huge_Split w hm hw root asid page fresh h r hr
theorem ref16_SplitR (w : World) {h hc n : Nat} {gb gc : Nat → Nat} {ws : List Int} (hr0 : RefAt w h hc n gb gc ws) (hw : WOk ws) (root asid page fresh : Int) (p0 : 0 ≤ page) (p1 : page < 4096) (f0 : 0 ≤ fresh) (f1 : fresh < 512) (r : Option Found) (hr : walkAt ws n page 4 0 root = r) (R : StepsR) (hR : splitR ws asid fresh r = R) :
    Calls Try.prog 33 #[.slice (some ⟨h, 0, none⟩) n hc, .int .i64 root, .int .i64 asid, .int .i64 page, .int .i64 fresh] w fun e w' => Ext w w' ∧ RStepsRet w.heap.size w' R e := hR ▸ ref16_Split w hr0 hw root asid page fresh p0 p1 f0 f1 r hr
theorem splitR_no {ws : List Int} {asid fresh : Int} {r : Option Found} {k : Nat} (h : splitR ws asid fresh r = .no k) : k = 2 ∨ k = 7 := by
  unfold splitR at h
  split at h
  · cases h; exact .inl rfl
  · split at h
    · cases h
    · cases h; exact .inr rfl
theorem splitR_len {ws : List Int} {asid fresh : Int} {r : Option Found} {s : List Step} (h : splitR ws asid fresh r = .yes s) : s.length = 19 := by
  unfold splitR at h
  split at h
  · cases h
  · split at h
    · cases h; exact splitS_len _ _ _ _
    · cases h

set_option maxRecDepth 100000 in
set_option maxHeartbeats 4000000 in
theorem law16_HugeSplits (w : World) (fr : Int) (hfr : (Lit.int .i64 fr).wf = true) (l : List Laid) (hl : ∀ d ∈ l, d.wf) (v : Value) (hv : SlRd w v 3 (l.map Laid.cells)) (root : Int) (_ : (Lit.int .i64 root).wf = true) (asid : Int) (_ : (Lit.int .i64 asid).wf = true) (page : Int) (_ : (Lit.int .i64 page).wf = true) (fresh : Int) (_ : (Lit.int .i64 fresh).wf = true) :
    Calls Try.prog 7 #[.int .i64 fr, v, .int .i64 root, .int .i64 asid, .int .i64 page, .int .i64 fresh] w fun e w' => e = .returned (.bool true) ∧ w.grownBy w' none := by
  refine growC (R := fun e _ => e = .returned (.bool true)) ?_
  have hw := WOk_layW (layN fr) l hl
  have HL := Lib.hid hl
  have HV := Lib.hid hv
  have HR := Lib.hid hfr
  have heq := fun (w : World) => eql_err w 1 1
  clear hl hv hfr
  go_enter Try.func7, Try.ntmps7
  go_wp2_with fail
  refine (law16_up _).mono ?_
  rintro e w1 ⟨⟨ex1, rfl⟩, rfl⟩
  go_wp2_with fail
  refine (lay_ext _ fr HR.out l HL.out v (by repeat (first | exact HV.out | apply rd_more | apply rd_alloc | apply rd_drew | apply rd_drewN))).mono ?_
  rintro e w2 ⟨b, g, h, hc, gb, gc, rfl, hm2, hr2, hE⟩
  have hE2 : Ext w w2 := Ext.trans (by repeat (first | exact Ext.refl _ | apply Ext.more | apply Ext.alloc | apply Ext.drew | apply Ext.drewN)) hE
  have HM := Lib.hid hm2
  have HRF := Lib.hid hr2
  have HE2 := Lib.hid hE2
  have hle := hm2.le
  clear HL HV HR hE hE2 hr2
  generalize layW (layN fr) l = ws at *
  generalize layN fr = n at *
  clear hm2
  by_cases hin : HasP n root asid page fresh
  · have HTh := Lib.hid (fun w v hc => law16_there_yes w v n hc root asid page fresh hin)
    obtain ⟨R, hR⟩ : ∃ R, splitR ws asid fresh (walkAt ws n page 4 0 root) = R := ⟨_, rfl⟩
    have HT := Lib.hid (fun w (hm : MemAt w b g n n ws) => huge_SplitR w hm hw root asid page fresh hin _ rfl R hR)
    obtain ⟨_, _, p0, p1, f0, f1, _, _⟩ := hin
    have HI := Lib.hid (fun w (hr : RefAt w h hc n gb gc ws) => ref16_SplitR w hr hw root asid page fresh p0 p1 f0 (by omega) _ rfl R hR)
    cases R with
    | no k =>
      have hk := splitR_no hR
      have hk1 : 1 ≤ k := by omega
      have hk2 : k ≤ 8 := by omega
      clear hR hw hk
      go_wp2_with fail
      refine (HT.out _ (by repeat (first | exact HM.out | apply MemAt.more | apply MemAt.alloc | apply MemAt.drew | apply MemAt.drewN))).mono ?_
      rintro e w' ⟨⟨ex2, rfl⟩, rfl⟩
      go_wp2_with fail
      refine (HTh.out _ _ _).mono ?_
      rintro e w' ⟨rfl, hww⟩
      subst w'
      go_wp2_with fail
      refine (HI.out _ (by repeat (first | exact HRF.out | apply RefAt.more | apply RefAt.alloc | apply RefAt.drew | apply RefAt.drewN))).mono ?_
      rintro e w' ⟨⟨ex3, rfl⟩, rfl⟩
      go_wp2_with fail
      refine (law00_Code _ k hk1 hk2).mono ?_
      rintro e w' ⟨rfl, hww⟩
      subst w'
      go_wp2_with fail
      refine (ref12_Same _ (s := []) (World.ownsRow_nil _ 0 _ _) (World.ownsRow_nil _ 0 _ _)).mono ?_
      rintro e w' ⟨⟨ex4, rfl⟩, rfl⟩
      go_wp2_with fail
      go_ret
      exact ⟨(by repeat (first | exact HE2.out | apply Ext.more | apply Ext.alloc | apply Ext.drew | apply Ext.drewN)), rfl⟩
    | yes s =>
      have hlen := splitR_len hR
      have hl1 : 19 ≤ s.length := by omega
      have hl2 : s.length ≤ 19 := by omega
      clear hR hw hlen
      go_wp2_with fail
      refine (HT.out _ (by repeat (first | exact HM.out | apply MemAt.more | apply MemAt.alloc | apply MemAt.drew | apply MemAt.drewN))).mono ?_
      rintro e w' ⟨⟨ex2, rfl⟩, a1, c1, rfl, hO1⟩
      have HO1 := Lib.hid hO1
      clear hO1
      go_wp2_with fail
      refine (HTh.out _ _ _).mono ?_
      rintro e w' ⟨rfl, hww⟩
      subst w'
      go_wp2_with fail
      refine (HI.out _ (by repeat (first | exact HRF.out | apply RefAt.more | apply RefAt.alloc | apply RefAt.drew | apply RefAt.drewN))).mono ?_
      rintro e w' ⟨⟨ex3, rfl⟩, a2, c2, rfl, hO2⟩
      have HO2 := Lib.hid hO2
      clear hO2
      go_wp2_with fail
      refine (law00_Code_nil _).mono ?_
      rintro e w' ⟨rfl, hww⟩
      subst w'
      go_wp2_with fail
      refine (ref12_Same _ (by repeat (first | exact HO1.out | apply own_more | apply own_alloc | apply own_drew | apply own_drewN)) (by repeat (first | exact HO2.out | apply own_more | apply own_alloc | apply own_drew | apply own_drewN))).mono ?_
      rintro e w' ⟨⟨ex4, rfl⟩, rfl⟩
      go_wp2_with fail
      go_ret
      exact ⟨(by repeat (first | exact HE2.out | apply Ext.more | apply Ext.alloc | apply Ext.drew | apply Ext.drewN)), rfl⟩
  · have HT := Lib.hid (fun w (hm : MemAt w b g n n ws) => huge_Split_no w hm root asid page fresh hin)
    have HTh := Lib.hid (fun w v hc => law16_there_no w v n hc root asid page fresh hin)
    clear hin hw
    go_wp2_with fail
    refine (HT.out _ (by repeat (first | exact HM.out | apply MemAt.more | apply MemAt.alloc | apply MemAt.drew | apply MemAt.drewN))).mono ?_
    rintro e w' ⟨⟨ex2, rfl⟩, rfl⟩
    go_wp2_with fail
    refine (HTh.out _ _ _).mono ?_
    rintro e w' ⟨rfl, hww⟩
    subst w'
    go_wp2_with fail
    go_ret
    exact ⟨(by repeat (first | exact HE2.out | apply Ext.more | apply Ext.alloc | apply Ext.drew | apply Ext.drewN)), rfl⟩

end Go.Proofs.Ytmcjfnkekcablaa
