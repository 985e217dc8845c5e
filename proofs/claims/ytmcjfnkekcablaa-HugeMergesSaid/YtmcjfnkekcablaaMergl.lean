/- The law paviorlaw16.HugeMerges. -/
import Derived.Test.YtmcjfnkekcablaaMergr
import Derived.Test.YtmcjfnkekcablaaHugs
namespace Go.Proofs.Ytmcjfnkekcablaa
open Go.RowKit
set_option linter.unusedVariables false
set_option linter.unusedSimpArgs false
attribute [local go_sem] setCell_drewN alloc_drewN lt_moreE le_moreE lt_moreK le_moreK cell_more frozen_more set_more drew_more drewN_more

theorem huge_MergeR (w : World) {b g n c : Nat} {ws : List Int} (hm : MemAt w b g n c ws) (hw : WOk ws) (root asid page base : Int) (wr ex : Bool) (h : MayM n root asid page base) (R : MergeR) (hR : mergeRes ws asid page base wr ex (wayAt ws n page 4 0 root) = R) :
    Calls Try.prog 34 #[.pointer (some ⟨b, 0, none⟩), .int .i64 root, .int .i64 asid, .int .i64 page, .int .i64 base, .agg #[.bool wr, .bool ex]] w fun e w' => Ext w w' ∧ MergeRet w.heap.size w' .nilIface R e (fun k => errW k) := hR ▸ huge_Merge w hm hw root asid page base wr ex h _ rfl
theorem ref16_MergeR (w : World) {h hc n : Nat} {gb gc : Nat → Nat} {ws : List Int} (hr0 : RefAt w h hc n gb gc ws) (hn : n ≤ 512) (hw : WOk ws) (root asid page base : Int) (wr ex : Bool) (hM : MayM n root asid page base) (R : MergeR) (hR : mergeRes ws asid page base wr ex (wayAt ws n page 4 0 root) = R) :
    Calls Try.prog 35 #[.slice (some ⟨h, 0, none⟩) n hc, .int .i64 root, .int .i64 asid, .int .i64 page, .int .i64 base, .agg #[.bool wr, .bool ex]] w fun e w' => Ext w w' ∧ MergeRet w.heap.size w' (.int .i64 0) R e (fun k => .int .i64 k) := hR ▸ ref16_Merge w hr0 hn hw root asid page base wr ex hM _ rfl
theorem mergeR_no {ws : List Int} {asid page base : Int} {wr ex : Bool} {r : Option (List (Int × Int) × Desc)} {k : Nat} (h : mergeRes ws asid page base wr ex r = .no k) : k = 2 ∨ k = 7 := by
  unfold mergeRes at h
  split at h
  · cases h; exact .inl rfl
  · split at h
    · cases h; exact .inr rfl
    · split at h
      · cases h; exact .inr rfl
      · cases h
theorem mergeR_yes {ws : List Int} {asid page base t : Int} {wr ex : Bool} {r : Option (List (Int × Int) × Desc)} {s : List Step} {l : List (Int × Int)} (h : mergeRes ws asid page base wr ex r = .yes s t l) : 1 ≤ s.length ∧ s.length ≤ 1000 ∧ l.length ≤ 8 := by
  cases r with
  | none => cases h
  | some r =>
    obtain ⟨s', d'⟩ := r
    by_cases h4 : s'.length < 4
    · unfold mergeRes at h
      dsimp only at h
      rw [if_pos h4] at h
      cases h
    · cases hp : pagesN ws (s'.getD 3 (0, 0)).1 page 8 with
      | none => rw [mergeRes_no h4 hp] at h; cases h
      | some l' =>
        rw [mergeRes_yes h4 hp] at h
        have hl : l'.length ≤ 8 := by rw [(pagesN_pgs hp).1]; exact pgs_len
        have h2 := (fillN_len ws (s'.getD 3 (0, 0)).1 base 8).2
        cases h
        refine ⟨by simp only [mergeS, List.length_append, List.length_cons, List.length_nil]; omega, ?_, hl⟩
        simp only [mergeS, List.length_append, awayM_len, swapS_len, List.length_cons, List.length_nil]
        omega

set_option maxRecDepth 100000 in
set_option maxHeartbeats 8000000 in
theorem law16_HugeMerges (w : World) (fr : Int) (hfr : (Lit.int .i64 fr).wf = true) (l : List Laid) (hl : ∀ d ∈ l, d.wf) (v : Value) (hv : SlRd w v 3 (l.map Laid.cells)) (root : Int) (_ : (Lit.int .i64 root).wf = true) (asid : Int) (_ : (Lit.int .i64 asid).wf = true) (page : Int) (_ : (Lit.int .i64 page).wf = true) (base : Int) (hbw : (Lit.int .i64 base).wf = true) (rt : Rights) (_ : rt.wf) :
    Calls Try.prog 9 #[.int .i64 fr, v, .int .i64 root, .int .i64 asid, .int .i64 page, .int .i64 base, .agg rt.cells.toArray] w fun e w' => e = .returned (.bool true) ∧ w.grownBy w' none := by
  refine growC (R := fun e _ => e = .returned (.bool true)) ?_
  have hw := WOk_layW (layN fr) l hl
  have HL := Lib.hid hl
  have HV := Lib.hid hv
  have HR := Lib.hid hfr
  have heq := fun (w : World) => eql_err w 1 1
  have hNle := layN_hi fr
  obtain ⟨wr, ex⟩ := rt
  simp only [Rights.cells]
  clear hl hv hfr
  go_enter Try.func9, Try.ntmps9
  go_wp2_with fail
  refine (law16_up _).mono ?_
  rintro e w1 ⟨⟨ex1, rfl⟩, rfl⟩
  go_wp2_with fail
  refine (lay_ext _ fr HR.out l HL.out v (by repeat (first | exact HV.out | apply rd_more | apply rd_alloc | apply rd_drew | apply rd_drewN))).mono ?_
  rintro e w2 ⟨b, g, h, hc, gb, gc, rfl, hm2, hr2, hE⟩
  have hE2 : Ext w w2 := Ext.trans (by repeat (first | exact Ext.refl _ | apply Ext.more | apply Ext.alloc | apply Ext.drew | apply Ext.drewN)) hE
  have HM := Lib.hid hm2
  have HRF := Lib.hid hr2
  have HE2 := Lib.hid hE2
  have hbx : w2.heap[w.heap.size]? = some (.cells #[.bool wr, .bool ex] 53 (0, 0)) := (hE.grow.block _ (by simp [size_more]; omega) (by simp)).trans (by repeat (first | (with_reducible exact heap_alloc_new _ _) | (with_reducible apply box_more) | (with_reducible apply box_alloc) | (with_reducible apply box_drew) | (with_reducible apply box_drewN)))
  obtain ⟨g0, g1, gf⟩ := cells2u hbx
  have hbl : w.heap.size < w2.heap.size := (Array.getElem?_eq_some_iff.1 hbx).1
  obtain ⟨k1, k2, k3⟩ := lt_facts hbl
  clear HL HV HR hE hE2 hr2 hbx
  generalize layW (layN fr) l = ws at *
  generalize layN fr = n at *
  clear hm2
  by_cases hin : MayM n root asid page base
  · obtain ⟨R, hR⟩ : ∃ R, mergeRes ws asid page base wr ex (wayAt ws n page 4 0 root) = R := ⟨_, rfl⟩
    have HT := Lib.hid (fun w (hm : MemAt w b g n n ws) => huge_MergeR w hm hw root asid page base wr ex hin R hR)
    have HI := Lib.hid (fun w (hr : RefAt w h hc n gb gc ws) => ref16_MergeR w hr (by omega) hw root asid page base wr ex hin R hR)
    obtain ⟨hP, h7, hb8, hp8⟩ := hin
    have HTh := Lib.hid (fun w v hc => law16_there_yes w v n hc root asid page base hP)
    obtain ⟨_, _, p0, p1, f0, f1, _, _⟩ := hP
    have hb8' : (base % 8 != 0) = false := by simpa using hb8
    have hp8' : (page % 8 != 0) = false := by simpa using hp8
    cases R with
    | no k =>
      have hk := mergeR_no hR
      have hk1 : 1 ≤ k := by omega
      have hk2 : k ≤ 8 := by omega
      have hk3 : ((k : Int) != 0) = true := by simp; omega
      clear hR hw hk
      go_wp2_with fail
      refine (HT.out _ (by repeat (first | exact HM.out | apply MemAt.more | apply MemAt.alloc | apply MemAt.drew | apply MemAt.drewN))).mono ?_
      rintro e w' ⟨⟨ex2, rfl⟩, rfl⟩
      go_wp2_with fail
      refine (HTh.out _ _ _).mono ?_
      rintro e w' ⟨rfl, hww⟩
      subst w'
      go_wp2_with fail
      refine (HI.out _ (by repeat (first | exact HRF.out | apply RefAt.more | apply RefAt.alloc | apply RefAt.drew | apply RefAt.drewN))).mono ?_
      rintro e w' ⟨⟨ex3, rfl⟩, rfl⟩
      go_wp2_with fail
      refine (law00_Code _ k hk1 hk2).mono ?_
      rintro e w' ⟨rfl, hww⟩
      subst w'
      go_wp2_with fail
      go_ret
      exact ⟨(by repeat (first | exact HE2.out | apply Ext.more | apply Ext.alloc | apply Ext.drew | apply Ext.drewN)), rfl⟩
    | yes s t lp =>
      obtain ⟨hs1, hs2, hl8⟩ := mergeR_yes hR
      have hs0 : (((s.length : Nat) : Int) == 0) = false := by rw [beq_eq_false_iff_ne]; omega
      clear hR hw
      go_wp2_with fail
      refine (HT.out _ (by repeat (first | exact HM.out | apply MemAt.more | apply MemAt.alloc | apply MemAt.drew | apply MemAt.drewN))).mono ?_
      rintro e w' ⟨⟨ex2, rfl⟩, a1, c1, a2, c2, rfl, hO1, hO2⟩
      have HO1 := Lib.hid hO1
      have HO2 := Lib.hid hO2
      have hk2c := own_cap hO2
      have hc2m : c2 ≤ 9223372036854775807 := by have := hk2c.2.2; unfold maxLen at this; exact this
      have hc2l := hk2c.2.1
      clear hO1 hO2 hk2c
      go_wp2_with fail
      refine (HTh.out _ _ _).mono ?_
      rintro e w' ⟨rfl, hww⟩
      subst w'
      go_wp2_with fail
      refine (HI.out _ (by repeat (first | exact HRF.out | apply RefAt.more | apply RefAt.alloc | apply RefAt.drew | apply RefAt.drewN))).mono ?_
      rintro e w' ⟨⟨ex3, rfl⟩, a3, c3, a4, c4, rfl, hO3, hO4⟩
      have HO3 := Lib.hid hO3
      have HO4 := Lib.hid hO4
      have hk4c := own_cap hO4
      have hc4m : c4 ≤ 9223372036854775807 := by have := hk4c.2.2; unfold maxLen at this; exact this
      have hc4l := hk4c.2.1
      clear hO3 hO4 hk4c
      go_wp2_with fail
      refine (ref12_Same _ (s := s) (by repeat (first | (with_reducible apply own_alloc) | (with_reducible apply own_drew) | (with_reducible apply own_drewN) | exact HO1.out | (with_reducible apply own_more))) (by repeat (first | (with_reducible apply own_alloc) | (with_reducible apply own_drew) | (with_reducible apply own_drewN) | exact HO3.out | (with_reducible apply own_more)))).mono ?_
      rintro e w' ⟨⟨ex4, rfl⟩, rfl⟩
      have HA2 := Lib.hid (own_at (own_more (own_more HO2.out ex3) ex4))
      have HA4 := Lib.hid (own_at (own_more HO4.out ex4))
      have hEf : Ext w (more (more (more w2 ex2) ex3) ex4) := (by repeat (first | exact HE2.out | apply Ext.more | apply Ext.alloc | apply Ext.drew | apply Ext.drewN))
      have HEf := Lib.hid hEf
      clear hEf HO1 HO2 HO3 HO4 HE2 HM HRF HT HI HTh
      go_wp2_with fail
      generalize more (more (more w2 ex2) ex3) ex4 = W at *
      go_loopw [27] (fun i wr => ∃ q : Nat, q ≤ lp.length ∧ i = .int .i64 q ∧ Ext W wr) (fun i _ => lp.length - (intOf i).toNat)
      case atStart => exact ⟨0, by omega, rfl, Ext.refl _⟩
      case round =>
        obtain ⟨q, hq, rfl, ⟨x, rfl⟩⟩ := hrel
        by_cases hlt : q < lp.length
        · have hz : lp[q]? = some lp[q] := List.getElem?_eq_getElem hlt
          obtain ⟨m2, rfl, _, hm2, _, hx2, _⟩ := HA2.out (by omega)
          obtain ⟨m4, rfl, _, hm4, _, hx4, _⟩ := HA4.out (by omega)
          obtain ⟨z0, z1⟩ := slot_at hx2 q _ hz
          obtain ⟨y0, y1⟩ := slot_at hx4 q _ hz
          obtain ⟨j1, j2, j3⟩ := lt_facts hm2
          obtain ⟨j4, j5, j6⟩ := lt_facts hm4
          generalize lp[q] = z at *
          obtain ⟨za, zb⟩ := z
          dsimp only at z0 z1 y0 y1
          clear hz hx2 hx4 HA2 HA4
          go_wp2_with fail
          go_region
          all_goals go_wp2_with fail
          go_roundw
          case rel => exact ⟨q + 1, by omega, by go_num, (by repeat (first | exact Ext.refl _ | apply Ext.more | apply Ext.alloc | apply Ext.drew | apply Ext.drewN))⟩
          case measure => simp [intOf]; omega
        · obtain rfl : q = lp.length := by omega
          go_wp2_with fail
          go_ret
          exact ⟨(by repeat (first | exact HEf.out | apply Ext.more | apply Ext.alloc | apply Ext.drew | apply Ext.drewN)), rfl⟩
  · have HT := Lib.hid (fun w (hm : MemAt w b g n n ws) => huge_Merge_no w hm root asid page base wr ex hin)
    by_cases hP : HasP n root asid page base
    · have HTh := Lib.hid (fun w v hc => law16_there_yes w v n hc root asid page base hP)
      have hc : ((n : Int) ≤ base + 7) ∨ (base + 7 < n ∧ (base % 8 != 0) = true) ∨ (base + 7 < n ∧ (base % 8 != 0) = false ∧ (page % 8 != 0) = true) := by
        by_cases h1 : base + 7 < n
        · by_cases h2 : base % 8 = 0
          · have h3 : page % 8 ≠ 0 := fun e => hin ⟨hP, h1, h2, e⟩
            exact .inr (.inr ⟨h1, by simpa using h2, by simpa using h3⟩)
          · exact .inr (.inl ⟨h1, by simpa using h2⟩)
        · exact .inl (by omega)
      obtain ⟨_, _, p0, p1, f0, f1, _, _⟩ := hP
      clear hin hw
      rcases hc with h1 | ⟨h1, h2⟩ | ⟨h1, h2, h3⟩
      all_goals
        go_wp2_with fail
        refine (HT.out _ (by repeat (first | exact HM.out | apply MemAt.more | apply MemAt.alloc | apply MemAt.drew | apply MemAt.drewN))).mono ?_
        rintro e w' ⟨⟨ex2, rfl⟩, rfl⟩
        go_wp2_with fail
        refine (HTh.out _ _ _).mono ?_
        rintro e w' ⟨rfl, hww⟩
        subst w'
        go_wp2_with fail
        go_ret
        exact ⟨(by repeat (first | exact HE2.out | apply Ext.more | apply Ext.alloc | apply Ext.drew | apply Ext.drewN)), rfl⟩
    · have HTh := Lib.hid (fun w v hc => law16_there_no w v n hc root asid page base hP)
      clear hin hw hP
      go_wp2_with fail
      refine (HT.out _ (by repeat (first | exact HM.out | apply MemAt.more | apply MemAt.alloc | apply MemAt.drew | apply MemAt.drewN))).mono ?_
      rintro e w' ⟨⟨ex2, rfl⟩, rfl⟩
      go_wp2_with fail
      refine (HTh.out _ _ _).mono ?_
      rintro e w' ⟨rfl, hww⟩
      subst w'
      go_wp2_with fail
      go_ret
      exact ⟨(by repeat (first | exact HE2.out | apply Ext.more | apply Ext.alloc | apply Ext.drew | apply Ext.drewN)), rfl⟩

end Go.Proofs.Ytmcjfnkekcablaa
