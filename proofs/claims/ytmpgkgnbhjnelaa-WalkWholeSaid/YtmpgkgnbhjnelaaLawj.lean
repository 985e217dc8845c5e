/- The law paviorlaw04.WalkWhole. -/
import Derived.Test.YtmpgkgnbhjnelaaLawh
namespace Go.Proofs.Ytmpgkgnbhjnelaa
open Go.RowKit
set_option linter.unusedVariables false
set_option linter.unusedSimpArgs false
attribute [local go_sem] setCell_drewN alloc_drewN lt_moreE le_moreE lt_moreK le_moreK cell_more frozen_more set_more drew_more drewN_more

theorem pages_len {ws : List Int} {n root : Int} : ∀ (k : Nat) (p : Int) (l : List Found), pagesW ws n root k p = some l → (l.length : Int) ≤ k := by
  intro k
  induction k with
  | zero => intro p l h; simp [pagesW] at h
  | succ k ih =>
    intro p l h
    unfold pagesW at h
    split at h
    · split at h
      · cases h
      · rw [Option.map_eq_some_iff] at h
        obtain ⟨l', h1, h2⟩ := h
        have := ih _ _ h1
        rw [← h2]
        split <;> simp <;> omega
    · cases h; simp; omega
theorem flatMap_is {α β : Type} (f : α → List β) (l : List α) : l.flatMap f = (l.map f).flatten := rfl
/-- The cells of an element. -/
theorem found_at {w : World} {g : Nat} {l : List Found} (h : ∀ i u, ((l.map Found.cells).flatten)[i]? = some u → w.cell? ⟨g, i, none⟩ = some u) (q : Nat) (f : Found) (hq : l[q]? = some f) :
    w.cell? ⟨g, q * 11, none⟩ = some (.int .i64 f.fKind) ∧ w.cell? ⟨g, q * 11 + 1, none⟩ = some (.int .i64 f.fLevel) ∧ w.cell? ⟨g, q * 11 + 2, none⟩ = some (.int .i64 f.fTable) ∧ w.cell? ⟨g, q * 11 + 3, none⟩ = some (.int .i64 f.fPlace) ∧ w.cell? ⟨g, q * 11 + 4, none⟩ = some (.int .i64 f.fFrame) ∧ w.cell? ⟨g, q * 11 + 5, none⟩ = some (.int .i64 f.fOrder) ∧ w.cell? ⟨g, q * 11 + 6, none⟩ = some (.int .i64 f.fFirst) ∧ w.cell? ⟨g, q * 11 + 7, none⟩ = some (.int .i64 f.fBase) ∧ w.cell? ⟨g, q * 11 + 8, none⟩ = some (.bool f.fWrite) ∧ w.cell? ⟨g, q * 11 + 9, none⟩ = some (.bool f.fExec) ∧ w.cell? ⟨g, q * 11 + 10, none⟩ = some (.bool f.fSeen) := by
  have key := fun j u hj => h (q * 11 + j) u (flatten_at 11 (l.map Found.cells) q j f.cells u (by simp [Found.cells]) (by simp [hq]) hj)
  exact ⟨key 0 _ rfl, key 1 _ rfl, key 2 _ rfl, key 3 _ rfl, key 4 _ rfl, key 5 _ rfl, key 6 _ rfl, key 7 _ rfl, key 8 _ rfl, key 9 _ rfl, key 10 _ rfl⟩

set_option maxRecDepth 100000 in
set_option maxHeartbeats 4000000 in
theorem law04_WalkWhole (w : World) (fr : Int) (hfr : (Lit.int .i64 fr).wf = true) (l : List Laid) (hl : ∀ d ∈ l, d.wf) (v : Value) (hv : SlRd w v 3 (l.map Laid.cells)) (root : Int) (_ : (Lit.int .i64 root).wf = true) :
    Calls Try.prog 12 #[.int .i64 fr, v, .int .i64 root] w fun e w' => e = .returned (.bool true) ∧ w.grownBy w' none := by
  refine growC (R := fun e _ => e = .returned (.bool true)) ?_
  have hw := WOk_layW (layN fr) l hl
  have HL := Lib.hid hl
  have HV := Lib.hid hv
  have HR := Lib.hid hfr
  have heq := fun (w : World) => eql_err w 1 1
  clear hl hv hfr
  go_enter Try.func12, Try.ntmps12
  go_wp2_with fail
  refine (extC (law04_up _)).mono ?_
  rintro e w1 ⟨⟨ex1, rfl⟩, rfl⟩
  go_wp2_with fail
  refine (lay_ext _ fr HR.out l HL.out v (by repeat (first | exact HV.out | apply rd_more | apply rd_alloc | apply rd_drew | apply rd_drewN))).mono ?_
  rintro e w2 ⟨b, g, h, hc, gb, gc, rfl, hm2, hr2, hE⟩
  have hE2 : Ext w w2 := Ext.trans (by repeat (first | exact Ext.refl _ | apply Ext.more | apply Ext.alloc | apply Ext.drew | apply Ext.drewN)) hE
  have HM := Lib.hid hm2
  have HRF := Lib.hid hr2
  have HE2 := Lib.hid hE2
  clear HL HV HR hE hE2 hr2
  generalize layW (layN fr) l = ws at *
  generalize layN fr = n at *
  clear hm2
  by_cases hin : 0 ≤ root ∧ root < n
  · obtain ⟨r0, r1⟩ := hin
    have HT := Lib.hid (fun w (hm : MemAt w b g n n ws) => walk_Whole w hm hw root r0 r1)
    have HQ := Lib.hid (fun w (hr : RefAt w h hc n gb gc ws) => ref04_Whole w hr hw root)
    rw [whole_pages] at HT
    cases hres : pagesW ws n root 4097 0 with
    | none =>
      rw [hres] at HQ HT
      clear hres hw
      go_wp2_with fail
      refine (extC (HT.out _ (by repeat (first | exact HM.out | apply MemAt.more | apply MemAt.alloc | apply MemAt.drew | apply MemAt.drewN)))).mono ?_
      rintro e w' ⟨⟨ex2, rfl⟩, rfl⟩
      go_wp2_with fail
      refine (HQ.out _ (by repeat (first | exact HRF.out | apply RefAt.more | apply RefAt.alloc | apply RefAt.drew | apply RefAt.drewN))).mono ?_
      rintro e w' ⟨⟨ex4, rfl⟩, rfl⟩
      go_wp2_with fail
      refine (law00_Code _ 2 (by omega) (by omega)).mono ?_
      rintro e w' ⟨rfl, hww⟩
      rw [hww]
      clear hww w'
      go_wp2_with fail
      go_loopw [14] (fun i wr => i = .int .i64 0 ∧ Ext w2 wr) (fun i _ => 0)
      case atStart => exact ⟨rfl, (by repeat (first | exact Ext.refl _ | apply Ext.more | apply Ext.alloc | apply Ext.drew | apply Ext.drewN))⟩
      case round =>
        obtain ⟨rfl, ⟨x, rfl⟩⟩ := hrel
        go_wp2_with fail
        go_ret
        exact ⟨(by repeat (first | exact HE2.out | apply Ext.more | apply Ext.alloc | apply Ext.drew | apply Ext.drewN)), rfl⟩
    | some s =>
      rw [hres] at HQ HT
      have hlen := pages_len _ _ _ hres
      clear hres hw
      go_wp2_with fail
      refine (extC (HT.out _ (by repeat (first | exact HM.out | apply MemAt.more | apply MemAt.alloc | apply MemAt.drew | apply MemAt.drewN)))).mono ?_
      rintro e w3 ⟨hE3, v1, rfl, HO1⟩
      obtain ⟨a1, c1, rfl⟩ := own_form HO1
      have HRF3 := Lib.hid (HRF.out.kept0 hE3.grow)
      have HE3 := Lib.hid (HE2.out.trans hE3)
      have HO1' := Lib.hid HO1
      clear HO1 hE3
      go_wp2_with fail
      refine (HQ.out _ HRF3.out).mono ?_
      rintro e w4 ⟨hE4, a2, c2, rfl, HO2⟩
      have HO1 := own_ext HO1'.out hE4
      rw [flatMap_is] at HO1
      have HE4 := Lib.hid (HE3.out.trans hE4)
      have hc1 := own_cap HO1
      have hc2 := own_cap HO2
      have HA1 := Lib.hid (own_at HO1)
      have HA2 := Lib.hid (own_at HO2)
      have hm1 : c1 ≤ 9223372036854775807 := by have := hc1.2.2; unfold maxLen at this; exact this
      have hm2 : c2 ≤ 9223372036854775807 := by have := hc2.2.2; unfold maxLen at this; exact this
      have hs1 := hc1.2.1
      have hs2 := hc2.2.1
      clear hE4 HO1 HO2 HO1' hc1 hc2
      go_wp2_with fail
      refine (law00_Code_nil _).mono ?_
      rintro e w' ⟨rfl, hww⟩
      rw [hww]
      clear hww w'
      go_wp2_with fail
      go_loopw [14] (fun i wr => ∃ q : Nat, q ≤ s.length ∧ i = .int .i64 q ∧ Ext w4 wr) (fun i _ => s.length - (intOf i).toNat)
      case atStart => exact ⟨0, by omega, rfl, Ext.refl _⟩
      case round =>
        obtain ⟨q, hq, rfl, ⟨x, rfl⟩⟩ := hrel
        by_cases hlt : q < s.length
        · obtain ⟨g1, rfl, _, hg1, _, hx1, _⟩ := HA1.out (by omega)
          obtain ⟨g2, rfl, _, hg2, _, hx2, _⟩ := HA2.out (by omega)
          have hz : s[q]? = some s[q] := List.getElem?_eq_getElem hlt
          obtain ⟨x0, x1, x2, x3, x4, x5, x6, x7, x8, x9, x10⟩ := found_at hx1 q _ hz
          obtain ⟨y0, y1, y2, y3, y4, y5, y6, y7, y8, y9, y10⟩ := found_at hx2 q _ hz
          generalize s[q] = z at *
          obtain ⟨F0, F1, F2, F3, F4, F5, F6, F7, F8, F9, F10⟩ := z
          clear hz hx1 hx2 HA1 HA2
          go_wp2_with fail
          go_region
          all_goals go_wp2_with fail
          go_roundw
          case rel => exact ⟨q + 1, by omega, by go_num, (by repeat (first | exact Ext.refl _ | apply Ext.more | apply Ext.alloc | apply Ext.drew | apply Ext.drewN))⟩
          case measure => simp [intOf]; omega
        · obtain rfl : q = s.length := by omega
          go_wp2_with fail
          go_ret
          exact ⟨(by repeat (first | exact HE4.out | apply Ext.more | apply Ext.alloc | apply Ext.drew | apply Ext.drewN)), rfl⟩
  · have HT := Lib.hid (fun w (hm : MemAt w b g n n ws) => walk_Whole_no w hm root hin)
    have hin' : root < 0 ∨ (n : Int) ≤ root := by omega
    clear hin hw
    go_wp2_with fail
    refine (extC (HT.out _ (by repeat (first | exact HM.out | apply MemAt.more | apply MemAt.alloc | apply MemAt.drew | apply MemAt.drewN)))).mono ?_
    rintro e w' ⟨⟨ex2, rfl⟩, rfl⟩
    rcases hin' with hh | hh
    all_goals
      go_wp2_with fail
      all_goals (go_ret; exact ⟨(by repeat (first | exact HE2.out | apply Ext.more | apply Ext.alloc | apply Ext.drew | apply Ext.drewN)), rfl⟩)

end Go.Proofs.Ytmpgkgnbhjnelaa
