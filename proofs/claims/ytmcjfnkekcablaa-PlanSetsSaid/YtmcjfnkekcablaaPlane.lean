/- The head of layer 13's laws; the law paviorlaw13.PlanStays. -/
import Derived.Test.YtmcjfnkekcablaaPland
import Derived.Test.YtmcjfnkekcablaaWipe
import Derived.Test.YtmcjfnkekcablaaLawg
namespace Go.Proofs.Ytmcjfnkekcablaa
open Go.RowKit
set_option linter.unusedVariables false
set_option linter.unusedSimpArgs false
attribute [local go_sem] setCell_drewN alloc_drewN lt_moreE le_moreE lt_moreK le_moreK cell_more frozen_more set_more drew_more drewN_more

set_option maxHeartbeats 1000000 in
theorem walk_Whole_nil (w : World) (root : Int) :
    Calls Try.prog 89 #[.pointer none, .int .i64 root] w fun e w' => Ext w w' ∧ e = .returned (.tuple #[.slice none 0 0, errW 1]) := by
  have HF := Lib.hid (fun w => extC (walk_Walk_nil w root 0))
  go_enter Try.func89, Try.ntmps89
  go_wp2_with fail
  go_loopw [6, 7] (fun v p wr => v = .slice none 0 0 ∧ p = .int .i64 0 ∧ w = wr) (fun _ _ _ => 0)
  case atStart => exact ⟨rfl, rfl, rfl⟩
  case round =>
    obtain ⟨rfl, rfl, rfl⟩ := hrel
    go_wp2_with fail
    refine (HF.out _).mono ?_
    rintro e w' ⟨⟨ex1, rfl⟩, rfl⟩
    go_wp2_with fail
    go_ret2
    exact ⟨(by repeat (first | exact Ext.refl _ | apply Ext.more | apply Ext.alloc | apply Ext.drew | apply Ext.drewN)), rfl⟩
set_option maxHeartbeats 1000000 in
theorem plan_Leaves_nil (w : World) :
    Calls Try.prog 45 #[.pointer none, .int .i64 0, .int .i64 0, .int .i64 1] w fun e w' => Ext w w' ∧ e = .returned (.tuple #[.slice none 0 0, errW 1]) := by
  go_enter Try.func45, Try.ntmps45
  go_wp2_with fail
  refine (walk_Whole_nil _ 0).mono ?_
  rintro e w' ⟨⟨ex1, rfl⟩, rfl⟩
  go_wp2_with fail
  go_ret2
  exact ⟨(by repeat (first | exact Ext.refl _ | apply Ext.more | apply Ext.alloc | apply Ext.drew | apply Ext.drewN)), rfl⟩
theorem up13 : wholeRes 1 0 4096 (leavesRes (List.replicate 8 0) 1 0 0 4096) = .yes [] := by
  have h : wholeAt (List.replicate 8 0) 1 0 4097 0 = some [] := by decide +kernel
  have h2 : leavesRes (List.replicate 8 0) 1 0 0 4096 = .yes [] := by
    unfold leavesRes
    rw [if_neg (by omega), if_neg (by simp)]
    rw [show ((1 : Nat) : Int) = 1 from rfl, h]
    rfl
  rw [h2]
  rfl

set_option maxRecDepth 100000 in
set_option maxHeartbeats 1000000 in
theorem law13_up (w : World) : Calls Try.prog 43 #[] w fun e w' => Ext w w' ∧ e = .returned (.bool true) := by
  have hU := up13
  have heq := fun (w : World) => eql_err w 1 1
  have hzw : WOk (List.replicate 8 (0 : Int)) := fun x hx => by rw [List.eq_of_mem_replicate hx]; omega
  generalize hZ : List.replicate 8 (0 : Int) = Z at *
  have HU := Lib.hid hU
  have HZ := Lib.hid hZ
  clear hU hZ
  go_enter Try.func43, Try.ntmps43
  go_wp2_with fail
  refine (phys_New_yes _ 1 (by omega) (by omega)).mono ?_
  rintro e w1 ⟨b, g, rfl, hm, hgr, _, _⟩
  rw [show 1 * 8 = 8 from rfl, HZ.out] at hm
  have HM := Lib.hid hm
  obtain ⟨ex0, rfl⟩ := more_of_grow hgr
  have HF := Lib.hid (fun w (hm : MemAt w b g 1 1 Z) => plan_Clear w hm hzw 0 1 0 4096 (by decide) _ HU.out)
  clear hgr hm
  go_wp2_with fail
  refine (HF.out _ (by repeat (first | exact HM.out | apply MemAt.more | apply MemAt.alloc | apply MemAt.drew | apply MemAt.drewN))).mono ?_
  rintro e w' ⟨⟨ex1, rfl⟩, a, cap, rfl, _⟩
  rw [show (awayL 1 []).length = 0 from rfl]
  go_wp2_with fail
  refine (plan_Leaves_nil _).mono ?_
  rintro e w' ⟨⟨ex2, rfl⟩, rfl⟩
  go_wp2_with fail
  go_ret
  exact ⟨(by repeat (first | exact Ext.refl _ | apply Ext.more | apply Ext.alloc | apply Ext.drew | apply Ext.drewN)), rfl⟩

theorem first_clear (asid : Int) (Q : LeavesR) (h : LeavesOk Q) : FirstK 1 (clearRes asid Q) := by
  intro s hs
  cases Q with
  | no k => cases hs
  | yes l =>
    cases hs
    have := tellA_len asid l
    obtain ⟨hl, _⟩ := h l rfl
    refine ⟨by simp [awayL]; omega, fun x hx => ?_⟩
    cases l with
    | nil => simp [awayL, tellA] at hx
    | cons f t => simp [awayL] at hx; rw [← hx]; rfl
/-- What was told of leaves. -/
def ToldF (n : Nat) (ev : Value) (B : Nat) (w' : World) (e : Ending) : Prop := ∃ a cap, e = .returned (.tuple #[.slice a n cap, ev]) ∧ Row w' B 92 11 (.slice a n cap) n ∧ n ≤ cap ∧ cap ≤ maxLen
theorem plan_Clear_any (n : Nat) (ws : List Int) (hw : WOk ws) (root asid a b : Int) (hb : (Lit.int .i64 b).wf = true) : ∃ k ev, k ≤ 900000 ∧ (ev = .nilIface ∨ ∃ k : Nat, ev = errW k) ∧ ∀ w bb g c, MemAt w bb g n c ws → Calls Try.prog 44 #[.pointer (some ⟨bb, 0, none⟩), .int .i64 root, .int .i64 asid, .int .i64 a, .int .i64 b] w fun e w' => Ext w w' ∧ Told 1 k ev w.heap.size w' e :=
  told_any (args := #[.int .i64 root, .int .i64 asid, .int .i64 a, .int .i64 b]) (first_clear asid _ (whole_ok2 (leaves_ok ws n root a b) rfl)) fun w bb g c hm => plan_Clear w hm hw root asid a b hb _ rfl
theorem plan_Leaves_any (n : Nat) (ws : List Int) (hw : WOk ws) (root a b : Int) (hb : (Lit.int .i64 b).wf = true) : ∃ k ev, k ≤ 900000 ∧ (ev = .nilIface ∨ ∃ k : Nat, ev = errW k) ∧ ∀ w bb g c, MemAt w bb g n c ws → Calls Try.prog 45 #[.pointer (some ⟨bb, 0, none⟩), .int .i64 root, .int .i64 a, .int .i64 b] w fun e w' => Ext w w' ∧ ToldF k ev w.heap.size w' e := by
  have hok := leaves_ok ws n root a b
  cases hR : leavesRes ws n root a b with
  | no k => exact ⟨0, _, by omega, .inr ⟨k, rfl⟩, fun w bb g c hm => (plan_Leaves w hm hw root a b hb _ hR).mono fun e w' ⟨h1, h2⟩ => ⟨h1, none, 0, h2, Row.nil _ _ _ _, Nat.le_refl _, by simp⟩⟩
  | yes l =>
    obtain ⟨hl, _⟩ := hok l hR
    refine ⟨l.length, _, by omega, .inl rfl, fun w bb g c hm => (plan_Leaves w hm hw root a b hb _ hR).mono fun e w' ⟨h1, h2⟩ => ?_⟩
    obtain ⟨a, cap, he, ho⟩ := h2
    have hc := own_cap ho
    exact ⟨h1, a, cap, he, .of ho, hc.2.1, hc.2.2⟩
/-- A row's cells at the q-th element of eleven. -/
theorem row_eleven {w : World} {g n : Nat} (h : ∀ j, j < n * 11 → ∃ u, w.cell? ⟨g, j, none⟩ = some u) (q : Nat) (hq : q < n) : ∃ u0 u1 u2 u3 u4 u5 u6 u7 u8 u9 u10, w.cell? ⟨g, q * 11, none⟩ = some u0 ∧ w.cell? ⟨g, q * 11 + 1, none⟩ = some u1 ∧ w.cell? ⟨g, q * 11 + 2, none⟩ = some u2 ∧ w.cell? ⟨g, q * 11 + 3, none⟩ = some u3 ∧ w.cell? ⟨g, q * 11 + 4, none⟩ = some u4 ∧ w.cell? ⟨g, q * 11 + 5, none⟩ = some u5 ∧ w.cell? ⟨g, q * 11 + 6, none⟩ = some u6 ∧ w.cell? ⟨g, q * 11 + 7, none⟩ = some u7 ∧ w.cell? ⟨g, q * 11 + 8, none⟩ = some u8 ∧ w.cell? ⟨g, q * 11 + 9, none⟩ = some u9 ∧ w.cell? ⟨g, q * 11 + 10, none⟩ = some u10 := by
  obtain ⟨u0, h0⟩ := h (q * 11) (by omega)
  obtain ⟨u1, h1⟩ := h (q * 11 + 1) (by omega)
  obtain ⟨u2, h2⟩ := h (q * 11 + 2) (by omega)
  obtain ⟨u3, h3⟩ := h (q * 11 + 3) (by omega)
  obtain ⟨u4, h4⟩ := h (q * 11 + 4) (by omega)
  obtain ⟨u5, h5⟩ := h (q * 11 + 5) (by omega)
  obtain ⟨u6, h6⟩ := h (q * 11 + 6) (by omega)
  obtain ⟨u7, h7⟩ := h (q * 11 + 7) (by omega)
  obtain ⟨u8, h8⟩ := h (q * 11 + 8) (by omega)
  obtain ⟨u9, h9⟩ := h (q * 11 + 9) (by omega)
  obtain ⟨u10, h10⟩ := h (q * 11 + 10) (by omega)
  exact ⟨u0, u1, u2, u3, u4, u5, u6, u7, u8, u9, u10, h0, h1, h2, h3, h4, h5, h6, h7, h8, h9, h10⟩

theorem Row.other {w : World} {B sz n g : Nat} {T : TypeId} {v : Value} (h : Row w B T sz v n) (hg : g < B) (j : Nat) (u : Value) : Row (w.setCell ⟨g, j, none⟩ u) B T sz v n := ⟨_, ownsRow_setCell_below h.choose_spec (a := ⟨g, j, none⟩) hg u⟩

set_option maxRecDepth 100000 in
set_option maxHeartbeats 8000000 in
theorem law13_PlanStays (w : World) (fr : Int) (hfr : (Lit.int .i64 fr).wf = true) (l : List Laid) (hl : ∀ d ∈ l, d.wf) (v : Value) (hv : SlRd w v 3 (l.map Laid.cells)) (root : Int) (_ : (Lit.int .i64 root).wf = true) (from_ : Int) (_ : (Lit.int .i64 from_).wf = true) (to : Int) (hto : (Lit.int .i64 to).wf = true) :
    Calls Try.prog 12 #[.int .i64 fr, v, .int .i64 root, .int .i64 from_, .int .i64 to] w fun e w' => e = .returned (.bool true) ∧ w.grownBy w' none := by
  refine growC (R := fun e _ => e = .returned (.bool true)) ?_
  have hw := WOk_layW (layN fr) l hl
  have HL := Lib.hid hl
  have HV := Lib.hid hv
  have HR := Lib.hid hfr
  clear hl hv hfr
  go_enter Try.func12, Try.ntmps12
  go_wp2_with fail
  refine (law13_up _).mono ?_
  rintro e w1 ⟨⟨ex1, rfl⟩, rfl⟩
  go_wp2_with fail
  refine (lay_ext _ fr HR.out l HL.out v (by repeat (first | exact HV.out | apply rd_more | apply rd_alloc | apply rd_drew | apply rd_drewN))).mono ?_
  rintro e w2 ⟨b, g, h, hc, gb, gc, rfl, hm2, hr2, hE⟩
  have hE2 : Ext w w2 := Ext.trans (by repeat (first | exact Ext.refl _ | apply Ext.more | apply Ext.alloc | apply Ext.drew | apply Ext.drewN)) hE
  have HM := Lib.hid hm2
  have HE2 := Lib.hid hE2
  clear HL HV HR hE hE2 hr2 hm2
  generalize layW (layN fr) l = ws at *
  generalize layN fr = n at *
  obtain ⟨n1, ev1, hn1, hv1, hT⟩ := plan_Clear_any n ws hw root 1 from_ to hto
  obtain ⟨n2, ev2, hn2, hv2, hI⟩ := plan_Leaves_any n ws hw root from_ to hto
  have HT := Lib.hid hT
  have HI := Lib.hid hI
  have HV1 := Lib.hid hv1
  have HV2 := Lib.hid hv2
  clear hT hI hw hv1 hv2 hto
  go_wp2_with fail
  refine (extC (R := fun e w' => ∃ b' g' c', e = .returned (.pointer (some ⟨b', 0, none⟩)) ∧ MemAt w' b' g' n c' ws) ((phys_Clone _ HM.out).mono fun e w' ⟨b', g', c', he, hm, hg, _⟩ => ⟨⟨b', g', c', he, hm⟩, hg⟩)).mono ?_
  rintro e w3 ⟨hE3, cb, cg, cc, rfl, hc3⟩
  have HM3 := Lib.hid (HM.out.kept0 hE3.grow)
  have HC := Lib.hid hc3
  have HE3 := Lib.hid (HE2.out.trans hE3)
  clear HM HE2 hE3 hc3
  go_wp2_with fail
  refine (HT.out _ _ _ _ (by repeat (first | exact HM3.out | apply MemAt.more | apply MemAt.alloc | apply MemAt.drew | apply MemAt.drewN))).mono ?_
  rintro e w' ⟨⟨x3, rfl⟩, a1, c1, rfl, hR1, hc1, hm1, _⟩
  have HR1 := Lib.hid hR1
  unfold maxLen at hm1
  clear hR1
  go_wp2_with fail
  refine (HI.out _ _ _ _ (by repeat (first | exact HM3.out | apply MemAt.more | apply MemAt.alloc | apply MemAt.drew | apply MemAt.drewN))).mono ?_
  rintro e w4 ⟨hE4, a2, c2, rfl, hR2, hc2, hm2⟩
  have HR2 := Lib.hid hR2
  have HE4 := Lib.hid (Ext.trans (show Ext w3 _ from ⟨x3, rfl⟩) hE4)
  have HR1' := Lib.hid (show Row w4 w3.heap.size 49 10 (.slice a1 n1 c1) n1 by obtain ⟨y, rfl⟩ := hE4; exact Row.more HR1.out y)
  have HG1 := Lib.hid (fun (h0 : 0 < n1) => (show ∃ g, a1 = some ⟨g, 0, none⟩ ∧ w3.heap.size ≤ g ∧ g < (more w3 x3).heap.size from by
    obtain ⟨g, e, h1, h2, _⟩ := HR1.out.cells h0
    exact ⟨g, e, h1, h2⟩))
  have hB2 : w3.heap.size ≤ (more w3 x3).heap.size := size_le_more w3 x3
  generalize (more w3 x3).heap.size = B2 at *
  unfold maxLen at hm2
  clear hR2 hE4 HR1
  go_wp2_with fail
  go_loopw [20] (fun i wr => ∃ q : Nat, q ≤ n1 ∧ i = .int .i64 q ∧ Ext w3 wr ∧ Hid (Row wr w3.heap.size 49 10 (.slice a1 n1 c1) n1) ∧ Hid (Row wr B2 92 11 (.slice a2 n2 c2) n2)) (fun i _ => n1 - (intOf i).toNat)
  case atStart => exact ⟨0, by omega, rfl, HE4.out, HR1', HR2⟩
  case round =>
    obtain ⟨q, hq, rfl, hE, HRa, HRb⟩ := hrel
    have HE := Lib.hid hE
    clear hE
    by_cases hlt : q < n1
    · obtain ⟨g, rfl, hBg, hgB⟩ := HG1.out (by omega)
      obtain ⟨g', e_, _, hg, hcell, hfz⟩ := HRa.out.cells (by omega)
      cases e_
      obtain ⟨u0, u1, u2, u3, u4, u5, u6, u7, u8, u9, y0, y1, y2, y3, y4, y5, y6, y7, y8, y9⟩ := row_ten hcell q hlt
      clear hcell
      go_wp2_with fail
      go_roundw
      case rel => exact ⟨q + 1, by omega, by go_num, (by repeat (first | (with_reducible exact HE.out) | (with_reducible refine ext_set ?_ hBg _ _) | (with_reducible apply Ext.more) | (with_reducible apply Ext.alloc) | (with_reducible apply Ext.drew) | (with_reducible apply Ext.drewN))), (by show Row _ _ _ _ _ _; repeat (first | (with_reducible exact HRa.out) | (with_reducible apply Row.set) | (with_reducible apply Row.more) | (with_reducible apply Row.alloc) | (with_reducible apply Row.drew) | (with_reducible apply Row.drewN))), (by show Row _ _ _ _ _ _; repeat (first | (with_reducible exact HRb.out) | (with_reducible refine Row.other ?_ hgB _ _)))⟩
      case measure => simp [intOf]; omega
    · obtain rfl : q = n1 := by omega
      clear hlt hq HG1 HRa
      go_wp2_with fail
      go_loopw [21] (fun i wr => ∃ q : Nat, q ≤ n2 ∧ i = .int .i64 q ∧ Ext w3 wr ∧ Hid (Row wr B2 92 11 (.slice a2 n2 c2) n2)) (fun i _ => n2 - (intOf i).toNat)
      case atStart => exact ⟨0, by omega, rfl, HE.out, HRb⟩
      case round =>
        obtain ⟨k, hk, rfl, hE, HRc⟩ := hrel
        by_cases hlt : k < n2
        · have HEc := Lib.hid hE
          clear hE
          obtain ⟨g, rfl, hBg, hg, hcell, hfz⟩ := HRc.out.cells (by omega)
          have hBg3 : w3.heap.size ≤ g := by omega
          obtain ⟨u0, u1, u2, u3, u4, u5, u6, u7, u8, u9, u10, y0, y1, y2, y3, y4, y5, y6, y7, y8, y9, y10⟩ := row_eleven hcell k hlt
          clear hcell
          go_wp2_with fail
          go_roundw
          case rel => exact ⟨k + 1, by omega, by go_num, (by repeat (first | (with_reducible exact HEc.out) | (with_reducible refine ext_set ?_ hBg3 _ _) | (with_reducible apply Ext.more) | (with_reducible apply Ext.alloc) | (with_reducible apply Ext.drew) | (with_reducible apply Ext.drewN))), (by show Row _ _ _ _ _ _; repeat (first | (with_reducible exact HRc.out) | (with_reducible apply Row.set) | (with_reducible apply Row.more) | (with_reducible apply Row.alloc) | (with_reducible apply Row.drew) | (with_reducible apply Row.drewN)))⟩
          case measure => simp [intOf]; omega
        · obtain rfl : k = n2 := by omega
          obtain ⟨x, rfl⟩ := hE
          clear hlt hk HRb HRc HE
          go_wp2_with fail
          refine (HT.out _ _ _ _ (by repeat (first | exact HM3.out | apply MemAt.more | apply MemAt.alloc | apply MemAt.drew | apply MemAt.drewN))).mono ?_
          rintro e w' ⟨⟨x5, rfl⟩, a3, c3, rfl, _, hc3, hm3, hk3⟩
          have HK3 := Lib.hid hk3
          unfold maxLen at hm3
          clear hk3
          go_wp2_with fail
          refine (HI.out _ _ _ _ (by repeat (first | exact HM3.out | apply MemAt.more | apply MemAt.alloc | apply MemAt.drew | apply MemAt.drewN))).mono ?_
          rintro e w' ⟨⟨x6, rfl⟩, a4, c4, rfl, _⟩
          by_cases hz : q = 0
          · subst hz
            rcases HV1.out with rfl | ⟨k1, rfl⟩ <;> rcases HV2.out with rfl | ⟨k2, rfl⟩
            all_goals
              go_wp2_with fail
              go_quiet ((go_at_call 27; exact Calls.quiet_of (phys_Same_yes _ (by repeat (first | exact HM3.out | apply MemAt.more | apply MemAt.alloc | apply MemAt.drew | apply MemAt.drewN)) (by repeat (first | exact HC.out | apply MemAt.more | apply MemAt.alloc | apply MemAt.drew | apply MemAt.drewN)))))
              go_wp2_with fail
              go_ret
              exact ⟨(by repeat (first | exact HE3.out | apply Ext.more | apply Ext.alloc | apply Ext.drew | apply Ext.drewN)), rfl⟩
          · obtain ⟨g, rfl, hBg, hg, y0⟩ := HK3.out (by omega)
            have hz' : ((q : Int) == 0) = false := by simpa using hz
            have hz2 : 1 ≤ q := by omega
            clear hz
            rcases HV1.out with rfl | ⟨k1, rfl⟩ <;> rcases HV2.out with rfl | ⟨k2, rfl⟩
            all_goals
              go_wp2_with fail
              go_quiet ((go_at_call 27; exact Calls.quiet_of (phys_Same_yes _ (by repeat (first | exact HM3.out | apply MemAt.more | apply MemAt.alloc | apply MemAt.drew | apply MemAt.drewN)) (by repeat (first | exact HC.out | apply MemAt.more | apply MemAt.alloc | apply MemAt.drew | apply MemAt.drewN)))))
              go_wp2_with fail
              go_ret
              exact ⟨(by repeat (first | exact HE3.out | apply Ext.more | apply Ext.alloc | apply Ext.drew | apply Ext.drewN)), rfl⟩

end Go.Proofs.Ytmcjfnkekcablaa
