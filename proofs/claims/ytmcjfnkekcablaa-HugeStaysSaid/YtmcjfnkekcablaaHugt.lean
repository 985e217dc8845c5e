/- The law paviorlaw16.HugeStays. -/
import Derived.Test.YtmcjfnkekcablaaMergh
import Derived.Test.YtmcjfnkekcablaaHugs
import Derived.Test.YtmcjfnkekcablaaWipe
import Derived.Deep.QuietTactic
import Derived.BigQuiet
namespace Go.Proofs.Ytmcjfnkekcablaa
open Go.RowKit
set_option linter.unusedVariables false
set_option linter.unusedSimpArgs false
attribute [local go_sem] setCell_drewN alloc_drewN lt_moreE le_moreE lt_moreK le_moreK cell_more frozen_more set_more drew_more drewN_more

/-- An error, or none: compared with nil. -/
theorem nil_told {ev : Value} (h : ev = .nilIface ∨ ∃ k : Nat, ev = errW k) : ∃ b : Bool, (∀ w, (binOp .eql 30 ev .nilIface).run Try.prog w = .ok (.bool b) w) ∧ ∀ x c w, (eqGuard .eql 30 x (.const c) ev .nilIface).run Try.prog w = .ok () w := by
  have h1 : ∀ (w : World) (d : Nat) (tp : TypeId) (v : Value), (Op.equalIn (d + 1) 30 (.iface tp v) .nilIface).run Try.prog w = .ok false w := fun w d tp v => by simp [Op.equalIn, run_underlying Try.underlying30]
  have h2 : ∀ (w : World) (d : Nat), (Op.equalIn (d + 1) 30 .nilIface .nilIface).run Try.prog w = .ok true w := fun w d => by simp [Op.equalIn, run_underlying Try.underlying30]
  rcases h with rfl | ⟨k, rfl⟩
  · exact ⟨true, fun w => by simp only [binOp]; simp [Op.equal, Op.maxDepth, h2 w 9999], fun x c w => by simp [eqGuard]⟩
  · exact ⟨false, fun w => by simp only [binOp]; simp [Op.equal, Op.maxDepth, h1 w 9999], fun x c w => by simp [eqGuard]⟩
theorem first_split (ws : List Int) (asid fresh : Int) (r : Option Found) : FirstK 4 (splitR ws asid fresh r) := by
  intro s hs
  have hl := splitR_len hs
  refine ⟨by omega, fun h hh => ?_⟩
  unfold splitR at hs
  split at hs
  · cases hs
  · split at hs
    · cases hs
      simp [splitS] at hh
      rw [← hh]; rfl
    · cases hs
theorem huge_Split_any (n : Nat) (ws : List Int) (hw : WOk ws) (root asid page fresh : Int) : ∃ k ev, k ≤ 900000 ∧ (ev = .nilIface ∨ ∃ k : Nat, ev = errW k) ∧ ∀ w b g c, MemAt w b g n c ws → Calls Try.prog 31 #[.pointer (some ⟨b, 0, none⟩), .int .i64 root, .int .i64 asid, .int .i64 page, .int .i64 fresh] w fun e w' => Ext w w' ∧ Told 4 k ev w.heap.size w' e := by
  by_cases h : HasP n root asid page fresh
  · exact told_any (args := #[.int .i64 root, .int .i64 asid, .int .i64 page, .int .i64 fresh]) (first_split _ _ _ _) fun w b g c hm => huge_Split w hm hw root asid page fresh h _ rfl
  · exact told_any (args := #[.int .i64 root, .int .i64 asid, .int .i64 page, .int .i64 fresh]) (R := .no 1) (fun s hs => (by cases hs)) fun w b g c hm => huge_Split_no w hm root asid page fresh h
/-- What was told of a merging. -/
def ToldM (k j : Nat) (ev : Value) (B : Nat) (w' : World) (e : Ending) : Prop := ∃ a cap t a2 cap2, e = .returned (.tuple #[.slice a k cap, .int .i64 t, .slice a2 j cap2, ev]) ∧ Row w' B 69 2 (.slice a2 j cap2) j ∧ j ≤ cap2 ∧ cap2 ≤ maxLen
theorem huge_Merge_any (n : Nat) (ws : List Int) (hw : WOk ws) (root asid page base : Int) (wr ex : Bool) : ∃ k j ev, (ev = .nilIface ∨ ∃ k : Nat, ev = errW k) ∧ ∀ w b g c, MemAt w b g n c ws → Calls Try.prog 34 #[.pointer (some ⟨b, 0, none⟩), .int .i64 root, .int .i64 asid, .int .i64 page, .int .i64 base, .agg #[.bool wr, .bool ex]] w fun e w' => Ext w w' ∧ ToldM k j ev w.heap.size w' e := by
  have no : ∀ (B : Nat) (w' : World) (e : Ending) (k : Nat), e = .returned (.tuple #[.slice none 0 0, .int .i64 0, .slice none 0 0, errW k]) → ToldM 0 0 (errW k) B w' e := fun B w' e k h => ⟨none, 0, 0, none, 0, h, Row.nil _ _ _ _, Nat.le_refl _, by simp⟩
  by_cases h : MayM n root asid page base
  · cases hR : mergeRes ws asid page base wr ex (wayAt ws n page 4 0 root) with
    | no k => exact ⟨0, 0, _, .inr ⟨k, rfl⟩, fun w b g c hm => (huge_Merge w hm hw root asid page base wr ex h _ rfl).mono fun e w' ⟨h1, h2⟩ => ⟨h1, no _ _ _ _ (by rw [hR] at h2; exact h2)⟩⟩
    | yes s t l => exact ⟨s.length, l.length, _, .inl rfl, fun w b g c hm => (huge_Merge w hm hw root asid page base wr ex h _ rfl).mono fun e w' ⟨h1, h2⟩ => ⟨h1, by
        rw [hR] at h2
        obtain ⟨a, cap, a2, cap2, he, _, ho⟩ := h2
        have hc := own_cap ho
        exact ⟨a, cap, t, a2, cap2, he, .of ho, hc.2.1, hc.2.2⟩⟩⟩
  · exact ⟨0, 0, _, .inr ⟨1, rfl⟩, fun w b g c hm => (huge_Merge_no w hm root asid page base wr ex h).mono fun e w' ⟨h1, h2⟩ => ⟨h1, no _ _ _ 1 h2⟩⟩
/-- A row's cells at the q-th element of two. -/
theorem row_two {w : World} {g n : Nat} (h : ∀ j, j < n * 2 → ∃ u, w.cell? ⟨g, j, none⟩ = some u) (q : Nat) (hq : q < n) : ∃ u0 u1, w.cell? ⟨g, q * 2, none⟩ = some u0 ∧ w.cell? ⟨g, q * 2 + 1, none⟩ = some u1 := by
  obtain ⟨u0, h0⟩ := h (q * 2) (by omega)
  obtain ⟨u1, h1⟩ := h (q * 2 + 1) (by omega)
  exact ⟨u0, u1, h0, h1⟩
theorem row_aside {w : World} {B sz n g : Nat} {T : TypeId} {v : Value} (h : Row w B T sz v n) (hg : g < B) (j : Nat) (u : Value) : Row (w.setCell ⟨g, j, none⟩ u) B T sz v n := ⟨_, ownsRow_setCell_below h.choose_spec (a := ⟨g, j, none⟩) hg u⟩

set_option maxRecDepth 100000 in
set_option maxHeartbeats 8000000 in
theorem law16_HugeStays (w : World) (fr : Int) (hfr : (Lit.int .i64 fr).wf = true) (l : List Laid) (hl : ∀ d ∈ l, d.wf) (v : Value) (hv : SlRd w v 3 (l.map Laid.cells)) (root : Int) (_ : (Lit.int .i64 root).wf = true) (page : Int) (_ : (Lit.int .i64 page).wf = true) (frame : Int) (_ : (Lit.int .i64 frame).wf = true) :
    Calls Try.prog 8 #[.int .i64 fr, v, .int .i64 root, .int .i64 page, .int .i64 frame] w fun e w' => e = .returned (.bool true) ∧ w.grownBy w' none := by
  refine growC (R := fun e _ => e = .returned (.bool true)) ?_
  have hw := WOk_layW (layN fr) l hl
  have HL := Lib.hid hl
  have HV := Lib.hid hv
  have HR := Lib.hid hfr
  clear hl hv hfr
  go_enter Try.func8, Try.ntmps8
  go_wp2_with fail
  refine (law16_up _).mono ?_
  rintro e w1 ⟨⟨ex1, rfl⟩, rfl⟩
  go_wp2_with fail
  refine (lay_ext _ fr HR.out l HL.out v (by repeat (first | exact HV.out | apply rd_more | apply rd_alloc | apply rd_drew | apply rd_drewN))).mono ?_
  rintro e w2 ⟨b, g, h, hc, gb, gc, rfl, hm2, hr2, hE⟩
  have hE2 : Ext w w2 := Ext.trans (by repeat (first | exact Ext.refl _ | apply Ext.more | apply Ext.alloc | apply Ext.drew | apply Ext.drewN)) hE
  have HM := Lib.hid hm2
  have HE2 := Lib.hid hE2
  clear HL HV HR hE hE2 hr2 hm2
  generalize layW (layN fr) l = ws at *
  generalize layN fr = n at *
  obtain ⟨n1, ev1, hn1, hv1, hT⟩ := huge_Split_any n ws hw root 1 page frame
  obtain ⟨m1, n2, ev2, hv2, hI⟩ := huge_Merge_any n ws hw root 1 page frame false false
  have HT := Lib.hid hT
  have HI := Lib.hid hI
  obtain ⟨be1, hbe1, hge1⟩ := nil_told hv1
  obtain ⟨be2, hbe2, hge2⟩ := nil_told hv2
  have HB1 := Lib.hid (And.intro hbe1 hge1)
  have HB2 := Lib.hid (And.intro hbe2 hge2)
  clear hT hI hw hv1 hv2 hbe1 hbe2 hge1 hge2
  go_wp2_with fail
  refine (extC (R := fun e w' => ∃ b' g' c', e = .returned (.pointer (some ⟨b', 0, none⟩)) ∧ MemAt w' b' g' n c' ws) ((phys_Clone _ HM.out).mono fun e w' ⟨b', g', c', he, hm, hg, _⟩ => ⟨⟨b', g', c', he, hm⟩, hg⟩)).mono ?_
  rintro e w3 ⟨hE3, cb, cg, cc, rfl, hc3⟩
  have HM3 := Lib.hid (HM.out.kept0 hE3.grow)
  have HC := Lib.hid hc3
  have HE3 := Lib.hid (HE2.out.trans hE3)
  clear HM HE2 hE3 hc3
  go_wp2_with fail
  refine (HT.out _ _ _ _ (by repeat (first | exact HM3.out | apply MemAt.more | apply MemAt.alloc | apply MemAt.drew | apply MemAt.drewN))).mono ?_
  rintro e w' ⟨⟨x3, rfl⟩, a1, c1, rfl, hR1, hc1, hm1, _⟩
  have HR1 := Lib.hid hR1
  unfold maxLen at hm1
  clear hR1
  go_wp2_with fail
  refine (HI.out _ _ _ _ (by repeat (first | exact HM3.out | apply MemAt.more | apply MemAt.alloc | apply MemAt.drew | apply MemAt.drewN))).mono ?_
  rintro e w4 ⟨hE4, sa, sc, tt, a2, c2, rfl, hR2, hc2, hm2⟩
  have HR2 := Lib.hid hR2
  have HE4 := Lib.hid (Ext.trans (show Ext w3 _ from ⟨x3, rfl⟩) hE4)
  have HR1' := Lib.hid (show Row w4 w3.heap.size 49 10 (.slice a1 n1 c1) n1 by obtain ⟨y, rfl⟩ := hE4; exact Row.more HR1.out y)
  have HG1 := Lib.hid (fun (h0 : 0 < n1) => (show ∃ g, a1 = some ⟨g, 0, none⟩ ∧ w3.heap.size ≤ g ∧ g < (more w3 x3).heap.size from by
    obtain ⟨g, e, h1, h2, _⟩ := HR1.out.cells h0
    exact ⟨g, e, h1, h2⟩))
  have hB2 : w3.heap.size ≤ (more w3 x3).heap.size := size_le_more w3 x3
  generalize (more w3 x3).heap.size = B2 at *
  unfold maxLen at hm2
  clear hR2 hE4 HR1
  go_wp2_with fail
  go_loopw [23] (fun i wr => ∃ q : Nat, q ≤ n1 ∧ i = .int .i64 q ∧ Ext w3 wr ∧ Hid (Row wr w3.heap.size 49 10 (.slice a1 n1 c1) n1) ∧ Hid (Row wr B2 69 2 (.slice a2 n2 c2) n2)) (fun i _ => n1 - (intOf i).toNat)
  case atStart => exact ⟨0, by omega, rfl, HE4.out, HR1', HR2⟩
  case round =>
    obtain ⟨q, hq, rfl, hE, HRa, HRb⟩ := hrel
    have HE := Lib.hid hE
    clear hE
    by_cases hlt : q < n1
    · obtain ⟨g, rfl, hBg, hgB⟩ := HG1.out (by omega)
      obtain ⟨g', e_, _, hg, hcell, hfz⟩ := HRa.out.cells (by omega)
      cases e_
      obtain ⟨u0, u1, u2, u3, u4, u5, u6, u7, u8, u9, y0, y1, y2, y3, y4, y5, y6, y7, y8, y9⟩ := row_ten hcell q hlt
      clear hcell
      go_wp2_with fail
      go_roundw
      case rel => exact ⟨q + 1, by omega, by go_num, (by repeat (first | (with_reducible exact HE.out) | (with_reducible refine ext_set ?_ hBg _ _) | (with_reducible apply Ext.more) | (with_reducible apply Ext.alloc) | (with_reducible apply Ext.drew) | (with_reducible apply Ext.drewN))), (by show Row _ _ _ _ _ _; repeat (first | (with_reducible exact HRa.out) | (with_reducible apply Row.set) | (with_reducible apply Row.more) | (with_reducible apply Row.alloc) | (with_reducible apply Row.drew) | (with_reducible apply Row.drewN))), (by show Row _ _ _ _ _ _; repeat (first | (with_reducible exact HRb.out) | (with_reducible refine row_aside ?_ hgB _ _)))⟩
      case measure => simp [intOf]; omega
    · obtain rfl : q = n1 := by omega
      clear hlt hq HG1 HRa
      go_wp2_with fail
      go_loopw [24] (fun i wr => ∃ q : Nat, q ≤ n2 ∧ i = .int .i64 q ∧ Ext w3 wr ∧ Hid (Row wr B2 69 2 (.slice a2 n2 c2) n2)) (fun i _ => n2 - (intOf i).toNat)
      case atStart => exact ⟨0, by omega, rfl, HE.out, HRb⟩
      case round =>
        obtain ⟨k, hk, rfl, hE, HRc⟩ := hrel
        by_cases hlt : k < n2
        · have HEc := Lib.hid hE
          clear hE
          obtain ⟨g, rfl, hBg, hg, hcell, hfz⟩ := HRc.out.cells (by omega)
          have hBg3 : w3.heap.size ≤ g := by omega
          obtain ⟨u0, u1, y0, y1⟩ := row_two hcell k hlt
          clear hcell
          go_wp2_with fail
          go_roundw
          case rel => exact ⟨k + 1, by omega, by go_num, (by repeat (first | (with_reducible exact HEc.out) | (with_reducible refine ext_set ?_ hBg3 _ _) | (with_reducible apply Ext.more) | (with_reducible apply Ext.alloc) | (with_reducible apply Ext.drew) | (with_reducible apply Ext.drewN))), (by show Row _ _ _ _ _ _; repeat (first | (with_reducible exact HRc.out) | (with_reducible apply Row.set) | (with_reducible apply Row.more) | (with_reducible apply Row.alloc) | (with_reducible apply Row.drew) | (with_reducible apply Row.drewN)))⟩
          case measure => simp [intOf]; omega
        · obtain rfl : k = n2 := by omega
          obtain ⟨x, rfl⟩ := hE
          clear hlt hk HRb HRc HE
          go_wp2_with fail
          refine (HT.out _ _ _ _ (by repeat (first | exact HM3.out | apply MemAt.more | apply MemAt.alloc | apply MemAt.drew | apply MemAt.drewN))).mono ?_
          rintro e w' ⟨⟨x5, rfl⟩, a3, c3, rfl, _, hc3, hm3, hk3⟩
          have HK3 := Lib.hid hk3
          unfold maxLen at hm3
          clear hk3
          go_wp2_with fail
          refine (HI.out _ _ _ _ (by repeat (first | exact HM3.out | apply MemAt.more | apply MemAt.alloc | apply MemAt.drew | apply MemAt.drewN))).mono ?_
          rintro e w' ⟨⟨x6, rfl⟩, a4, c4, tt2, a5, c5, rfl, _⟩
          obtain ⟨hbe1, hge1⟩ := HB1.out
          obtain ⟨hbe2, hge2⟩ := HB2.out
          by_cases hz : q = 0
          · subst hz
            go_wp2_with fail
            go_quiet ((go_at_call 27; exact Calls.quiet_of (phys_Same_yes _ (by repeat (first | exact HM3.out | apply MemAt.more | apply MemAt.alloc | apply MemAt.drew | apply MemAt.drewN)) (by repeat (first | exact HC.out | apply MemAt.more | apply MemAt.alloc | apply MemAt.drew | apply MemAt.drewN)))))
            go_wp2_with fail
            go_ret
            exact ⟨(by repeat (first | exact HE3.out | apply Ext.more | apply Ext.alloc | apply Ext.drew | apply Ext.drewN)), rfl⟩
          · obtain ⟨g, rfl, hBg, hg, y0⟩ := HK3.out (by omega)
            have hz' : ((q : Int) == 0) = false := by simpa using hz
            have hz2 : 1 ≤ q := by omega
            clear hz
            go_wp2_with fail
            go_quiet ((go_at_call 27; exact Calls.quiet_of (phys_Same_yes _ (by repeat (first | exact HM3.out | apply MemAt.more | apply MemAt.alloc | apply MemAt.drew | apply MemAt.drewN)) (by repeat (first | exact HC.out | apply MemAt.more | apply MemAt.alloc | apply MemAt.drew | apply MemAt.drewN)))))
            go_wp2_with fail
            go_ret
            exact ⟨(by repeat (first | exact HE3.out | apply Ext.more | apply Ext.alloc | apply Ext.drew | apply Ext.drewN)), rfl⟩

end Go.Proofs.Ytmcjfnkekcablaa
