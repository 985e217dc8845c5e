import Derived.Test.YthcdecgecabgaaaRefe
import Derived.Test.YthcdecgecabgaaaBLawdRef
import Derived.Test.YthcdecgecabgaaaBLayPlainPagw
/- The contracts of the document's answer paviorref04: at, Walk. -/
namespace Go.Proofs.Ythcdecgecabgaaa
open Go.RowKit
set_option linter.unusedVariables false
set_option linter.unusedSimpArgs false
attribute [local go_sem] setCell_drewN alloc_drewN lt_moreE le_moreE lt_moreK le_moreK cell_more frozen_more set_more drew_more drewN_more

theorem RefAt.more {w : World} {h hc n : Nat} {gb gc : Nat → Nat} {us : List Int} (r : RefAt w h hc n gb gc us) (x : Array Obj × Nat) : RefAt (more w x) h hc n gb gc us := r.kept0 (grow_more w x)
theorem RefAt.alloc {w : World} {h hc n : Nat} {gb gc : Nat → Nat} {us : List Int} (r : RefAt w h hc n gb gc us) (o : Obj) : RefAt (w.alloc o) h hc n gb gc us := r.kept0 (World.grownBy_alloc w o none)
theorem RefAt.drew {w : World} {h hc n : Nat} {gb gc : Nat → Nat} {us : List Int} (r : RefAt w h hc n gb gc us) : RefAt w.drew h hc n gb gc us := r.kept0 (grow_drew (grow_refl _ _))
theorem RefAt.drewN {w : World} {h hc n : Nat} {gb gc : Nat → Nat} {us : List Int} (r : RefAt w h hc n gb gc us) (k : Nat) : RefAt (w.drewN k) h hc n gb gc us := r.kept0 (grow_drewN (grow_refl _ _) k)
/-- What the document's walk tells. -/
def refV (r : Option Found) : Value := match r with
  | some f => .tuple #[f.v, .int .i64 0]
  | none => .tuple #[zeroF.v, .int .i64 2]
theorem refV_n : refV none = .tuple #[.agg #[.int .i64 0, .int .i64 0, .int .i64 0, .int .i64 0, .int .i64 0, .int .i64 0, .int .i64 0, .int .i64 0, .bool false, .bool false, .bool false], .int .i64 2] := rfl
theorem refV_s (F0 F1 F2 F3 F4 F5 F6 F7 : Int) (F8 F9 F10 : Bool) : refV (some ⟨F0, F1, F2, F3, F4, F5, F6, F7, F8, F9, F10⟩) = .tuple #[.agg #[.int .i64 F0, .int .i64 F1, .int .i64 F2, .int .i64 F3, .int .i64 F4, .int .i64 F5, .int .i64 F6, .int .i64 F7, .bool F8, .bool F9, .bool F10], .int .i64 0] := rfl
theorem refV_some {r : Option Found} {f : Found} (h : r = some f) {v : Value} (hv : v = .tuple #[f.v, .int .i64 0]) : Ending.returned v = .returned (refV r) := by subst h hv; rfl

theorem walkAt_in {ws : List Int} {n page level table : Int} {k : Nat} {pl X : Int} {d : Desc} (ht : 0 ≤ table ∧ table < n) (hp : placeN level page = pl) (hx : ws.getD (table.toNat * 8 + pl.toNat) 0 = X) (hd : decD level X = d) :
    walkAt ws n page (k + 1) level table = if d.fKind = 1 then walkAt ws n page k (level + 1) d.fFrame else some (foundD d level table pl page) := by
  subst hp hx hd
  conv => lhs; unfold walkAt
  rw [if_pos ht]

set_option maxRecDepth 100000 in
set_option maxHeartbeats 4000000 in
theorem ref04_at {h hc n : Nat} {gb gc : Nat → Nat} {us : List Int} (hw : WOk us) (page : Int) (p0 : 0 ≤ page) (p1 : page < 4096) : ∀ (k : Nat) (w : World) (_ : RefAt w h hc n gb gc us) (level table : Int) (_ : 0 ≤ level) (_ : level + k = 4) (_ : 1 ≤ k),
    Calls Try.prog 74 #[.slice (some ⟨h, 0, none⟩) n hc, .int .i64 table, .int .i64 level, .int .i64 page] w fun e w' => Ext w w' ∧ e = .returned (refV (walkAt us n page k level table)) := by
  have HW := Lib.hid hw
  clear hw
  intro k
  induction k with
  | zero => intro _ _ _ _ _ _ hk; omega
  | succ k ih =>
    intro w hr level table l0 hl _
    have HR := Lib.hid hr
    have HI := Lib.hid ih
    clear ih
    by_cases ht : 0 ≤ table ∧ table < n
    · have hst := fun pl X d => walkAt_in (ws := us) (n := n) (page := page) (level := level) (table := table) (k := k) (pl := pl) (X := X) (d := d) ht
      obtain ⟨t0, t1⟩ := ht
      obtain ⟨T, rfl⟩ := Int.eq_ofNat_of_zero_le t0
      have q0 := placeN_lo level page
      have q1 := placeN_hi level page
      have HPl := Lib.hid (fun w => ref04_Place w level page l0 (by omega) p0 p1)
      generalize hpl : placeN level page = pl at *
      obtain ⟨P, rfl⟩ := Int.eq_ofNat_of_zero_le q0
      have hlt := hr.lth
      have hgl := hr.ltg T (by omega)
      have y0 := hr.hcell T (by omega)
      have y1 := hr.cell T P (by omega) (by omega)
      have hX := HW.out.getD (T * 8 + P)
      generalize hx : us.getD (T * 8 + P) 0 = X at *
      obtain ⟨x0, x1⟩ := hX
      have KD := Lib.hid (fun w => ref02_Decode w level X x0 x1)
      have hdl : level = 3 → (decD level X).fKind ≠ 1 := by rintro rfl; exact decD_last X
      have hdf := decD_frame level X
      have hcc := hr.cc T (by omega)
      generalize hd : decD level X = d at *
      have hst := hst P X d rfl hx hd
      obtain ⟨kd, f, wr, ex, se, fo, so⟩ := d
      dsimp only at hdl hdf hst
      obtain ⟨f0, f1⟩ := hdf
      have hn := hr.nc
      clear hr hpl hx hd
      by_cases h1 : kd = 1
      · subst h1
        have hl3 : level < 3 := by rcases Int.lt_or_le level 3 with h | h; exact h; exact absurd rfl (hdl (by omega))
        have hv : walkAt us n page (k + 1) level T = walkAt us n page k (level + 1) f := by rw [hst]; simp
        have HV := Lib.hid hv
        have HA := Lib.hid (fun w hr => HI.out w hr (level + 1) f (by omega) (by omega) (by omega))
        clear hst hdl hv HI
        cases hres : walkAt us n page k (level + 1) f with
        | none =>
          have HN := Lib.hid (HV.out.trans hres)
          rw [hres] at HA
          clear hres HV
          go_enter Try.func74, Try.ntmps74
          go_wp2_with (first
            | (go_at_call 119; refine (HPl.out _).mono ?_; rintro e w' ⟨rfl, rfl⟩)
            | (go_at_call 68; refine (KD.out _).mono ?_; rintro e w' ⟨⟨ex1, rfl⟩, rfl⟩)
            | (go_at_call 74; refine (HA.out _ (by repeat (first | exact HR.out | apply RefAt.more | apply RefAt.alloc | apply RefAt.drew | apply RefAt.drewN))).mono ?_; rintro e w' ⟨⟨ex2, rfl⟩, rfl⟩; rw [refV_n]))
          refine bodyPost_ret (results_ct rfl _ _ w.heap.size 53 _ (0, 0) _ rfl (by repeat (first | (with_reducible exact heap_alloc_new _ _) | (with_reducible apply box_more) | (with_reducible apply box_alloc) | (with_reducible apply box_drew) | (with_reducible apply box_drewN))) Try.underlying53 rfl (by kernel_rfl)) rfl ?_
          exact ⟨(by repeat (first | exact Ext.refl _ | apply Ext.more | apply Ext.alloc | apply Ext.drew | apply Ext.drewN)), by rw [HN.out]; rfl⟩
        | some r =>
          have HN := Lib.hid (HV.out.trans hres)
          rw [hres] at HA
          obtain ⟨F0, F1, F2, F3, F4, F5, F6, F7, F8, F9, F10⟩ := r
          clear hres HV
          go_enter Try.func74, Try.ntmps74
          go_wp2_with (first
            | (go_at_call 119; refine (HPl.out _).mono ?_; rintro e w' ⟨rfl, rfl⟩)
            | (go_at_call 68; refine (KD.out _).mono ?_; rintro e w' ⟨⟨ex1, rfl⟩, rfl⟩)
            | (go_at_call 74; refine (HA.out _ (by repeat (first | exact HR.out | apply RefAt.more | apply RefAt.alloc | apply RefAt.drew | apply RefAt.drewN))).mono ?_; rintro e w' ⟨⟨ex2, rfl⟩, rfl⟩; rw [refV_s]))
          refine bodyPost_ret (results_ct rfl _ _ w.heap.size 53 _ (0, 0) _ rfl (by repeat (first | (with_reducible exact heap_alloc_new _ _) | (with_reducible apply box_more) | (with_reducible apply box_alloc) | (with_reducible apply box_drew) | (with_reducible apply box_drewN))) Try.underlying53 rfl (by kernel_rfl)) rfl ?_
          exact ⟨(by repeat (first | exact Ext.refl _ | apply Ext.more | apply Ext.alloc | apply Ext.drew | apply Ext.drewN)), by rw [HN.out]; rfl⟩
      · have hv : walkAt us n page (k + 1) level T = some (foundD ⟨kd, f, wr, ex, se, fo, so⟩ level T P page) := by rw [hst, if_neg h1]
        have HV := Lib.hid hv
        have k1 : (kd == 1) = false := by simpa using h1
        clear hst hdl hv HI h1 HR HW
        by_cases h3 : kd = 3
        · subst h3
          cases fo
          all_goals
            go_enter Try.func74, Try.ntmps74
            go_wp2_with (first
              | (go_at_call 119; refine (HPl.out _).mono ?_; rintro e w' ⟨rfl, rfl⟩)
              | (go_at_call 68; refine (KD.out _).mono ?_; rintro e w' ⟨⟨ex1, rfl⟩, rfl⟩))
            refine bodyPost_ret (results_ct rfl _ _ w.heap.size 53 _ (0, 0) _ rfl (by repeat (first | (with_reducible exact heap_alloc_new _ _) | (with_reducible apply box_more) | (with_reducible apply box_alloc) | (with_reducible apply box_drew) | (with_reducible apply box_drewN))) Try.underlying53 rfl (by kernel_rfl)) rfl ?_
            refine ⟨(by repeat (first | exact Ext.refl _ | apply Ext.more | apply Ext.alloc | apply Ext.drew | apply Ext.drewN)), refV_some HV.out ?_⟩
            simp [Found.v, foundD]
            try omega
        · by_cases h2 : kd = 2
          · subst h2
            go_enter Try.func74, Try.ntmps74
            go_wp2_with (first
              | (go_at_call 119; refine (HPl.out _).mono ?_; rintro e w' ⟨rfl, rfl⟩)
              | (go_at_call 68; refine (KD.out _).mono ?_; rintro e w' ⟨⟨ex1, rfl⟩, rfl⟩))
            refine bodyPost_ret (results_ct rfl _ _ w.heap.size 53 _ (0, 0) _ rfl (by repeat (first | (with_reducible exact heap_alloc_new _ _) | (with_reducible apply box_more) | (with_reducible apply box_alloc) | (with_reducible apply box_drew) | (with_reducible apply box_drewN))) Try.underlying53 rfl (by kernel_rfl)) rfl ?_
            refine ⟨(by repeat (first | exact Ext.refl _ | apply Ext.more | apply Ext.alloc | apply Ext.drew | apply Ext.drewN)), refV_some HV.out ?_⟩
            simp [Found.v, foundD]
            try omega
          · have k3 : (kd == 3) = false := by simpa using h3
            have k2 : (kd == 2) = false := by simpa using h2
            have HK := Lib.hid (And.intro h2 h3)
            clear h2 h3
            go_enter Try.func74, Try.ntmps74
            go_wp2_with (first
              | (go_at_call 119; refine (HPl.out _).mono ?_; rintro e w' ⟨rfl, rfl⟩)
              | (go_at_call 68; refine (KD.out _).mono ?_; rintro e w' ⟨⟨ex1, rfl⟩, rfl⟩))
            refine bodyPost_ret (results_ct rfl _ _ w.heap.size 53 _ (0, 0) _ rfl (by repeat (first | (with_reducible exact heap_alloc_new _ _) | (with_reducible apply box_more) | (with_reducible apply box_alloc) | (with_reducible apply box_drew) | (with_reducible apply box_drewN))) Try.underlying53 rfl (by kernel_rfl)) rfl ?_
            refine ⟨(by repeat (first | exact Ext.refl _ | apply Ext.more | apply Ext.alloc | apply Ext.drew | apply Ext.drewN)), refV_some HV.out ?_⟩
            obtain ⟨h2, h3⟩ := HK.out
            simp [Found.v, foundD, h2, h3]
    · have hv : walkAt us n page (k + 1) level table = none := by unfold walkAt; rw [if_neg ht]
      have HV := Lib.hid hv
      have ht' : table < 0 ∨ (n : Int) ≤ table := by omega
      clear hv ht hr HR HI HW
      rcases ht' with ht | ht
      all_goals
        go_enter Try.func74, Try.ntmps74
        go_wp2_with fail
        refine bodyPost_ret (results_ct rfl _ _ w.heap.size 53 _ (0, 0) _ rfl (by repeat (first | (with_reducible exact heap_alloc_new _ _) | (with_reducible apply box_more) | (with_reducible apply box_alloc) | (with_reducible apply box_drew) | (with_reducible apply box_drewN))) Try.underlying53 rfl (by kernel_rfl)) rfl ?_
        exact ⟨(by repeat (first | exact Ext.refl _ | apply Ext.more | apply Ext.alloc | apply Ext.drew | apply Ext.drewN)), by rw [HV.out]; rfl⟩

end Go.Proofs.Ythcdecgecabgaaa
