/- The head of layer 16's laws; the laws paviorlaw16.HugeFits, paviorlaw16.HugeSplits. -/
import Derived.Test.YtmcjfnkekcablaaSplit
import Derived.Test.YtmcjfnkekcablaaHuge
namespace Go.Proofs.Ytmcjfnkekcablaa
open Go.RowKit
set_option linter.unusedVariables false
set_option linter.unusedSimpArgs false
attribute [local go_sem] setCell_drewN alloc_drewN lt_moreE le_moreE lt_moreK le_moreK cell_more frozen_more set_more drew_more drewN_more

def upA : List Area := [⟨0, 16, ⟨false, false⟩, true⟩]
def upB : List Area := [⟨0, 15, ⟨false, false⟩, true⟩]
theorem upA_fits : fitsR upA 9 = some 0 := by decide
theorem upB_fits : fitsR upB 9 = none := by decide
set_option maxRecDepth 100000 in
set_option maxHeartbeats 2000000 in
theorem law16_up (w : World) : Calls Try.prog 28 #[] w fun e w' => Ext w w' ∧ e = .returned (.bool true) := by
  have hwa : ∀ d ∈ upA, d.wf := by intro d hd; simp [upA] at hd; subst hd; exact ⟨(by decide), (by decide)⟩
  have hwb : ∀ d ∈ upB, d.wf := by intro d hd; simp [upB] at hd; subst hd; exact ⟨(by decide), (by decide)⟩
  have HA := Lib.hid (fun w v hv => huge_Fits w upA hwa v hv 9 (by decide) _ upA_fits)
  have HB := Lib.hid (fun w v hv => huge_Fits w upB hwb v hv 9 (by decide) _ upB_fits)
  have heq := fun (w : World) => eql_err w 1 1
  clear hwa hwb
  go_enter Try.func28, Try.ntmps28
  go_wp2_with fail
  refine (HA.out _ _ (own_rd (css := [[.int .i64 0, .int .i64 16, .bool false, .bool false, .bool true]]) (own_lit' (B := 0) (cs := #[.int .i64 0, .int .i64 16, .bool false, .bool false, .bool true]) (T := 55) (m := 1) (sz := 5) (by simp) (Nat.zero_le _) rfl (by decide) rfl rfl) rfl rfl (by decide))).mono ?_
  rintro e w' ⟨⟨ex1, rfl⟩, rfl⟩
  rw [show fitsV upA (some 0) = .tuple #[.agg #[.int .i64 0, .int .i64 16, .bool false, .bool false, .bool true], .bool true] from rfl]
  go_wp2_with fail
  refine (HB.out _ _ (own_rd (css := [[.int .i64 0, .int .i64 15, .bool false, .bool false, .bool true]]) (own_lit' (B := 0) (cs := #[.int .i64 0, .int .i64 15, .bool false, .bool false, .bool true]) (T := 55) (m := 1) (sz := 5) (by simp) (Nat.zero_le _) rfl (by decide) rfl rfl) rfl rfl (by decide))).mono ?_
  rintro e w' ⟨⟨ex2, rfl⟩, rfl⟩
  rw [show fitsV upB none = .tuple #[.agg #[.int .i64 0, .int .i64 0, .bool false, .bool false, .bool false], .bool false] from rfl]
  go_wp2_with fail
  refine (huge_Split_nil _ 0 0 0 0).mono ?_
  rintro e w' ⟨⟨ex3, rfl⟩, rfl⟩
  go_wp2_with fail
  go_ret
  exact ⟨(by repeat (first | exact Ext.refl _ | apply Ext.more | apply Ext.alloc | apply Ext.drew | apply Ext.drewN)), rfl⟩

set_option maxRecDepth 100000 in
set_option maxHeartbeats 4000000 in
theorem law16_HugeFits (w : World) (l : List Area) (hl : ∀ d ∈ l, d.wf) (v : Value) (hv : SlRd w v 5 (l.map Area.cells)) (page : Int) (hp : (Lit.int .i64 page).wf = true) :
    Calls Try.prog 6 #[v, .int .i64 page] w fun e w' => e = .returned (.bool true) ∧ w.grownBy w' none := by
  refine growC (R := fun e _ => e = .returned (.bool true)) ?_
  obtain ⟨r, hr⟩ : ∃ r, fitsR l page = r := ⟨_, rfl⟩
  have HF := Lib.hid (fun w hv => huge_Fits w l hl v hv page hp r hr)
  have HR := Lib.hid (fun w hv => ref16_Fits w l hl v hv page hp r hr)
  have HV := Lib.hid hv
  obtain ⟨a, cap, rfl, hcap, hcells⟩ := hv.form
  rw [List.length_map] at *
  have hcap' : l.length ≤ 9223372036854775807 := by unfold maxLen at hcap; exact hcap
  have HC := Lib.hid hcells
  clear hl hp hcap hcells hv
  by_cases h200 : 200 < l.length
  · clear HF HR HC hr HV
    go_enter Try.func6, Try.ntmps6
    go_wp2_with fail
    refine (law16_up _).mono ?_
    rintro e w' ⟨⟨ex1, rfl⟩, rfl⟩
    go_wp2_with fail
    go_ret
    exact ⟨(by repeat (first | exact Ext.refl _ | apply Ext.more | apply Ext.alloc | apply Ext.drew | apply Ext.drewN)), rfl⟩
  · cases r with
    | none =>
      clear hr
      go_enter Try.func6, Try.ntmps6
      go_wp2_with fail
      refine (law16_up _).mono ?_
      rintro e w' ⟨⟨ex1, rfl⟩, rfl⟩
      go_wp2_with fail
      refine (HF.out _ (by repeat (first | exact HV.out | apply rd_more | apply rd_alloc | apply rd_drew | apply rd_drewN))).mono ?_
      rintro e w' ⟨⟨ex2, rfl⟩, rfl⟩
      rw [show fitsV l none = .tuple #[.agg #[.int .i64 0, .int .i64 0, .bool false, .bool false, .bool false], .bool false] from rfl]
      go_wp2_with fail
      refine (HR.out _ (by repeat (first | exact HV.out | apply rd_more | apply rd_alloc | apply rd_drew | apply rd_drewN))).mono ?_
      rintro e w' ⟨⟨ex3, rfl⟩, rfl⟩
      rw [show idxR none = -1 from rfl]
      go_wp2_with fail
      go_ret
      exact ⟨(by repeat (first | exact Ext.refl _ | apply Ext.more | apply Ext.alloc | apply Ext.drew | apply Ext.drewN)), rfl⟩
    | some k =>
      have hk : k < l.length := by
        unfold fitsR at hr
        split at hr
        · exact fitsFrom_lt hr
        · cases hr
      obtain ⟨ab, ao, rfl, hab, hcl⟩ := HC.out k _ (area_at hk) (by simp [Area.cells])
      obtain ⟨k1, k2, k3⟩ := lt_facts hab
      have HGD := Lib.hid (area_getD hk)
      generalize l[k] = z at *
      obtain ⟨F, T, ⟨r1, r2⟩, hu⟩ := z
      have HFV := Lib.hid (show fitsV l (some k) = .tuple #[.agg #[.int .i64 F, .int .i64 T, .bool r1, .bool r2, .bool hu], .bool true] from by unfold fitsV; dsimp only; rw [HGD.out]; rfl)
      have x0 := hcl 0 _ rfl
      have x1 := hcl 1 _ rfl
      have x2 := hcl 2 _ rfl
      have x3 := hcl 3 _ rfl
      have x4 := hcl 4 _ rfl
      rw [← Nat.add_assoc] at x0 x1 x2 x3 x4
      rw [Nat.add_zero] at x0
      dsimp only at x0 x1 x2 x3 x4
      clear hcl hr HGD HC
      go_enter Try.func6, Try.ntmps6
      go_wp2_with fail
      refine (law16_up _).mono ?_
      rintro e w' ⟨⟨ex1, rfl⟩, rfl⟩
      go_wp2_with fail
      refine (HF.out _ (by repeat (first | exact HV.out | apply rd_more | apply rd_alloc | apply rd_drew | apply rd_drewN))).mono ?_
      rintro e w' ⟨⟨ex2, rfl⟩, rfl⟩
      rw [HFV.out]
      go_wp2_with fail
      refine (HR.out _ (by repeat (first | exact HV.out | apply rd_more | apply rd_alloc | apply rd_drew | apply rd_drewN))).mono ?_
      rintro e w' ⟨⟨ex3, rfl⟩, rfl⟩
      rw [show idxR (some k) = (k : Int) from rfl]
      go_wp2_with fail
      go_quiet (fail)
      go_wp2_with fail
      go_ret
      exact ⟨(by repeat (first | exact Ext.refl _ | apply Ext.more | apply Ext.alloc | apply Ext.drew | apply Ext.drewN)), rfl⟩

end Go.Proofs.Ytmcjfnkekcablaa
