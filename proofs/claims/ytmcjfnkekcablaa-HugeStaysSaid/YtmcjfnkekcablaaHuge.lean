/- The contracts of huge.Fits and of the document's answer paviorref16.Fits; the head of layer 16's laws; the law paviorlaw16.HugeFits. -/
import Derived.Test.YtmcjfnkekcablaaFits
import Derived.Test.YtmcjfnkekcablaaFound
import Derived.Test.YtmcjfnkekcablaaMorf
import Derived.Deep.QuietTactic
import Derived.BigQuiet
namespace Go.Proofs.Ytmcjfnkekcablaa
open Go.RowKit
set_option linter.unusedVariables false
set_option linter.unusedSimpArgs false
attribute [local go_sem] setCell_drewN alloc_drewN lt_moreE le_moreE lt_moreK le_moreK cell_more frozen_more set_more drew_more drewN_more

def Area.v (a : Area) : Value := .agg #[.int .i64 a.fFrom, .int .i64 a.fTo, .bool a.fRights.fWrite, .bool a.fRights.fExec, .bool a.fHuge]
def zeroA : Area := ⟨0, 0, ⟨false, false⟩, false⟩
/-- What Fits tells of areas. -/
def fitsV (l : List Area) : Option Nat → Value
  | some k => .tuple #[(l.getD k zeroA).v, .bool true]
  | none => .tuple #[zeroA.v, .bool false]
/-- Which area. -/
def fitsR (l : List Area) (page : Int) : Option Nat := if 0 ≤ page ∧ page < 4096 then fitsFrom l (page - page % 8) 0 else none
theorem area_at {l : List Area} {k : Nat} (h : k < l.length) : (l.map Area.cells)[k]? = some (l[k]).cells := by
  rw [List.getElem?_map, List.getElem?_eq_getElem h]; rfl
theorem area_getD {l : List Area} {k : Nat} (h : k < l.length) : l.getD k zeroA = l[k] := by rw [List.getD_eq_getElem?_getD, List.getElem?_eq_getElem h]; rfl

set_option maxRecDepth 100000 in
set_option maxHeartbeats 4000000 in
theorem huge_Fits (w : World) (l : List Area) (hl : ∀ d ∈ l, d.wf) (v : Value) (hv : SlRd w v 5 (l.map Area.cells)) (page : Int) (hp : (Lit.int .i64 page).wf = true) (r : Option Nat) (hr : fitsR l page = r) :
    Calls Try.prog 29 #[v, .int .i64 page] w fun e w' => Ext w w' ∧ e = .returned (fitsV l r) := by
  obtain ⟨a, cap, rfl, hcap, hcells⟩ := hv.form
  rw [List.length_map] at *
  have hcap' : l.length ≤ 9223372036854775807 := by unfold maxLen at hcap; exact hcap
  have HC := Lib.hid hcells
  have HL := Lib.hid hl
  have HR := Lib.hid hr
  have f0 := i64_lo hp
  have f1 := i64_hi hp
  clear hcells hl hv hcap hr hp
  by_cases hin : 0 ≤ page ∧ page < 4096
  · obtain ⟨p0, p1⟩ := hin
    have hand := (and7 page p0 p1).2
    have hFR := HR.out
    unfold fitsR at hFR
    rw [if_pos ⟨p0, p1⟩] at hFR
    obtain ⟨fp, hfp⟩ : ∃ fp, page - page % 8 = fp := ⟨_, rfl⟩
    have hf0 : 0 ≤ fp := by omega
    have hf1 : fp + 7 < 4096 := by omega
    rw [hfp] at hFR hand
    have HFR := Lib.hid hFR
    clear hFR hfp HR
    go_enter Try.func29, Try.ntmps29
    go_wp2_with fail
    go_loopw [20] (fun i wr => ∃ q : Nat, q ≤ l.length ∧ i = .int .i64 q ∧ Ext (w.alloc (.cells #[.int .i64 0, .int .i64 0, .bool false, .bool false, .bool false] 55)) wr ∧ Hid (fitsFrom l fp q = r)) (fun i _ => l.length - (intOf i).toNat)
    case atStart => exact ⟨0, by omega, rfl, Ext.refl _, HFR⟩
    case round =>
      obtain ⟨q, hq, rfl, ⟨x, rfl⟩, HQ⟩ := hrel
      by_cases hlt : q < l.length
      · obtain ⟨ab, ao, rfl, hab, hcl⟩ := HC.out q _ (area_at hlt) (by simp [Area.cells])
        obtain ⟨k1, k2, k3⟩ := lt_facts hab
        have hwf := HL.out _ (List.getElem_mem hlt)
        have hz : l[q]? = some l[q] := List.getElem?_eq_getElem hlt
        have HHit := Lib.hid (fun h => HQ.out.symm.trans (fitsFrom_hit (first := fp) hz h))
        have HMiss := Lib.hid (fun h => (fitsFrom_miss (first := fp) hz h).symm.trans HQ.out)
        have HGD := Lib.hid (area_getD hlt)
        clear hz HQ
        generalize l[q] = z at *
        obtain ⟨F, T, ⟨r1, r2⟩, hu⟩ := z
        have x0 := hcl 0 _ rfl
        have x1 := hcl 1 _ rfl
        have x2 := hcl 2 _ rfl
        have x3 := hcl 3 _ rfl
        have x4 := hcl 4 _ rfl
        rw [← Nat.add_assoc] at x0 x1 x2 x3 x4
        rw [Nat.add_zero] at x0
        have b0 := i64_lo hwf.1
        have b1 := i64_hi hwf.1
        have b2 := i64_lo hwf.2
        have b3 := i64_hi hwf.2
        dsimp only at x0 x1 x2 x3 x4 b0 b1 b2 b3
        clear hcl hwf
        cases hu with
        | false =>
          have HN := Lib.hid (HMiss.out rfl)
          clear HMiss HHit
          go_wp2_with fail
          go_roundw
          case rel => exact ⟨q + 1, by omega, by go_num, (by repeat (first | exact Ext.refl _ | apply Ext.more | apply Ext.alloc | apply Ext.drew | apply Ext.drewN)), HN⟩
          case measure => simp [intOf]; omega
        | true =>
          by_cases hfit : F ≤ fp ∧ fp + 8 ≤ T
          · obtain ⟨g0, g1⟩ := hfit
            have HV := Lib.hid (HHit.out (by simp [fitsB, g0, g1]))
            clear HMiss HHit
            go_wp2_with fail
            refine bodyPost_ret (results_ct rfl _ _ w.heap.size 55 _ (0, 0) _ rfl (by repeat (first | (with_reducible exact heap_alloc_new _ _) | (with_reducible apply box_more) | (with_reducible apply box_alloc) | (with_reducible apply box_drew) | (with_reducible apply box_drewN))) Try.underlying55 rfl (by kernel_rfl)) rfl ?_
            refine ⟨(by repeat (first | exact Ext.refl _ | apply Ext.more | apply Ext.alloc | apply Ext.drew | apply Ext.drewN)), ?_⟩
            rw [HV.out]
            unfold fitsV
            dsimp only
            rw [HGD.out]
            rfl
          · have HN := Lib.hid (HMiss.out (by simp [fitsB]; omega))
            have hfit' : fp < F ∨ (F ≤ fp ∧ T < fp + 8) := by omega
            clear HMiss HHit hfit
            rcases hfit' with g0 | ⟨g0, g1⟩
            all_goals
              go_wp2_with fail
              go_roundw
              case rel => exact ⟨q + 1, by omega, by go_num, (by repeat (first | exact Ext.refl _ | apply Ext.more | apply Ext.alloc | apply Ext.drew | apply Ext.drewN)), HN⟩
              case measure => simp [intOf]; omega
      · obtain rfl : q = l.length := by omega
        have HV := Lib.hid (HQ.out.symm.trans (fitsFrom_end l fp))
        clear HQ
        go_wp2_with fail
        refine bodyPost_ret (results_ct rfl _ _ w.heap.size 55 _ (0, 0) _ rfl (by repeat (first | (with_reducible exact heap_alloc_new _ _) | (with_reducible apply box_more) | (with_reducible apply box_alloc) | (with_reducible apply box_drew) | (with_reducible apply box_drewN))) Try.underlying55 rfl (by kernel_rfl)) rfl ?_
        exact ⟨(by repeat (first | exact Ext.refl _ | apply Ext.more | apply Ext.alloc | apply Ext.drew | apply Ext.drewN)), by rw [HV.out]; rfl⟩
  · have hv : r = none := by rw [← HR.out]; unfold fitsR; rw [if_neg hin]
    have HV := Lib.hid hv
    have hin' : page < 0 ∨ (0 ≤ page ∧ 4096 ≤ page) := by omega
    clear hv HR hin
    rcases hin' with h | ⟨h, h1⟩
    all_goals
      go_enter Try.func29, Try.ntmps29
      go_wp2_with fail
      refine bodyPost_ret (results_ct rfl _ _ w.heap.size 55 _ (0, 0) _ rfl (by repeat (first | (with_reducible exact heap_alloc_new _ _) | (with_reducible apply box_more) | (with_reducible apply box_alloc) | (with_reducible apply box_drew) | (with_reducible apply box_drewN))) Try.underlying55 rfl (by kernel_rfl)) rfl ?_
      exact ⟨(by repeat (first | exact Ext.refl _ | apply Ext.more | apply Ext.alloc | apply Ext.drew | apply Ext.drewN)), by rw [HV.out]; rfl⟩

/-- Are the first k pages of a block in an area that may be of blocks? -/
def inK (a : Area) (first : Int) (k : Nat) : Bool := a.fHuge && (List.range k).all fun j => decide (a.fFrom ≤ first + j) && decide (first + j < a.fTo)
theorem inK_succ (a : Area) (first : Int) (k : Nat) : inK a first (k + 1) = (inK a first k && (decide (a.fFrom ≤ first + k) && decide (first + k < a.fTo))) := by
  unfold inK
  rw [List.range_succ, List.all_append]
  simp [Bool.and_assoc]
theorem inK_eight (a : Area) (first : Int) : inK a first 8 = fitsB first a := by
  unfold inK fitsB
  rw [Bool.eq_iff_iff]
  simp only [Bool.and_eq_true, List.all_eq_true, List.mem_range, decide_eq_true_eq]
  constructor
  · rintro ⟨h1, h2⟩
    have a0 := h2 0 (by omega)
    have a7 := h2 7 (by omega)
    exact ⟨⟨h1, by simpa using a0.1⟩, by omega⟩
  · rintro ⟨⟨h1, h2⟩, h3⟩
    exact ⟨h1, fun j hj => by omega⟩
def idxR : Option Nat → Int
  | some k => k
  | none => -1

set_option maxRecDepth 100000 in
set_option maxHeartbeats 4000000 in
theorem ref16_Fits (w : World) (l : List Area) (hl : ∀ d ∈ l, d.wf) (v : Value) (hv : SlRd w v 5 (l.map Area.cells)) (page : Int) (hp : (Lit.int .i64 page).wf = true) (r : Option Nat) (hr : fitsR l page = r) :
    Calls Try.prog 30 #[v, .int .i64 page] w fun e w' => Ext w w' ∧ e = .returned (.int .i64 (idxR r)) := by
  obtain ⟨a, cap, rfl, hcap, hcells⟩ := hv.form
  rw [List.length_map] at *
  have hcap' : l.length ≤ 9223372036854775807 := by unfold maxLen at hcap; exact hcap
  have HC := Lib.hid hcells
  have HL := Lib.hid hl
  have HR := Lib.hid hr
  have f0 := i64_lo hp
  have f1 := i64_hi hp
  clear hcells hl hv hcap hr hp
  by_cases hin : 0 ≤ page ∧ page < 4096
  · obtain ⟨p0, p1⟩ := hin
    have hq1 : page.tdiv 8 = page / 8 := Int.tdiv_eq_ediv_of_nonneg p0
    have hFR := HR.out
    unfold fitsR at hFR
    rw [if_pos ⟨p0, p1⟩, show page - page % 8 = page / 8 * 8 by omega] at hFR
    have HFR := Lib.hid hFR
    clear hFR HR
    go_enter Try.func30, Try.ntmps30
    go_wp2_with fail
    go_loopw [6] (fun i wr => ∃ q : Nat, q ≤ l.length ∧ i = .int .i64 q ∧ Ext w wr ∧ Hid (fitsFrom l (page / 8 * 8) q = r)) (fun i _ => l.length - (intOf i).toNat)
    case atStart => exact ⟨0, by omega, rfl, Ext.refl _, HFR⟩
    case round =>
      obtain ⟨q, hq, rfl, ⟨x, rfl⟩, HQ⟩ := hrel
      by_cases hlt : q < l.length
      · obtain ⟨ab, ao, rfl, hab, hcl⟩ := HC.out q _ (area_at hlt) (by simp [Area.cells])
        obtain ⟨k1, k2, k3⟩ := lt_facts hab
        have hwf := HL.out _ (List.getElem_mem hlt)
        have hz : l[q]? = some l[q] := List.getElem?_eq_getElem hlt
        have HHit := Lib.hid (fun h => HQ.out.symm.trans (fitsFrom_hit (first := page / 8 * 8) hz h))
        have HMiss := Lib.hid (fun h => (fitsFrom_miss (first := page / 8 * 8) hz h).symm.trans HQ.out)
        clear hz HQ
        generalize hzz : l[q] = z at *
        have HI := Lib.hid (inK_succ z (page / 8 * 8))
        have H8 := Lib.hid (inK_eight z (page / 8 * 8))
        have H0 := Lib.hid (show inK z (page / 8 * 8) 0 = z.fHuge from by simp [inK])
        clear hzz
        obtain ⟨F, T, ⟨r1, r2⟩, hu⟩ := z
        have x0 := hcl 0 _ rfl
        have x1 := hcl 1 _ rfl
        have x4 := hcl 4 _ rfl
        rw [← Nat.add_assoc] at x0 x1 x4
        rw [Nat.add_zero] at x0
        have b0 := i64_lo hwf.1
        have b1 := i64_hi hwf.1
        have b2 := i64_lo hwf.2
        have b3 := i64_hi hwf.2
        dsimp only at x0 x1 x4 b0 b1 b2 b3
        clear hcl hwf
        go_wp2_with fail
        go_loopw [7, 8] (fun s i wr => ∃ (k : Nat) (b : Bool), k ≤ 8 ∧ i = .int .i64 k ∧ s = .bool b ∧ Ext w wr ∧ Hid (inK ⟨F, T, ⟨r1, r2⟩, hu⟩ (page / 8 * 8) k = b)) (fun _ i _ => 8 - (intOf i).toNat)
        case atStart => exact ⟨0, hu, by omega, rfl, rfl, (by repeat (first | exact Ext.refl _ | apply Ext.more | apply Ext.alloc | apply Ext.drew | apply Ext.drewN)), H0.out⟩
        case round =>
          obtain ⟨k, b, hk, rfl, rfl, ⟨x, rfl⟩, HB⟩ := hrel
          by_cases hk8 : k < 8
          · have hs := HI.out k
            rw [HB.out] at hs
            cases b with
            | false =>
              have HN := Lib.hid (show inK ⟨F, T, ⟨r1, r2⟩, hu⟩ (page / 8 * 8) (k + 1) = false from hs)
              clear hs
              go_wp2_with fail
              go_roundw
              case rel => exact ⟨k + 1, false, by omega, by go_num, rfl, (by repeat (first | exact Ext.refl _ | apply Ext.more | apply Ext.alloc | apply Ext.drew | apply Ext.drewN)), HN⟩
              case measure => simp [intOf]; omega
            | true =>
              by_cases c1 : F ≤ page / 8 * 8 + k
              · by_cases c2 : page / 8 * 8 + k < T
                · have HN := Lib.hid (show inK ⟨F, T, ⟨r1, r2⟩, hu⟩ (page / 8 * 8) (k + 1) = true from by rw [hs]; simp [c1, c2])
                  clear hs
                  go_wp2_with fail
                  go_roundw
                  case rel => exact ⟨k + 1, true, by omega, by go_num, rfl, (by repeat (first | exact Ext.refl _ | apply Ext.more | apply Ext.alloc | apply Ext.drew | apply Ext.drewN)), HN⟩
                  case measure => simp [intOf]; omega
                · have HN := Lib.hid (show inK ⟨F, T, ⟨r1, r2⟩, hu⟩ (page / 8 * 8) (k + 1) = false from by rw [hs]; simp [c1, c2])
                  clear hs
                  go_wp2_with fail
                  go_roundw
                  case rel => exact ⟨k + 1, false, by omega, by go_num, rfl, (by repeat (first | exact Ext.refl _ | apply Ext.more | apply Ext.alloc | apply Ext.drew | apply Ext.drewN)), HN⟩
                  case measure => simp [intOf]; omega
              · have HN := Lib.hid (show inK ⟨F, T, ⟨r1, r2⟩, hu⟩ (page / 8 * 8) (k + 1) = false from by rw [hs]; simp [c1])
                clear hs
                go_wp2_with fail
                go_roundw
                case rel => exact ⟨k + 1, false, by omega, by go_num, rfl, (by repeat (first | exact Ext.refl _ | apply Ext.more | apply Ext.alloc | apply Ext.drew | apply Ext.drewN)), HN⟩
                case measure => simp [intOf]; omega
          · obtain rfl : k = 8 := by omega
            have hb := H8.out.symm.trans HB.out
            clear HB
            cases b with
            | false =>
              have HN := Lib.hid (HMiss.out hb)
              clear HMiss HHit hb
              go_wp2_with fail
              go_roundw
              case rel => exact ⟨q + 1, by omega, by go_num, (by repeat (first | exact Ext.refl _ | apply Ext.more | apply Ext.alloc | apply Ext.drew | apply Ext.drewN)), HN⟩
              case measure => simp [intOf]; omega
            | true =>
              have HV := Lib.hid (HHit.out hb)
              clear HMiss HHit hb
              go_wp2_with fail
              go_ret
              exact ⟨(by repeat (first | exact Ext.refl _ | apply Ext.more | apply Ext.alloc | apply Ext.drew | apply Ext.drewN)), by rw [HV.out]; rfl⟩
      · obtain rfl : q = l.length := by omega
        have HV := Lib.hid (HQ.out.symm.trans (fitsFrom_end l (page / 8 * 8)))
        clear HQ
        go_wp2_with fail
        go_ret
        exact ⟨(by repeat (first | exact Ext.refl _ | apply Ext.more | apply Ext.alloc | apply Ext.drew | apply Ext.drewN)), by rw [HV.out]; rfl⟩
  · have hv : r = none := by rw [← HR.out]; unfold fitsR; rw [if_neg hin]
    have HV := Lib.hid hv
    have hin' : page < 0 ∨ (0 ≤ page ∧ 4095 < page) := by omega
    clear hv HR hin
    rcases hin' with h | ⟨h, h1⟩
    all_goals
      go_enter Try.func30, Try.ntmps30
      go_wp2_with fail
      go_ret
      exact ⟨(by repeat (first | exact Ext.refl _ | apply Ext.more | apply Ext.alloc | apply Ext.drew | apply Ext.drewN)), by rw [HV.out]; rfl⟩

end Go.Proofs.Ytmcjfnkekcablaa
