import Derived.Test.YtapeoeakiphfpaaOpen
import Derived.Test.YtapeoeakiphfpaaBPtdFound
import Derived.Test.YtapeoeakiphfpaaBMorfBedsStepsSamePart
import Derived.Deep.QuietTactic
import Derived.BigQuiet
import Derived.Test.YtapeoeakiphfpaaBErrisMovpSplitMerge
import Derived.Test.YtapeoeakiphfpaaBRefgCodeLawgNeed
import Derived.Test.YtapeoeakiphfpaaMergh
import Derived.Test.YtapeoeakiphfpaaWipe
/- Plain laws on areas: of which area's block a page may be. -/
namespace Go.Proofs.Ytapeoeakiphfpaa
open Go.RowKit
set_option linter.unusedVariables false
set_option linter.unusedSimpArgs false

def fitsB (first : Int) (a : Area) : Bool := a.fHuge && decide (a.fFrom ≤ first) && decide (first + 8 ≤ a.fTo)
/-- Which of the areas from the i-th on. -/
def fitsFrom (l : List Area) (first : Int) (i : Nat) : Option Nat := ((l.drop i).findIdx? (fitsB first)).map (· + i)
theorem fitsFrom_end (l : List Area) (first : Int) : fitsFrom l first l.length = none := by unfold fitsFrom; simp
theorem fitsFrom_hit {l : List Area} {first : Int} {i : Nat} {a : Area} (ha : l[i]? = some a) (h : fitsB first a = true) : fitsFrom l first i = some i := by
  obtain ⟨hi, rfl⟩ := List.getElem?_eq_some_iff.1 ha
  unfold fitsFrom
  rw [List.drop_eq_getElem_cons hi, List.findIdx?_cons, if_pos h]
  simp
theorem fitsFrom_miss {l : List Area} {first : Int} {i : Nat} {a : Area} (ha : l[i]? = some a) (h : fitsB first a = false) : fitsFrom l first i = fitsFrom l first (i + 1) := by
  obtain ⟨hi, rfl⟩ := List.getElem?_eq_some_iff.1 ha
  unfold fitsFrom
  rw [List.drop_eq_getElem_cons hi, List.findIdx?_cons, if_neg (by rw [h]; simp)]
  cases (l.drop (i + 1)).findIdx? (fitsB first) with
  | none => rfl
  | some k => simp; omega
theorem fitsFrom_lt {l : List Area} {first : Int} {i k : Nat} (h : fitsFrom l first i = some k) : k < l.length := by
  unfold fitsFrom at h
  rw [Option.map_eq_some_iff] at h
  obtain ⟨j, h1, h2⟩ := h
  have := (List.findIdx?_eq_some_iff_getElem.1 h1).1
  simp at this
  omega

end Go.Proofs.Ytapeoeakiphfpaa

/- The contracts of huge.Fits and of the document's answer paviorref16.Fits; the head of layer 16's laws; the law paviorlaw16.HugeFits. -/
namespace Go.Proofs.Ytapeoeakiphfpaa
open Go.RowKit
set_option linter.unusedVariables false
set_option linter.unusedSimpArgs false
attribute [local go_sem] setCell_drewN alloc_drewN lt_moreE le_moreE lt_moreK le_moreK cell_more frozen_more set_more drew_more drewN_more

def Area.v (a : Area) : Value := .agg #[.int .i64 a.fFrom, .int .i64 a.fTo, .bool a.fRights.fWrite, .bool a.fRights.fExec, .bool a.fHuge]
def zeroA : Area := ⟨0, 0, ⟨false, false⟩, false⟩
/-- What Fits tells of areas. -/
def fitsV (l : List Area) : Option Nat → Value
  | some k => .tuple #[(l.getD k zeroA).v, .bool true]
  | none => .tuple #[zeroA.v, .bool false]
/-- Which area. -/
def fitsR (l : List Area) (page : Int) : Option Nat := if 0 ≤ page ∧ page < 4096 then fitsFrom l (page - page % 8) 0 else none
theorem area_at {l : List Area} {k : Nat} (h : k < l.length) : (l.map Area.cells)[k]? = some (l[k]).cells := by
  rw [List.getElem?_map, List.getElem?_eq_getElem h]; rfl
theorem area_getD {l : List Area} {k : Nat} (h : k < l.length) : l.getD k zeroA = l[k] := by rw [List.getD_eq_getElem?_getD, List.getElem?_eq_getElem h]; rfl

set_option maxRecDepth 100000 in
set_option maxHeartbeats 4000000 in
theorem huge_Fits (w : World) (l : List Area) (hl : ∀ d ∈ l, d.wf) (v : Value) (hv : SlRd w v 5 (l.map Area.cells)) (page : Int) (hp : (Lit.int .i64 page).wf = true) (r : Option Nat) (hr : fitsR l page = r) :
    Calls Try.prog 87 #[v, .int .i64 page] w fun e w' => Ext w w' ∧ e = .returned (fitsV l r) := by
  obtain ⟨a, cap, rfl, hcap, hcells⟩ := hv.form
  rw [List.length_map] at *
  have hcap' : l.length ≤ 9223372036854775807 := by unfold maxLen at hcap; exact hcap
  have HC := Lib.hid hcells
  have HL := Lib.hid hl
  have HR := Lib.hid hr
  have f0 := i64_lo hp
  have f1 := i64_hi hp
  clear hcells hl hv hcap hr hp
  by_cases hin : 0 ≤ page ∧ page < 4096
  · obtain ⟨p0, p1⟩ := hin
    have hand := (and7 page p0 p1).2
    have hFR := HR.out
    unfold fitsR at hFR
    rw [if_pos ⟨p0, p1⟩] at hFR
    obtain ⟨fp, hfp⟩ : ∃ fp, page - page % 8 = fp := ⟨_, rfl⟩
    have hf0 : 0 ≤ fp := by omega
    have hf1 : fp + 7 < 4096 := by omega
    rw [hfp] at hFR hand
    have HFR := Lib.hid hFR
    clear hFR hfp HR
    go_enter Try.func87, Try.ntmps87
    go_wp2_with fail
    go_loopw [20] (fun i wr => ∃ q : Nat, q ≤ l.length ∧ i = .int .i64 q ∧ Ext (w.alloc (.cells #[.int .i64 0, .int .i64 0, .bool false, .bool false, .bool false] 158)) wr ∧ Hid (fitsFrom l fp q = r)) (fun i _ => l.length - (intOf i).toNat)
    case atStart => exact ⟨0, by omega, rfl, Ext.refl _, HFR⟩
    case round =>
      obtain ⟨q, hq, rfl, ⟨x, rfl⟩, HQ⟩ := hrel
      by_cases hlt : q < l.length
      · obtain ⟨ab, ao, rfl, hab, hcl⟩ := HC.out q _ (area_at hlt) (by simp [Area.cells])
        obtain ⟨k1, k2, k3⟩ := lt_facts hab
        have hwf := HL.out _ (List.getElem_mem hlt)
        have hz : l[q]? = some l[q] := List.getElem?_eq_getElem hlt
        have HHit := Lib.hid (fun h => HQ.out.symm.trans (fitsFrom_hit (first := fp) hz h))
        have HMiss := Lib.hid (fun h => (fitsFrom_miss (first := fp) hz h).symm.trans HQ.out)
        have HGD := Lib.hid (area_getD hlt)
        clear hz HQ
        generalize l[q] = z at *
        obtain ⟨F, T, ⟨r1, r2⟩, hu⟩ := z
        have x0 := hcl 0 _ rfl
        have x1 := hcl 1 _ rfl
        have x2 := hcl 2 _ rfl
        have x3 := hcl 3 _ rfl
        have x4 := hcl 4 _ rfl
        rw [← Nat.add_assoc] at x0 x1 x2 x3 x4
        rw [Nat.add_zero] at x0
        have b0 := i64_lo hwf.1
        have b1 := i64_hi hwf.1
        have b2 := i64_lo hwf.2
        have b3 := i64_hi hwf.2
        dsimp only at x0 x1 x2 x3 x4 b0 b1 b2 b3
        clear hcl hwf
        cases hu with
        | false =>
          have HN := Lib.hid (HMiss.out rfl)
          clear HMiss HHit
          go_wp2_with fail
          go_roundw
          case rel => exact ⟨q + 1, by omega, by go_num, (by repeat (first | exact Ext.refl _ | apply Ext.more | apply Ext.alloc | apply Ext.drew | apply Ext.drewN)), HN⟩
          case measure => simp [intOf]; omega
        | true =>
          by_cases hfit : F ≤ fp ∧ fp + 8 ≤ T
          · obtain ⟨g0, g1⟩ := hfit
            have HV := Lib.hid (HHit.out (by simp [fitsB, g0, g1]))
            clear HMiss HHit
            go_wp2_with fail
            refine bodyPost_ret (results_ct rfl _ _ w.heap.size 158 _ (0, 0) _ rfl (by repeat (first | (with_reducible exact heap_alloc_new _ _) | (with_reducible apply box_more) | (with_reducible apply box_alloc) | (with_reducible apply box_drew) | (with_reducible apply box_drewN))) Try.underlying158 rfl (by kernel_rfl)) rfl ?_
            refine ⟨(by repeat (first | exact Ext.refl _ | apply Ext.more | apply Ext.alloc | apply Ext.drew | apply Ext.drewN)), ?_⟩
            rw [HV.out]
            unfold fitsV
            dsimp only
            rw [HGD.out]
            rfl
          · have HN := Lib.hid (HMiss.out (by simp [fitsB]; omega))
            have hfit' : fp < F ∨ (F ≤ fp ∧ T < fp + 8) := by omega
            clear HMiss HHit hfit
            rcases hfit' with g0 | ⟨g0, g1⟩
            all_goals
              go_wp2_with fail
              go_roundw
              case rel => exact ⟨q + 1, by omega, by go_num, (by repeat (first | exact Ext.refl _ | apply Ext.more | apply Ext.alloc | apply Ext.drew | apply Ext.drewN)), HN⟩
              case measure => simp [intOf]; omega
      · obtain rfl : q = l.length := by omega
        have HV := Lib.hid (HQ.out.symm.trans (fitsFrom_end l fp))
        clear HQ
        go_wp2_with fail
        refine bodyPost_ret (results_ct rfl _ _ w.heap.size 158 _ (0, 0) _ rfl (by repeat (first | (with_reducible exact heap_alloc_new _ _) | (with_reducible apply box_more) | (with_reducible apply box_alloc) | (with_reducible apply box_drew) | (with_reducible apply box_drewN))) Try.underlying158 rfl (by kernel_rfl)) rfl ?_
        exact ⟨(by repeat (first | exact Ext.refl _ | apply Ext.more | apply Ext.alloc | apply Ext.drew | apply Ext.drewN)), by rw [HV.out]; rfl⟩
  · have hv : r = none := by rw [← HR.out]; unfold fitsR; rw [if_neg hin]
    have HV := Lib.hid hv
    have hin' : page < 0 ∨ (0 ≤ page ∧ 4096 ≤ page) := by omega
    clear hv HR hin
    rcases hin' with h | ⟨h, h1⟩
    all_goals
      go_enter Try.func87, Try.ntmps87
      go_wp2_with fail
      refine bodyPost_ret (results_ct rfl _ _ w.heap.size 158 _ (0, 0) _ rfl (by repeat (first | (with_reducible exact heap_alloc_new _ _) | (with_reducible apply box_more) | (with_reducible apply box_alloc) | (with_reducible apply box_drew) | (with_reducible apply box_drewN))) Try.underlying158 rfl (by kernel_rfl)) rfl ?_
      exact ⟨(by repeat (first | exact Ext.refl _ | apply Ext.more | apply Ext.alloc | apply Ext.drew | apply Ext.drewN)), by rw [HV.out]; rfl⟩

/-- Are the first k pages of a block in an area that may be of blocks? -/
def inK (a : Area) (first : Int) (k : Nat) : Bool := a.fHuge && (List.range k).all fun j => decide (a.fFrom ≤ first + j) && decide (first + j < a.fTo)
theorem inK_succ (a : Area) (first : Int) (k : Nat) : inK a first (k + 1) = (inK a first k && (decide (a.fFrom ≤ first + k) && decide (first + k < a.fTo))) := by
  unfold inK
  rw [List.range_succ, List.all_append]
  simp [Bool.and_assoc]
theorem inK_eight (a : Area) (first : Int) : inK a first 8 = fitsB first a := by
  unfold inK fitsB
  rw [Bool.eq_iff_iff]
  simp only [Bool.and_eq_true, List.all_eq_true, List.mem_range, decide_eq_true_eq]
  constructor
  · rintro ⟨h1, h2⟩
    have a0 := h2 0 (by omega)
    have a7 := h2 7 (by omega)
    exact ⟨⟨h1, by simpa using a0.1⟩, by omega⟩
  · rintro ⟨⟨h1, h2⟩, h3⟩
    exact ⟨h1, fun j hj => by omega⟩
def idxR : Option Nat → Int
  | some k => k
  | none => -1

end Go.Proofs.Ytapeoeakiphfpaa

/- The head of layer 16's laws; the laws paviorlaw16.HugeFits, paviorlaw16.HugeSplits. -/
namespace Go.Proofs.Ytapeoeakiphfpaa
open Go.RowKit
set_option linter.unusedVariables false
set_option linter.unusedSimpArgs false
attribute [local go_sem] setCell_drewN alloc_drewN lt_moreE le_moreE lt_moreK le_moreK cell_more frozen_more set_more drew_more drewN_more

def upA : List Area := [⟨0, 16, ⟨false, false⟩, true⟩]
def upB : List Area := [⟨0, 15, ⟨false, false⟩, true⟩]
theorem upA_fits : fitsR upA 9 = some 0 := by decide
theorem upB_fits : fitsR upB 9 = none := by decide
set_option maxRecDepth 100000 in
set_option maxHeartbeats 2000000 in
theorem law16_up (w : World) : Calls Try.prog 41 #[] w fun e w' => Ext w w' ∧ e = .returned (.bool true) := by
  have hwa : ∀ d ∈ upA, d.wf := by intro d hd; simp [upA] at hd; subst hd; exact ⟨(by decide), (by decide)⟩
  have hwb : ∀ d ∈ upB, d.wf := by intro d hd; simp [upB] at hd; subst hd; exact ⟨(by decide), (by decide)⟩
  have HA := Lib.hid (fun w v hv => huge_Fits w upA hwa v hv 9 (by decide) _ upA_fits)
  have HB := Lib.hid (fun w v hv => huge_Fits w upB hwb v hv 9 (by decide) _ upB_fits)
  have heq := fun (w : World) => eql_err w 1 1
  clear hwa hwb
  go_enter Try.func41, Try.ntmps41
  go_wp2_with fail
  refine (HA.out _ _ (own_rd (css := [[.int .i64 0, .int .i64 16, .bool false, .bool false, .bool true]]) (own_lit' (B := 0) (cs := #[.int .i64 0, .int .i64 16, .bool false, .bool false, .bool true]) (T := 158) (m := 1) (sz := 5) (by simp) (Nat.zero_le _) rfl (by decide) rfl rfl) rfl rfl (by decide))).mono ?_
  rintro e w' ⟨⟨ex1, rfl⟩, rfl⟩
  rw [show fitsV upA (some 0) = .tuple #[.agg #[.int .i64 0, .int .i64 16, .bool false, .bool false, .bool true], .bool true] from rfl]
  go_wp2_with fail
  refine (HB.out _ _ (own_rd (css := [[.int .i64 0, .int .i64 15, .bool false, .bool false, .bool true]]) (own_lit' (B := 0) (cs := #[.int .i64 0, .int .i64 15, .bool false, .bool false, .bool true]) (T := 158) (m := 1) (sz := 5) (by simp) (Nat.zero_le _) rfl (by decide) rfl rfl) rfl rfl (by decide))).mono ?_
  rintro e w' ⟨⟨ex2, rfl⟩, rfl⟩
  rw [show fitsV upB none = .tuple #[.agg #[.int .i64 0, .int .i64 0, .bool false, .bool false, .bool false], .bool false] from rfl]
  go_wp2_with fail
  refine (huge_Split_nil _ 0 0 0 0).mono ?_
  rintro e w' ⟨⟨ex3, rfl⟩, rfl⟩
  go_wp2_with fail
  go_ret
  exact ⟨(by repeat (first | exact Ext.refl _ | apply Ext.more | apply Ext.alloc | apply Ext.drew | apply Ext.drewN)), rfl⟩

end Go.Proofs.Ytapeoeakiphfpaa

/- The law paviorlaw16.HugeSplits. -/
namespace Go.Proofs.Ytapeoeakiphfpaa
open Go.RowKit
set_option linter.unusedVariables false
set_option linter.unusedSimpArgs false
attribute [local go_sem] setCell_drewN alloc_drewN lt_moreE le_moreE lt_moreK le_moreK cell_more frozen_more set_more drew_more drewN_more
theorem huge_SplitR (w : World) {b g n c : Nat} {ws : List Int} (hm : MemAt w b g n c ws) (hw : WOk ws) (root asid page fresh : Int) (h : HasP n root asid page fresh) (r : Option Found) (hr : walkAt ws n page 4 0 root = r) (R : StepsR) (hR : splitR ws asid fresh r = R) :
    Calls Try.prog 42 #[.pointer (some ⟨b, 0, none⟩), .int .i64 root, .int .i64 asid, .int .i64 page, .int .i64 fresh] w fun e w' => Ext w w' ∧ StepsRet w.heap.size w' R e := hR ▸ huge_Split w hm hw root asid page fresh h r hr
theorem splitR_no {ws : List Int} {asid fresh : Int} {r : Option Found} {k : Nat} (h : splitR ws asid fresh r = .no k) : k = 2 ∨ k = 7 := by
  unfold splitR at h
  split at h
  · cases h; exact .inl rfl
  · split at h
    · cases h
    · cases h; exact .inr rfl
theorem splitR_len {ws : List Int} {asid fresh : Int} {r : Option Found} {s : List Step} (h : splitR ws asid fresh r = .yes s) : s.length = 19 := by
  unfold splitR at h
  split at h
  · cases h
  · split at h
    · cases h; exact splitS_len _ _ _ _
    · cases h

end Go.Proofs.Ytapeoeakiphfpaa

/- The law paviorlaw16.HugeStays. -/
namespace Go.Proofs.Ytapeoeakiphfpaa
open Go.RowKit
set_option linter.unusedVariables false
set_option linter.unusedSimpArgs false
attribute [local go_sem] setCell_drewN alloc_drewN lt_moreE le_moreE lt_moreK le_moreK cell_more frozen_more set_more drew_more drewN_more

/-- An error, or none: compared with nil. -/
theorem nil_told {ev : Value} (h : ev = .nilIface ∨ ∃ k : Nat, ev = errW k) : ∃ b : Bool, (∀ w, (binOp .eql 27 ev .nilIface).run Try.prog w = .ok (.bool b) w) ∧ ∀ x c w, (eqGuard .eql 27 x (.const c) ev .nilIface).run Try.prog w = .ok () w := by
  have h1 : ∀ (w : World) (d : Nat) (tp : TypeId) (v : Value), (Op.equalIn (d + 1) 27 (.iface tp v) .nilIface).run Try.prog w = .ok false w := fun w d tp v => by simp [Op.equalIn, run_underlying Try.underlying27]
  have h2 : ∀ (w : World) (d : Nat), (Op.equalIn (d + 1) 27 .nilIface .nilIface).run Try.prog w = .ok true w := fun w d => by simp [Op.equalIn, run_underlying Try.underlying27]
  rcases h with rfl | ⟨k, rfl⟩
  · exact ⟨true, fun w => by simp only [binOp]; simp [Op.equal, Op.maxDepth, h2 w 9999], fun x c w => by simp [eqGuard]⟩
  · exact ⟨false, fun w => by simp only [binOp]; simp [Op.equal, Op.maxDepth, h1 w 9999], fun x c w => by simp [eqGuard]⟩
theorem first_split (ws : List Int) (asid fresh : Int) (r : Option Found) : FirstK 4 (splitR ws asid fresh r) := by
  intro s hs
  have hl := splitR_len hs
  refine ⟨by omega, fun h hh => ?_⟩
  unfold splitR at hs
  split at hs
  · cases hs
  · split at hs
    · cases hs
      simp [splitS] at hh
      rw [← hh]; rfl
    · cases hs
theorem huge_Split_any (n : Nat) (ws : List Int) (hw : WOk ws) (root asid page fresh : Int) : ∃ k ev, k ≤ 900000 ∧ (ev = .nilIface ∨ ∃ k : Nat, ev = errW k) ∧ ∀ w b g c, MemAt w b g n c ws → Calls Try.prog 42 #[.pointer (some ⟨b, 0, none⟩), .int .i64 root, .int .i64 asid, .int .i64 page, .int .i64 fresh] w fun e w' => Ext w w' ∧ Told 4 k ev w.heap.size w' e := by
  by_cases h : HasP n root asid page fresh
  · exact told_any (args := #[.int .i64 root, .int .i64 asid, .int .i64 page, .int .i64 fresh]) (first_split _ _ _ _) fun w b g c hm => huge_Split w hm hw root asid page fresh h _ rfl
  · exact told_any (args := #[.int .i64 root, .int .i64 asid, .int .i64 page, .int .i64 fresh]) (R := .no 1) (fun s hs => (by cases hs)) fun w b g c hm => huge_Split_no w hm root asid page fresh h
/-- What was told of a merging. -/
def ToldM (k j : Nat) (ev : Value) (B : Nat) (w' : World) (e : Ending) : Prop := ∃ a cap t a2 cap2, e = .returned (.tuple #[.slice a k cap, .int .i64 t, .slice a2 j cap2, ev]) ∧ Row w' B 104 2 (.slice a2 j cap2) j ∧ j ≤ cap2 ∧ cap2 ≤ maxLen
theorem huge_Merge_any (n : Nat) (ws : List Int) (hw : WOk ws) (root asid page base : Int) (wr ex : Bool) : ∃ k j ev, (ev = .nilIface ∨ ∃ k : Nat, ev = errW k) ∧ ∀ w b g c, MemAt w b g n c ws → Calls Try.prog 57 #[.pointer (some ⟨b, 0, none⟩), .int .i64 root, .int .i64 asid, .int .i64 page, .int .i64 base, .agg #[.bool wr, .bool ex]] w fun e w' => Ext w w' ∧ ToldM k j ev w.heap.size w' e := by
  have no : ∀ (B : Nat) (w' : World) (e : Ending) (k : Nat), e = .returned (.tuple #[.slice none 0 0, .int .i64 0, .slice none 0 0, errW k]) → ToldM 0 0 (errW k) B w' e := fun B w' e k h => ⟨none, 0, 0, none, 0, h, Row.nil _ _ _ _, Nat.le_refl _, by simp⟩
  by_cases h : MayM n root asid page base
  · cases hR : mergeRes ws asid page base wr ex (wayAt ws n page 4 0 root) with
    | no k => exact ⟨0, 0, _, .inr ⟨k, rfl⟩, fun w b g c hm => (huge_Merge w hm hw root asid page base wr ex h _ rfl).mono fun e w' ⟨h1, h2⟩ => ⟨h1, no _ _ _ _ (by rw [hR] at h2; exact h2)⟩⟩
    | yes s t l => exact ⟨s.length, l.length, _, .inl rfl, fun w b g c hm => (huge_Merge w hm hw root asid page base wr ex h _ rfl).mono fun e w' ⟨h1, h2⟩ => ⟨h1, by
        rw [hR] at h2
        obtain ⟨a, cap, a2, cap2, he, _, ho⟩ := h2
        have hc := own_cap ho
        exact ⟨a, cap, t, a2, cap2, he, .of ho, hc.2.1, hc.2.2⟩⟩⟩
  · exact ⟨0, 0, _, .inr ⟨1, rfl⟩, fun w b g c hm => (huge_Merge_no w hm root asid page base wr ex h).mono fun e w' ⟨h1, h2⟩ => ⟨h1, no _ _ _ 1 h2⟩⟩
/-- A row's cells at the q-th element of two. -/
theorem row_two {w : World} {g n : Nat} (h : ∀ j, j < n * 2 → ∃ u, w.cell? ⟨g, j, none⟩ = some u) (q : Nat) (hq : q < n) : ∃ u0 u1, w.cell? ⟨g, q * 2, none⟩ = some u0 ∧ w.cell? ⟨g, q * 2 + 1, none⟩ = some u1 := by
  obtain ⟨u0, h0⟩ := h (q * 2) (by omega)
  obtain ⟨u1, h1⟩ := h (q * 2 + 1) (by omega)
  exact ⟨u0, u1, h0, h1⟩
theorem row_aside {w : World} {B sz n g : Nat} {T : TypeId} {v : Value} (h : Row w B T sz v n) (hg : g < B) (j : Nat) (u : Value) : Row (w.setCell ⟨g, j, none⟩ u) B T sz v n := ⟨_, ownsRow_setCell_below h.choose_spec (a := ⟨g, j, none⟩) hg u⟩

end Go.Proofs.Ytapeoeakiphfpaa
