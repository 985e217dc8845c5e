import Derived.Test.YtapeoeakiphfpaaOpen
import Derived.Test.YtapeoeakiphfpaaFound
import Derived.Test.YtapeoeakiphfpaaBRefgMorf
import Derived.Deep.QuietTactic
import Derived.BigQuiet
import Derived.Test.YtapeoeakiphfpaaSplit
import Derived.Test.YtapeoeakiphfpaaBPathpSemtCodeLawg
import Derived.Test.YtapeoeakiphfpaaMergr
import Derived.Test.YtapeoeakiphfpaaHugp
/- Plain laws on areas: of which area's block a page may be. -/
namespace Go.Proofs.Ytapeoeakiphfpaa
open Go.RowKit
set_option linter.unusedVariables false
set_option linter.unusedSimpArgs false

def fitsB (first : Int) (a : Area) : Bool := a.fHuge && decide (a.fFrom ≤ first) && decide (first + 8 ≤ a.fTo)
/-- Which of the areas from the i-th on. -/
def fitsFrom (l : List Area) (first : Int) (i : Nat) : Option Nat := ((l.drop i).findIdx? (fitsB first)).map (· + i)
theorem fitsFrom_end (l : List Area) (first : Int) : fitsFrom l first l.length = none := by unfold fitsFrom; simp
theorem fitsFrom_hit {l : List Area} {first : Int} {i : Nat} {a : Area} (ha : l[i]? = some a) (h : fitsB first a = true) : fitsFrom l first i = some i := by
  obtain ⟨hi, rfl⟩ := List.getElem?_eq_some_iff.1 ha
  unfold fitsFrom
  rw [List.drop_eq_getElem_cons hi, List.findIdx?_cons, if_pos h]
  simp
theorem fitsFrom_miss {l : List Area} {first : Int} {i : Nat} {a : Area} (ha : l[i]? = some a) (h : fitsB first a = false) : fitsFrom l first i = fitsFrom l first (i + 1) := by
  obtain ⟨hi, rfl⟩ := List.getElem?_eq_some_iff.1 ha
  unfold fitsFrom
  rw [List.drop_eq_getElem_cons hi, List.findIdx?_cons, if_neg (by rw [h]; simp)]
  cases (l.drop (i + 1)).findIdx? (fitsB first) with
  | none => rfl
  | some k => simp; omega
theorem fitsFrom_lt {l : List Area} {first : Int} {i k : Nat} (h : fitsFrom l first i = some k) : k < l.length := by
  unfold fitsFrom at h
  rw [Option.map_eq_some_iff] at h
  obtain ⟨j, h1, h2⟩ := h
  have := (List.findIdx?_eq_some_iff_getElem.1 h1).1
  simp at this
  omega

end Go.Proofs.Ytapeoeakiphfpaa

/- The contracts of huge.Fits and of the document's answer paviorref16.Fits; the head of layer 16's laws; the law paviorlaw16.HugeFits. -/
namespace Go.Proofs.Ytapeoeakiphfpaa
open Go.RowKit
set_option linter.unusedVariables false
set_option linter.unusedSimpArgs false
attribute [local go_sem] setCell_drewN alloc_drewN lt_moreE le_moreE lt_moreK le_moreK cell_more frozen_more set_more drew_more drewN_more

def Area.v (a : Area) : Value := .agg #[.int .i64 a.fFrom, .int .i64 a.fTo, .bool a.fRights.fWrite, .bool a.fRights.fExec, .bool a.fHuge]
def zeroA : Area := ⟨0, 0, ⟨false, false⟩, false⟩
/-- What Fits tells of areas. -/
def fitsV (l : List Area) : Option Nat → Value
  | some k => .tuple #[(l.getD k zeroA).v, .bool true]
  | none => .tuple #[zeroA.v, .bool false]
/-- Which area. -/
def fitsR (l : List Area) (page : Int) : Option Nat := if 0 ≤ page ∧ page < 4096 then fitsFrom l (page - page % 8) 0 else none
theorem area_at {l : List Area} {k : Nat} (h : k < l.length) : (l.map Area.cells)[k]? = some (l[k]).cells := by
  rw [List.getElem?_map, List.getElem?_eq_getElem h]; rfl
theorem area_getD {l : List Area} {k : Nat} (h : k < l.length) : l.getD k zeroA = l[k] := by rw [List.getD_eq_getElem?_getD, List.getElem?_eq_getElem h]; rfl

set_option maxRecDepth 100000 in
set_option maxHeartbeats 4000000 in
theorem huge_Fits (w : World) (l : List Area) (hl : ∀ d ∈ l, d.wf) (v : Value) (hv : SlRd w v 5 (l.map Area.cells)) (page : Int) (hp : (Lit.int .i64 page).wf = true) (r : Option Nat) (hr : fitsR l page = r) :
    Calls Try.prog 87 #[v, .int .i64 page] w fun e w' => Ext w w' ∧ e = .returned (fitsV l r) := by
  obtain ⟨a, cap, rfl, hcap, hcells⟩ := hv.form
  rw [List.length_map] at *
  have hcap' : l.length ≤ 9223372036854775807 := by unfold maxLen at hcap; exact hcap
  have HC := Lib.hid hcells
  have HL := Lib.hid hl
  have HR := Lib.hid hr
  have f0 := i64_lo hp
  have f1 := i64_hi hp
  clear hcells hl hv hcap hr hp
  by_cases hin : 0 ≤ page ∧ page < 4096
  · obtain ⟨p0, p1⟩ := hin
    have hand := (and7 page p0 p1).2
    have hFR := HR.out
    unfold fitsR at hFR
    rw [if_pos ⟨p0, p1⟩] at hFR
    obtain ⟨fp, hfp⟩ : ∃ fp, page - page % 8 = fp := ⟨_, rfl⟩
    have hf0 : 0 ≤ fp := by omega
    have hf1 : fp + 7 < 4096 := by omega
    rw [hfp] at hFR hand
    have HFR := Lib.hid hFR
    clear hFR hfp HR
    go_enter Try.func87, Try.ntmps87
    go_wp2_with fail
    go_loopw [20] (fun i wr => ∃ q : Nat, q ≤ l.length ∧ i = .int .i64 q ∧ Ext (w.alloc (.cells #[.int .i64 0, .int .i64 0, .bool false, .bool false, .bool false] 158)) wr ∧ Hid (fitsFrom l fp q = r)) (fun i _ => l.length - (intOf i).toNat)
    case atStart => exact ⟨0, by omega, rfl, Ext.refl _, HFR⟩
    case round =>
      obtain ⟨q, hq, rfl, ⟨x, rfl⟩, HQ⟩ := hrel
      by_cases hlt : q < l.length
      · obtain ⟨ab, ao, rfl, hab, hcl⟩ := HC.out q _ (area_at hlt) (by simp [Area.cells])
        obtain ⟨k1, k2, k3⟩ := lt_facts hab
        have hwf := HL.out _ (List.getElem_mem hlt)
        have hz : l[q]? = some l[q] := List.getElem?_eq_getElem hlt
        have HHit := Lib.hid (fun h => HQ.out.symm.trans (fitsFrom_hit (first := fp) hz h))
        have HMiss := Lib.hid (fun h => (fitsFrom_miss (first := fp) hz h).symm.trans HQ.out)
        have HGD := Lib.hid (area_getD hlt)
        clear hz HQ
        generalize l[q] = z at *
        obtain ⟨F, T, ⟨r1, r2⟩, hu⟩ := z
        have x0 := hcl 0 _ rfl
        have x1 := hcl 1 _ rfl
        have x2 := hcl 2 _ rfl
        have x3 := hcl 3 _ rfl
        have x4 := hcl 4 _ rfl
        rw [← Nat.add_assoc] at x0 x1 x2 x3 x4
        rw [Nat.add_zero] at x0
        have b0 := i64_lo hwf.1
        have b1 := i64_hi hwf.1
        have b2 := i64_lo hwf.2
        have b3 := i64_hi hwf.2
        dsimp only at x0 x1 x2 x3 x4 b0 b1 b2 b3
        clear hcl hwf
        cases hu with
        | false =>
          have HN := Lib.hid (HMiss.out rfl)
          clear HMiss HHit
          go_wp2_with fail
          go_roundw
          case rel => exact ⟨q + 1, by omega, by go_num, (by repeat (first | exact Ext.refl _ | apply Ext.more | apply Ext.alloc | apply Ext.drew | apply Ext.drewN)), HN⟩
          case measure => simp [intOf]; omega
        | true =>
          by_cases hfit : F ≤ fp ∧ fp + 8 ≤ T
          · obtain ⟨g0, g1⟩ := hfit
            have HV := Lib.hid (HHit.out (by simp [fitsB, g0, g1]))
            clear HMiss HHit
            go_wp2_with fail
            refine bodyPost_ret (results_ct rfl _ _ w.heap.size 158 _ (0, 0) _ rfl (by repeat (first | (with_reducible exact heap_alloc_new _ _) | (with_reducible apply box_more) | (with_reducible apply box_alloc) | (with_reducible apply box_drew) | (with_reducible apply box_drewN))) Try.underlying158 rfl (by kernel_rfl)) rfl ?_
            refine ⟨(by repeat (first | exact Ext.refl _ | apply Ext.more | apply Ext.alloc | apply Ext.drew | apply Ext.drewN)), ?_⟩
            rw [HV.out]
            unfold fitsV
            dsimp only
            rw [HGD.out]
            rfl
          · have HN := Lib.hid (HMiss.out (by simp [fitsB]; omega))
            have hfit' : fp < F ∨ (F ≤ fp ∧ T < fp + 8) := by omega
            clear HMiss HHit hfit
            rcases hfit' with g0 | ⟨g0, g1⟩
            all_goals
              go_wp2_with fail
              go_roundw
              case rel => exact ⟨q + 1, by omega, by go_num, (by repeat (first | exact Ext.refl _ | apply Ext.more | apply Ext.alloc | apply Ext.drew | apply Ext.drewN)), HN⟩
              case measure => simp [intOf]; omega
      · obtain rfl : q = l.length := by omega
        have HV := Lib.hid (HQ.out.symm.trans (fitsFrom_end l fp))
        clear HQ
        go_wp2_with fail
        refine bodyPost_ret (results_ct rfl _ _ w.heap.size 158 _ (0, 0) _ rfl (by repeat (first | (with_reducible exact heap_alloc_new _ _) | (with_reducible apply box_more) | (with_reducible apply box_alloc) | (with_reducible apply box_drew) | (with_reducible apply box_drewN))) Try.underlying158 rfl (by kernel_rfl)) rfl ?_
        exact ⟨(by repeat (first | exact Ext.refl _ | apply Ext.more | apply Ext.alloc | apply Ext.drew | apply Ext.drewN)), by rw [HV.out]; rfl⟩
  · have hv : r = none := by rw [← HR.out]; unfold fitsR; rw [if_neg hin]
    have HV := Lib.hid hv
    have hin' : page < 0 ∨ (0 ≤ page ∧ 4096 ≤ page) := by omega
    clear hv HR hin
    rcases hin' with h | ⟨h, h1⟩
    all_goals
      go_enter Try.func87, Try.ntmps87
      go_wp2_with fail
      refine bodyPost_ret (results_ct rfl _ _ w.heap.size 158 _ (0, 0) _ rfl (by repeat (first | (with_reducible exact heap_alloc_new _ _) | (with_reducible apply box_more) | (with_reducible apply box_alloc) | (with_reducible apply box_drew) | (with_reducible apply box_drewN))) Try.underlying158 rfl (by kernel_rfl)) rfl ?_
      exact ⟨(by repeat (first | exact Ext.refl _ | apply Ext.more | apply Ext.alloc | apply Ext.drew | apply Ext.drewN)), by rw [HV.out]; rfl⟩

/-- Are the first k pages of a block in an area that may be of blocks? -/
def inK (a : Area) (first : Int) (k : Nat) : Bool := a.fHuge && (List.range k).all fun j => decide (a.fFrom ≤ first + j) && decide (first + j < a.fTo)
theorem inK_succ (a : Area) (first : Int) (k : Nat) : inK a first (k + 1) = (inK a first k && (decide (a.fFrom ≤ first + k) && decide (first + k < a.fTo))) := by
  unfold inK
  rw [List.range_succ, List.all_append]
  simp [Bool.and_assoc]
theorem inK_eight (a : Area) (first : Int) : inK a first 8 = fitsB first a := by
  unfold inK fitsB
  rw [Bool.eq_iff_iff]
  simp only [Bool.and_eq_true, List.all_eq_true, List.mem_range, decide_eq_true_eq]
  constructor
  · rintro ⟨h1, h2⟩
    have a0 := h2 0 (by omega)
    have a7 := h2 7 (by omega)
    exact ⟨⟨h1, by simpa using a0.1⟩, by omega⟩
  · rintro ⟨⟨h1, h2⟩, h3⟩
    exact ⟨h1, fun j hj => by omega⟩
def idxR : Option Nat → Int
  | some k => k
  | none => -1

end Go.Proofs.Ytapeoeakiphfpaa

/- The head of layer 16's laws; the laws paviorlaw16.HugeFits, paviorlaw16.HugeSplits. -/
namespace Go.Proofs.Ytapeoeakiphfpaa
open Go.RowKit
set_option linter.unusedVariables false
set_option linter.unusedSimpArgs false
attribute [local go_sem] setCell_drewN alloc_drewN lt_moreE le_moreE lt_moreK le_moreK cell_more frozen_more set_more drew_more drewN_more

def upA : List Area := [⟨0, 16, ⟨false, false⟩, true⟩]
def upB : List Area := [⟨0, 15, ⟨false, false⟩, true⟩]
theorem upA_fits : fitsR upA 9 = some 0 := by decide
theorem upB_fits : fitsR upB 9 = none := by decide
set_option maxRecDepth 100000 in
set_option maxHeartbeats 2000000 in
theorem law16_up (w : World) : Calls Try.prog 41 #[] w fun e w' => Ext w w' ∧ e = .returned (.bool true) := by
  have hwa : ∀ d ∈ upA, d.wf := by intro d hd; simp [upA] at hd; subst hd; exact ⟨(by decide), (by decide)⟩
  have hwb : ∀ d ∈ upB, d.wf := by intro d hd; simp [upB] at hd; subst hd; exact ⟨(by decide), (by decide)⟩
  have HA := Lib.hid (fun w v hv => huge_Fits w upA hwa v hv 9 (by decide) _ upA_fits)
  have HB := Lib.hid (fun w v hv => huge_Fits w upB hwb v hv 9 (by decide) _ upB_fits)
  have heq := fun (w : World) => eql_err w 1 1
  clear hwa hwb
  go_enter Try.func41, Try.ntmps41
  go_wp2_with fail
  refine (HA.out _ _ (own_rd (css := [[.int .i64 0, .int .i64 16, .bool false, .bool false, .bool true]]) (own_lit' (B := 0) (cs := #[.int .i64 0, .int .i64 16, .bool false, .bool false, .bool true]) (T := 158) (m := 1) (sz := 5) (by simp) (Nat.zero_le _) rfl (by decide) rfl rfl) rfl rfl (by decide))).mono ?_
  rintro e w' ⟨⟨ex1, rfl⟩, rfl⟩
  rw [show fitsV upA (some 0) = .tuple #[.agg #[.int .i64 0, .int .i64 16, .bool false, .bool false, .bool true], .bool true] from rfl]
  go_wp2_with fail
  refine (HB.out _ _ (own_rd (css := [[.int .i64 0, .int .i64 15, .bool false, .bool false, .bool true]]) (own_lit' (B := 0) (cs := #[.int .i64 0, .int .i64 15, .bool false, .bool false, .bool true]) (T := 158) (m := 1) (sz := 5) (by simp) (Nat.zero_le _) rfl (by decide) rfl rfl) rfl rfl (by decide))).mono ?_
  rintro e w' ⟨⟨ex2, rfl⟩, rfl⟩
  rw [show fitsV upB none = .tuple #[.agg #[.int .i64 0, .int .i64 0, .bool false, .bool false, .bool false], .bool false] from rfl]
  go_wp2_with fail
  refine (huge_Split_nil _ 0 0 0 0).mono ?_
  rintro e w' ⟨⟨ex3, rfl⟩, rfl⟩
  go_wp2_with fail
  go_ret
  exact ⟨(by repeat (first | exact Ext.refl _ | apply Ext.more | apply Ext.alloc | apply Ext.drew | apply Ext.drewN)), rfl⟩

end Go.Proofs.Ytapeoeakiphfpaa

/- The law paviorlaw16.HugeSplits. -/
namespace Go.Proofs.Ytapeoeakiphfpaa
open Go.RowKit
set_option linter.unusedVariables false
set_option linter.unusedSimpArgs false
attribute [local go_sem] setCell_drewN alloc_drewN lt_moreE le_moreE lt_moreK le_moreK cell_more frozen_more set_more drew_more drewN_more
theorem huge_SplitR (w : World) {b g n c : Nat} {ws : List Int} (hm : MemAt w b g n c ws) (hw : WOk ws) (root asid page fresh : Int) (h : HasP n root asid page fresh) (r : Option Found) (hr : walkAt ws n page 4 0 root = r) (R : StepsR) (hR : splitR ws asid fresh r = R) :
    Calls Try.prog 42 #[.pointer (some ⟨b, 0, none⟩), .int .i64 root, .int .i64 asid, .int .i64 page, .int .i64 fresh] w fun e w' => Ext w w' ∧ StepsRet w.heap.size w' R e := hR ▸ huge_Split w hm hw root asid page fresh h r hr
theorem splitR_no {ws : List Int} {asid fresh : Int} {r : Option Found} {k : Nat} (h : splitR ws asid fresh r = .no k) : k = 2 ∨ k = 7 := by
  unfold splitR at h
  split at h
  · cases h; exact .inl rfl
  · split at h
    · cases h
    · cases h; exact .inr rfl
theorem splitR_len {ws : List Int} {asid fresh : Int} {r : Option Found} {s : List Step} (h : splitR ws asid fresh r = .yes s) : s.length = 19 := by
  unfold splitR at h
  split at h
  · cases h
  · split at h
    · cases h; exact splitS_len _ _ _ _
    · cases h

end Go.Proofs.Ytapeoeakiphfpaa

/- The law paviorlaw16.HugeMerges. -/
namespace Go.Proofs.Ytapeoeakiphfpaa
open Go.RowKit
set_option linter.unusedVariables false
set_option linter.unusedSimpArgs false
attribute [local go_sem] setCell_drewN alloc_drewN lt_moreE le_moreE lt_moreK le_moreK cell_more frozen_more set_more drew_more drewN_more

theorem huge_MergeR (w : World) {b g n c : Nat} {ws : List Int} (hm : MemAt w b g n c ws) (hw : WOk ws) (root asid page base : Int) (wr ex : Bool) (h : MayM n root asid page base) (R : MergeR) (hR : mergeRes ws asid page base wr ex (wayAt ws n page 4 0 root) = R) :
    Calls Try.prog 57 #[.pointer (some ⟨b, 0, none⟩), .int .i64 root, .int .i64 asid, .int .i64 page, .int .i64 base, .agg #[.bool wr, .bool ex]] w fun e w' => Ext w w' ∧ MergeRet w.heap.size w' .nilIface R e (fun k => errW k) := hR ▸ huge_Merge w hm hw root asid page base wr ex h _ rfl
theorem mergeR_no {ws : List Int} {asid page base : Int} {wr ex : Bool} {r : Option (List (Int × Int) × Desc)} {k : Nat} (h : mergeRes ws asid page base wr ex r = .no k) : k = 2 ∨ k = 7 := by
  unfold mergeRes at h
  split at h
  · cases h; exact .inl rfl
  · split at h
    · cases h; exact .inr rfl
    · split at h
      · cases h; exact .inr rfl
      · cases h
theorem mergeR_yes {ws : List Int} {asid page base t : Int} {wr ex : Bool} {r : Option (List (Int × Int) × Desc)} {s : List Step} {l : List (Int × Int)} (h : mergeRes ws asid page base wr ex r = .yes s t l) : 1 ≤ s.length ∧ s.length ≤ 1000 ∧ l.length ≤ 8 := by
  cases r with
  | none => cases h
  | some r =>
    obtain ⟨s', d'⟩ := r
    by_cases h4 : s'.length < 4
    · unfold mergeRes at h
      dsimp only at h
      rw [if_pos h4] at h
      cases h
    · cases hp : pagesN ws (s'.getD 3 (0, 0)).1 page 8 with
      | none => rw [mergeRes_no h4 hp] at h; cases h
      | some l' =>
        rw [mergeRes_yes h4 hp] at h
        have hl : l'.length ≤ 8 := by rw [(pagesN_pgs hp).1]; exact pgs_len
        have h2 := (fillN_len ws (s'.getD 3 (0, 0)).1 base 8).2
        cases h
        refine ⟨by simp only [mergeS, List.length_append, List.length_cons, List.length_nil]; omega, ?_, hl⟩
        simp only [mergeS, List.length_append, awayM_len, swapS_len, List.length_cons, List.length_nil]
        omega

end Go.Proofs.Ytapeoeakiphfpaa

/- Plain laws behind HugeJoins: what copies and clears do; gaps that were told stay told. -/
namespace Go.Proofs.Ytapeoeakiphfpaa
open Go.RowKit
set_option linter.unusedVariables false
set_option linter.unusedSimpArgs false

theorem told_keep (T : List Step) (c : GC) (h : c.told.count false = 0) : (T.foldl (fun c s => tellC s.fAsid s.fFirst c) c).told.count false = 0 := by
  obtain ⟨_, _, _, _, hl, hk⟩ := tells_same T c
  rw [List.count_eq_zero] at h ⊢
  intro hf
  obtain ⟨i, hi, he⟩ := List.getElem_of_mem hf
  refine h ?_
  have hi2 : i < c.told.length := by omega
  cases hc : c.told[i] with
  | false => exact hc ▸ List.getElem_mem hi2
  | true =>
    have := hk i (by rw [List.getD_eq_getElem?_getD, List.getElem?_eq_getElem hi2, hc]; rfl)
    rw [List.getD_eq_getElem?_getD, List.getElem?_eq_getElem hi, he] at this
    cases this
theorem safe_pass {n : Nat} : ∀ (F : List Step) (ws : List Int) (G : List GC) (rest : List Step), (∀ s ∈ F, (s.fKind = 4 ∨ s.fKind = 5) ∧ StepOk s) → Safe n (doW n ws F) G rest → Safe n ws G (F ++ rest) := by
  intro F
  induction F with
  | nil => intro ws G rest _ h; exact h
  | cons s F ih =>
    intro ws G rest hF h
    rw [List.cons_append]
    refine .pass (hF s (.head _)).1 (hF s (.head _)).2 (ih _ _ _ (fun x hx => hF x (.tail _ hx)) ?_)
    rw [doW_cons] at h
    exact h
theorem copies_do {n : Nat} {to frm : Int} (t0 : 0 ≤ to) (t1 : to < n) (f0 : 0 ≤ frm) (f1 : frm < n) (hne : frm ≠ to) : ∀ (k : Nat) (us : List Int), k ≤ 8 → us.length = n * 8 →
    ∀ j : Nat, (doW n us (copiesN to frm k)).getD j 0 = if j / 8 = to.toNat ∧ j % 8 < k then us.getD (frm.toNat * 8 + j % 8) 0 else us.getD j 0 := by
  intro k
  induction k with
  | zero => intro us _ _ j; rw [if_neg (by omega)]; rfl
  | succ k ih =>
    intro us hk hl j
    rw [copiesN_succ, doW_append, doW_cons]
    have hlen : (doW n us (copiesN to frm k)).length = n * 8 := by rw [doW_len]; exact hl
    have hst : stepW n (doW n us (copiesN to frm k)) (copyS to frm k) = (doW n us (copiesN to frm k)).set (to.toNat * 8 + k) ((doW n us (copiesN to frm k)).getD (frm.toNat * 8 + k) 0) := by
      unfold stepW copyS
      dsimp only
      rw [if_neg (by omega), if_neg (by omega), if_pos rfl, if_pos (by rw [show hasB n to (k : Int) = true from decide_eq_true ⟨t0, t1, by omega, by omega⟩, show hasB n frm (k : Int) = true from decide_eq_true ⟨f0, f1, by omega, by omega⟩]; rfl), Int.toNat_natCast]
    rw [hst]
    show (((doW n us (copiesN to frm k)).set (to.toNat * 8 + k) ((doW n us (copiesN to frm k)).getD (frm.toNat * 8 + k) 0))).getD j 0 = _
    rw [getD_setI, ih us (by omega) hl, ih us (by omega) hl]
    by_cases h : to.toNat * 8 + k = j
    · rw [if_pos ⟨h, by omega⟩, if_neg (by omega), if_pos (by omega), show j % 8 = k by omega]
    · rw [if_neg (fun hh => h hh.1)]
      by_cases h2 : j / 8 = to.toNat ∧ j % 8 < k
      · rw [if_pos h2, if_pos (by omega)]
      · rw [if_neg h2, if_neg (by omega)]
/-- Frames that the block's frames are filled from. -/
structure FillOk (n : Nat) (ws : List Int) (t base : Int) : Prop where
  b0 : 0 ≤ base
  b1 : base + 7 < n
  fr : ∀ i : Nat, i < 8 → (wordD ws t i).fKind = 3 → 0 ≤ (wordD ws t i).fFrame ∧ (wordD ws t i).fFrame < n ∧ ∀ j : Nat, j < 8 → (wordD ws t i).fFrame ≠ base + (j : Int)
theorem fill_do {n : Nat} {ws : List Int} {t base : Int} (h : FillOk n ws t base) : ∀ (k : Nat) (us : List Int), k ≤ 8 → us.length = n * 8 →
    (∀ i m : Nat, i < k → m < 8 → (doW n us (fillN ws t base k)).getD ((base + (i : Int)).toNat * 8 + m) 0 = if (wordD ws t i).fKind = 3 then us.getD ((wordD ws t i).fFrame.toNat * 8 + m) 0 else 0) ∧
    ∀ j : Nat, (∀ i : Nat, i < k → j / 8 ≠ (base + (i : Int)).toNat) → (doW n us (fillN ws t base k)).getD j 0 = us.getD j 0 := by
  have hb0 := h.b0
  have hb1 := h.b1
  intro k
  induction k with
  | zero => intro us _ _; exact ⟨fun i m hi => by omega, fun j _ => rfl⟩
  | succ k ih =>
    intro us hk hl
    obtain ⟨i1, i2⟩ := ih us (by omega) hl
    have hlen : (doW n us (fillN ws t base k)).length = n * 8 := by rw [doW_len]; exact hl
    have hfi : fillN ws t base (k + 1) = fillN ws t base k ++ fillOne ws t base k := rfl
    rw [hfi, doW_append]
    generalize doW n us (fillN ws t base k) = vs at *
    have hone : (∀ m : Nat, m < 8 → (doW n vs (fillOne ws t base k)).getD ((base + (k : Int)).toNat * 8 + m) 0 = if (wordD ws t k).fKind = 3 then us.getD ((wordD ws t k).fFrame.toNat * 8 + m) 0 else 0) ∧ ∀ j : Nat, j / 8 ≠ (base + (k : Int)).toNat → (doW n vs (fillOne ws t base k)).getD j 0 = vs.getD j 0 := by
      unfold fillOne
      by_cases hk3 : (wordD ws t k).fKind = 3
      · rw [if_pos hk3]
        obtain ⟨f0, f1, f2⟩ := h.fr k (by omega) hk3
        have hc := copies_do (n := n) (to := base + (k : Int)) (frm := (wordD ws t k).fFrame) (by omega) (by omega) f0 f1 (f2 k (by omega)) 8 vs (by omega) hlen
        constructor
        · intro m hm
          rw [hc, if_pos (by omega), if_pos hk3, show ((base + (k : Int)).toNat * 8 + m) % 8 = m by omega]
          refine i2 _ fun i hi => ?_
          have := f2 i (by omega)
          omega
        · intro j hj
          rw [hc, if_neg (fun hh => hj hh.1)]
      · rw [if_neg hk3]
        have hcl : doW n vs [clearS (base + (k : Int))] = clearW vs (base + (k : Int)).toNat := by
          rw [doW_cons]
          show doW n _ [] = _
          rw [stepW_clear ⟨by omega, by omega⟩]
          rfl
        rw [hcl]
        constructor
        · intro m hm
          rw [clearW_at _ _ _ hm (by omega), if_neg hk3]
        · intro j hj
          exact clearW_off _ _ _ (by omega)
    obtain ⟨o1, o2⟩ := hone
    constructor
    · intro i m hi hm
      by_cases hik : i = k
      · subst hik
        exact o1 m hm
      · rw [o2 _ (by omega)]
        exact i1 i m (by omega) hm
    · intro j hj
      rw [o2 _ (hj k (by omega))]
      exact i2 j fun i hi => hj i (by omega)
theorem fill_kinds {ws : List Int} {t base : Int} : ∀ (k : Nat), ∀ s ∈ fillN ws t base k, (s.fKind = 4 ∨ s.fKind = 5) ∧ StepOk s := by
  intro k
  induction k with
  | zero => intro s hs; cases hs
  | succ k ih =>
    intro s hs
    rcases List.mem_append.1 (show s ∈ fillN ws t base k ++ fillOne ws t base k from hs) with hs | hs
    · exact ih s hs
    · unfold fillOne at hs
      split at hs
      · obtain ⟨i, _, rfl⟩ := List.mem_map.1 hs
        exact ⟨.inr rfl, show (0 : Int) ≤ 0 by omega, show (0 : Int) < 18446744073709551616 by omega⟩
      · rw [List.mem_singleton.1 hs]
        exact ⟨.inl rfl, show (0 : Int) ≤ 0 by omega, show (0 : Int) < 18446744073709551616 by omega⟩

end Go.Proofs.Ytapeoeakiphfpaa
