import Derived.Test.YtapeoeakiphfpaaRefg
import Derived.Test.YtapeoeakiphfpaaBCodeLawgLawhLawe
/- The contracts of tree.Need and of the document's answer paviorref12.Need; the law paviorlaw12.TreeNeeds. -/
namespace Go.Proofs.Ytapeoeakiphfpaa
open Go.RowKit
set_option linter.unusedVariables false
set_option linter.unusedSimpArgs false
attribute [local go_sem] setCell_drewN alloc_drewN lt_moreE le_moreE lt_moreK le_moreK cell_more frozen_more set_more drew_more drewN_more

/-- How many tables are missing, and an error's number. -/
def needP (L : Nat) (r : Option (List (Int × Int) × Desc)) : Int × Nat := match r with
  | none => (0, 2)
  | some (s, d) => if (0 : Int) < L + 1 - s.length ∧ d.fKind ≠ 0 then (0, 7) else (L + 1 - s.length, 0)
/-- An error of a number; 0: none. -/
def errV (c : Nat) : Value := if c = 0 then .nilIface else errW c
theorem wayAt_len {ws : List Int} {n page : Int} : ∀ (k : Nat) (l tb : Int) (s : List (Int × Int)) (d : Desc), wayAt ws n page k l tb = some (s, d) → 1 ≤ s.length ∧ s.length ≤ k := by
  intro k
  induction k with
  | zero => intro l tb s d h; simp [wayAt] at h
  | succ k ih =>
    intro l tb s d h
    rw [wayAt_in rfl rfl rfl] at h
    split at h
    · simp only [Option.some.injEq, Prod.mk.injEq] at h
      rw [← h.1]; simp
    · split at h
      · rw [Option.map_eq_some_iff] at h
        obtain ⟨⟨s', d'⟩, h1, h2⟩ := h
        have := ih _ _ _ _ h1
        simp only [Prod.mk.injEq] at h2
        rw [← h2.1]; simp; omega
      · cases h

set_option maxHeartbeats 1000000 in
theorem tree_Need (w : World) {b g n c : Nat} {ws : List Int} (hm : MemAt w b g n c ws) (hw : WOk ws) (root page : Int) (L : Nat) (h0 : 0 ≤ root) (h1 : root < n) (p0 : 0 ≤ page) (p1 : page < 4096) (l0 : 1 ≤ L) (l1 : L < 4) (r : Option (List (Int × Int) × Desc)) (hr : wayAt ws n page (L + 1) 0 root = r) :
    Calls Try.prog 77 #[.pointer (some ⟨b, 0, none⟩), .int .i64 root, .int .i64 page, .int .i64 L] w fun e w' => Ext w w' ∧ e = .returned (.tuple #[.int .i64 (needP L r).1, errV (needP L r).2]) := by
  have HD := Lib.hid (tree_down w hm hw root page L h0 h1 p0 p1 l0 l1)
  rw [hr] at HD
  have hlen := wayAt_len (ws := ws) (n := n) (page := page) (L + 1) 0 root
  rw [hr] at hlen
  clear hm hw hr
  cases r with
  | none =>
    clear hlen
    go_enter Try.func77, Try.ntmps77
    go_wp2_with fail
    refine HD.out.mono ?_
    rintro e w' ⟨⟨ex1, rfl⟩, rfl⟩
    go_wp2_with fail
    go_ret2
    exact ⟨(by repeat (first | exact Ext.refl _ | apply Ext.more | apply Ext.alloc | apply Ext.drew | apply Ext.drewN)), rfl⟩
  | some r =>
    obtain ⟨s, d⟩ := r
    have hl := hlen s d rfl
    clear hlen
    obtain ⟨k, f, wr, ex, se, fo, so⟩ := d
    obtain ⟨q, hq⟩ : ∃ q : Int, q = (L : Int) + 1 - s.length := ⟨_, rfl⟩
    have hcase : (0 < q ∧ k ≠ 0) ∨ (0 < q ∧ k = 0) ∨ q = 0 := by omega
    have HQ := Lib.hid hq
    rcases hcase with ⟨c1, c2⟩ | ⟨c1, rfl⟩ | c1
    · have hv : needP L (some (s, ⟨k, f, wr, ex, se, fo, so⟩)) = (0, 7) := by simp only [needP]; rw [if_pos ⟨by omega, c2⟩]
      have HV := Lib.hid hv
      have z : (k != 0) = true := by simpa using c2
      have c1' : (s.length : Int) < L + 1 := by omega
      clear hv c2 hq
      go_enter Try.func77, Try.ntmps77
      go_wp2_with fail
      refine HD.out.mono ?_
      rintro e w' ⟨⟨ex1, rfl⟩, ⟨a, cap, rfl, _⟩⟩
      go_wp2_with fail
      all_goals (go_ret2; exact ⟨(by repeat (first | exact Ext.refl _ | apply Ext.more | apply Ext.alloc | apply Ext.drew | apply Ext.drewN)), by rw [HV.out]; rfl⟩)
    · have hv : needP L (some (s, ⟨0, f, wr, ex, se, fo, so⟩)) = (q, 0) := by simp only [needP]; rw [if_neg (by simp), hq]
      have HV := Lib.hid hv
      have c1' : (s.length : Int) < L + 1 := by omega
      clear hv hq
      go_enter Try.func77, Try.ntmps77
      go_wp2_with fail
      refine HD.out.mono ?_
      rintro e w' ⟨⟨ex1, rfl⟩, ⟨a, cap, rfl, _⟩⟩
      go_wp2_with fail
      all_goals (go_ret2; exact ⟨(by repeat (first | exact Ext.refl _ | apply Ext.more | apply Ext.alloc | apply Ext.drew | apply Ext.drewN)), by rw [HV.out, HQ.out]; rfl⟩)
    · have hv : needP L (some (s, ⟨k, f, wr, ex, se, fo, so⟩)) = (q, 0) := by simp only [needP]; rw [if_neg (by omega), hq]
      have HV := Lib.hid hv
      have c1' : (s.length : Int) = L + 1 := by omega
      have hl2 : s.length = L + 1 := by omega
      clear hv hq c1' hl
      rw [hl2] at HQ
      go_enter Try.func77, Try.ntmps77
      go_wp2_with fail
      refine HD.out.mono ?_
      rintro e w' ⟨⟨ex1, rfl⟩, ⟨a, cap, rfl, _⟩⟩
      rw [hl2]
      go_wp2_with fail
      all_goals (go_ret2; exact ⟨(by repeat (first | exact Ext.refl _ | apply Ext.more | apply Ext.alloc | apply Ext.drew | apply Ext.drewN)), by rw [HV.out, HQ.out]; simp [errV]⟩)

set_option maxHeartbeats 1000000 in
theorem tree_Need_err (w : World) (m : Option Addr) (root page level : Int) (h : ∀ w : World, Calls Try.prog 81 #[.pointer m, .int .i64 root, .int .i64 page, .int .i64 level] w fun e w' => Ext w w' ∧ e = .returned (.tuple #[.slice none 0 0, noneD.v, errW 1])) :
    Calls Try.prog 77 #[.pointer m, .int .i64 root, .int .i64 page, .int .i64 level] w fun e w' => Ext w w' ∧ e = .returned (.tuple #[.int .i64 0, errW 1]) := by
  have HD := Lib.hid h
  clear h
  go_enter Try.func77, Try.ntmps77
  go_wp2_with fail
  refine (HD.out _).mono ?_
  rintro e w' ⟨⟨ex1, rfl⟩, rfl⟩
  go_wp2_with fail
  go_ret2
  exact ⟨(by repeat (first | exact Ext.refl _ | apply Ext.more | apply Ext.alloc | apply Ext.drew | apply Ext.drewN)), rfl⟩
set_option maxHeartbeats 1000000 in
theorem tree_down_nil (w : World) (root page level : Int) :
    Calls Try.prog 81 #[.pointer none, .int .i64 root, .int .i64 page, .int .i64 level] w fun e w' => Ext w w' ∧ e = .returned (.tuple #[.slice none 0 0, noneD.v, errW 1]) := by
  go_enter Try.func81, Try.ntmps81
  go_wp2_with fail
  refine bodyPost_ret (results_tct rfl _ _ w.heap.size 107 _ (0, 0) _ rfl (by repeat (first | (with_reducible exact heap_alloc_new _ _) | (with_reducible apply box_more) | (with_reducible apply box_alloc) | (with_reducible apply box_drew) | (with_reducible apply box_drewN))) Try.underlying107 rfl (by kernel_rfl)) rfl ?_
  exact ⟨(by repeat (first | exact Ext.refl _ | apply Ext.more | apply Ext.alloc | apply Ext.drew | apply Ext.drewN)), rfl⟩
theorem tree_Need_nil (w : World) (root page level : Int) : Calls Try.prog 77 #[.pointer none, .int .i64 root, .int .i64 page, .int .i64 level] w fun e w' => Ext w w' ∧ e = .returned (.tuple #[.int .i64 0, errW 1]) :=
  tree_Need_err w none root page level fun w => tree_down_nil w root page level
set_option maxHeartbeats 1000000 in
theorem tree_Need_no (w : World) {b g n c : Nat} {ws : List Int} (hm : MemAt w b g n c ws) (root page level : Int) (h : ¬ (0 ≤ root ∧ root < n ∧ 0 ≤ page ∧ page < 4096 ∧ 1 ≤ level ∧ level < 4)) :
    Calls Try.prog 77 #[.pointer (some ⟨b, 0, none⟩), .int .i64 root, .int .i64 page, .int .i64 level] w fun e w' => Ext w w' ∧ e = .returned (.tuple #[.int .i64 0, errW 1]) := by
  have HD := Lib.hid (tree_down_no w hm root page level h)
  clear h hm
  go_enter Try.func77, Try.ntmps77
  go_wp2_with fail
  refine HD.out.mono ?_
  rintro e w' ⟨⟨ex1, rfl⟩, rfl⟩
  go_wp2_with fail
  go_ret2
  exact ⟨(by repeat (first | exact Ext.refl _ | apply Ext.more | apply Ext.alloc | apply Ext.drew | apply Ext.drewN)), rfl⟩

set_option maxHeartbeats 1000000 in
theorem ref12_Need (w : World) {h hc n : Nat} {gb gc : Nat → Nat} {us : List Int} (hr : RefAt w h hc n gb gc us) (hw : WOk us) (root page : Int) (L : Nat) (h0 : 0 ≤ root) (h1 : root < n) (p0 : 0 ≤ page) (p1 : page < 4096) (l1 : L < 4) (r : Option (List (Int × Int) × Desc)) (hres : wayAt us n page (L + 1) 0 root = r) :
    Calls Try.prog 38 #[.slice (some ⟨h, 0, none⟩) n hc, .int .i64 root, .int .i64 page, .int .i64 L] w fun e w' => Ext w w' ∧ e = .returned (.tuple #[.int .i64 (needP L r).1, .int .i64 (needP L r).2]) := by
  have HD := Lib.hid (ref12_Way w hr hw root page L h0 h1 p0 p1 l1)
  rw [hres] at HD
  have hlen := wayAt_len (ws := us) (n := n) (page := page) (L + 1) 0 root
  rw [hres] at hlen
  clear hr hw hres
  cases r with
  | none =>
    clear hlen
    go_enter Try.func38, Try.ntmps38
    go_wp2_with fail
    refine HD.out.mono ?_
    rintro e w' ⟨⟨ex1, rfl⟩, rfl⟩
    go_wp2_with fail
    go_ret2
    exact ⟨(by repeat (first | exact Ext.refl _ | apply Ext.more | apply Ext.alloc | apply Ext.drew | apply Ext.drewN)), rfl⟩
  | some r =>
    obtain ⟨s, d⟩ := r
    have hl := hlen s d rfl
    clear hlen
    obtain ⟨k, f, wr, ex, se, fo, so⟩ := d
    obtain ⟨q, hq⟩ : ∃ q : Int, q = (L : Int) + 1 - s.length := ⟨_, rfl⟩
    have hcase : (0 < q ∧ k ≠ 0) ∨ (0 < q ∧ k = 0) ∨ q = 0 := by omega
    have HQ := Lib.hid hq
    rcases hcase with ⟨c1, c2⟩ | ⟨c1, rfl⟩ | c1
    · have hv : needP L (some (s, ⟨k, f, wr, ex, se, fo, so⟩)) = (0, 7) := by simp only [needP]; rw [if_pos ⟨by omega, c2⟩]
      have HV := Lib.hid hv
      have z : (k != 0) = true := by simpa using c2
      have c1' : (s.length : Int) < L + 1 := by omega
      clear hv c2 hq
      go_enter Try.func38, Try.ntmps38
      go_wp2_with fail
      refine HD.out.mono ?_
      rintro e w' ⟨⟨ex1, rfl⟩, ⟨a, cap, rfl, _⟩⟩
      go_wp2_with fail
      all_goals (go_ret2; exact ⟨(by repeat (first | exact Ext.refl _ | apply Ext.more | apply Ext.alloc | apply Ext.drew | apply Ext.drewN)), by rw [HV.out]; rfl⟩)
    · have hv : needP L (some (s, ⟨0, f, wr, ex, se, fo, so⟩)) = (q, 0) := by simp only [needP]; rw [if_neg (by simp), hq]
      have HV := Lib.hid hv
      have c1' : (s.length : Int) < L + 1 := by omega
      clear hv hq
      go_enter Try.func38, Try.ntmps38
      go_wp2_with fail
      refine HD.out.mono ?_
      rintro e w' ⟨⟨ex1, rfl⟩, ⟨a, cap, rfl, _⟩⟩
      go_wp2_with fail
      all_goals (go_ret2; exact ⟨(by repeat (first | exact Ext.refl _ | apply Ext.more | apply Ext.alloc | apply Ext.drew | apply Ext.drewN)), by rw [HV.out, HQ.out]; rfl⟩)
    · have hv : needP L (some (s, ⟨k, f, wr, ex, se, fo, so⟩)) = (q, 0) := by simp only [needP]; rw [if_neg (by omega), hq]
      have HV := Lib.hid hv
      have hl2 : s.length = L + 1 := by omega
      clear hv hq hl
      rw [hl2] at HQ
      go_enter Try.func38, Try.ntmps38
      go_wp2_with fail
      refine HD.out.mono ?_
      rintro e w' ⟨⟨ex1, rfl⟩, ⟨a, cap, rfl, _⟩⟩
      rw [hl2]
      go_wp2_with fail
      all_goals (go_ret2; exact ⟨(by repeat (first | exact Ext.refl _ | apply Ext.more | apply Ext.alloc | apply Ext.drew | apply Ext.drewN)), by rw [HV.out, HQ.out]; simp⟩)

theorem WOk_zero (n : Nat) : WOk (List.replicate n 0) := by
  intro x hx
  rw [List.eq_of_mem_replicate hx]
  omega
theorem way_up : wayAt (List.replicate 8 0) 1 0 4 0 0 = some ([(0, 0)], noneD) := by decide +kernel
set_option maxHeartbeats 1000000 in
theorem law12_up (w : World) : Calls Try.prog 32 #[] w fun e w' => Ext w w' ∧ e = .returned (.bool true) := by
  have hU := way_up
  have HU := Lib.hid hU
  clear hU
  go_enter Try.func32, Try.ntmps32
  go_wp2_with fail
  refine (phys_New_yes _ 1 (by omega) (by omega)).mono ?_
  rintro e w1 ⟨b, g, rfl, hm, hg, _, _⟩
  have HM := Lib.hid hm
  obtain ⟨ex1, rfl⟩ := more_of_grow hg
  clear hm hg
  go_wp2_with fail
  refine (tree_Need (n := 1) (ws := List.replicate 8 0) _ (by repeat (first | exact HM.out | apply MemAt.more | apply MemAt.alloc | apply MemAt.drew | apply MemAt.drewN)) (WOk_zero _) 0 0 3 (by omega) (by omega) (by omega) (by omega) (by omega) (by omega) _ HU.out).mono ?_
  rintro e w2 ⟨⟨ex2, rfl⟩, rfl⟩
  have e1 : needP 3 (some ([(0, 0)], noneD)) = (3, 0) := by decide
  have e2 : errV 0 = .nilIface := rfl
  rw [e1]
  dsimp only
  rw [e2]
  clear e1 e2
  go_wp2_with fail
  go_ret
  exact ⟨(by repeat (first | exact Ext.refl _ | apply Ext.more | apply Ext.alloc | apply Ext.drew | apply Ext.drewN)), rfl⟩

/-- Are root, page and level there? -/
def thereB (n : Nat) (root page level : Int) : Bool := decide (0 ≤ root ∧ root < n ∧ 0 ≤ page ∧ page < 4096 ∧ 1 ≤ level ∧ level < 4)
theorem thereB_yes {n : Nat} {root page level : Int} (h : 0 ≤ root ∧ root < n ∧ 0 ≤ page ∧ page < 4096 ∧ 1 ≤ level ∧ level < 4) : thereB n root page level = true := decide_eq_true h
theorem thereB_no {n : Nat} {root page level : Int} (h : ¬ (0 ≤ root ∧ root < n ∧ 0 ≤ page ∧ page < 4096 ∧ 1 ≤ level ∧ level < 4)) : thereB n root page level = false := decide_eq_false h
theorem needP_cases {L : Nat} {r : Option (List (Int × Int) × Desc)} : (needP L r).2 = 0 ∨ (needP L r).2 = 2 ∨ (needP L r).2 = 7 := by
  unfold needP
  split
  · exact .inr (.inl rfl)
  · split
    · exact .inr (.inr rfl)
    · exact .inl rfl

end Go.Proofs.Ytapeoeakiphfpaa
