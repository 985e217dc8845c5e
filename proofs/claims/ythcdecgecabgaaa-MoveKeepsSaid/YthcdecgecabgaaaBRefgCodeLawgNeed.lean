import Derived.Test.YthcdecgecabgaaaReff
import Derived.Test.YthcdecgecabgaaaTree
import Derived.Deep.RegionHeld3
import Derived.Test.YthcdecgecabgaaaBRefbFoldpMore
/- The contracts of the document's answer paviorref12: Way, Need. -/
namespace Go.Proofs.Ythcdecgecabgaaa
open Go.RowKit
set_option linter.unusedVariables false
set_option linter.unusedSimpArgs false
attribute [local go_sem] setCell_drewN alloc_drewN lt_moreE le_moreE lt_moreK le_moreK cell_more frozen_more set_more drew_more drewN_more

def tabC (s : Int × Int) : List Value := [.int .i64 s.1]
theorem el_int : ElemAt Try.prog 36 3 (.int .i64 0) 1 8 := ⟨Try.underlying36, by kernel_rfl, rfl, by decide, by decide⟩
/-- What Way answers. -/
def WayRet (B : Nat) (w' : World) (r : Option (List (Int × Int) × Desc)) (e : Ending) : Prop := match r with
  | some (s, d) => ∃ a cap, e = .returned (.tuple #[.slice a s.length cap, d.v, .bool true]) ∧ w'.ownsRow B 3 1 (.slice a s.length cap) s.length (s.map tabC).flatten
  | none => e = .returned (.tuple #[.slice none 0 0, noneD.v, .bool false])
theorem wayRet_some {B B' n : Nat} {w' : World} {s : List (Int × Int)} {d : Desc} {v : Value} {xs : List Value} (h : w'.ownsRow B' 3 1 v n xs) (hb : B ≤ B') (hn : n = s.length) (hx : xs = (s.map tabC).flatten) : WayRet B w' (some (s, d)) (.returned (.tuple #[v, d.v, .bool true])) := by
  obtain ⟨a, cap, rfl⟩ := own_form h
  subst hn hx
  exact ⟨a, cap, rfl, own_low h hb⟩

end Go.Proofs.Ythcdecgecabgaaa

/- The contract of paviorlaw00.Code: which error's number. -/
namespace Go.Proofs.Ythcdecgecabgaaa
open Go.RowKit
set_option linter.unusedVariables false
set_option linter.unusedSimpArgs false
attribute [local go_sem] setCell_drewN alloc_drewN lt_moreE le_moreE lt_moreK le_moreK cell_more frozen_more set_more drew_more drewN_more

set_option maxHeartbeats 400000 in
theorem law00_Code_nil (w : World) : Calls Try.prog 26 #[.nilIface] w fun e w' => e = .returned (.int .i64 0) ∧ w' = w := by
  go_enter Try.func26, Try.ntmps26
  go_wp2
  go_ret
  exact ⟨rfl, rfl⟩

set_option maxHeartbeats 1000000 in
theorem law00_Code (w : World) (k : Nat) (h1 : 1 ≤ k) (h2 : k ≤ 8) : Calls Try.prog 26 #[errW k] w fun e w' => e = .returned (.int .i64 k) ∧ w' = w := by
  have heq := fun (w : World) (a b : Int) => eql_err w a b
  have HEQ := Lib.hid heq
  clear heq
  go_enter Try.func26, Try.ntmps26
  go_wp2_with fail
  go_loop [3] (fun c => ∃ j : Nat, 1 ≤ j ∧ j ≤ k ∧ c = .int .i64 j) (fun c => (9 - intOf c).toNat)
  case atStart => exact ⟨1, by omega, h1, rfl⟩
  case round =>
    obtain ⟨j, hj1, hj2, rfl⟩ := hrel
    have he := fun w => HEQ.out w k j
    by_cases h : k = j
    · subst h
      have hb : ((k : Int) == (k : Int)) = true := by simp
      rw [hb] at he
      clear hb
      go_wp2
      go_ret
      exact ⟨rfl, rfl⟩
    · have hb : ((k : Int) == (j : Int)) = false := by simp; omega
      rw [hb] at he
      clear hb
      go_wp2
      go_round
      case rel => exact ⟨j + 1, by omega, by omega, by go_num⟩
      case measure => simp [intOf]; omega

end Go.Proofs.Ythcdecgecabgaaa

/- The law paviorlaw04.WalkFinds. -/
namespace Go.Proofs.Ythcdecgecabgaaa
open Go.RowKit
set_option linter.unusedVariables false
set_option linter.unusedSimpArgs false
attribute [local go_sem] setCell_drewN alloc_drewN lt_moreE le_moreE lt_moreK le_moreK cell_more frozen_more set_more drew_more drewN_more

theorem lay_ext (w : World) (fr : Int) (hfr : (Lit.int .i64 fr).wf = true) (l : List Laid) (hl : ∀ d ∈ l, d.wf) (v : Value) (hv : SlRd w v 3 (l.map Laid.cells)) :
    Calls Try.prog 14 #[.int .i64 fr, v] w fun e w' => ∃ b g h hc gb gc, e = .returned (.tuple #[.pointer (some ⟨b, 0, none⟩), .slice (some ⟨h, 0, none⟩) (layN fr) hc]) ∧
      MemAt w' b g (layN fr) (layN fr) (layW (layN fr) l) ∧ RefAt w' h hc (layN fr) gb gc (layW (layN fr) l) ∧ Ext w w' :=
  (law04_Lay w fr hfr l hl v hv).mono fun _ _ ⟨b, g, h, hc, gb, gc, he, hm, hr, hg, _⟩ => ⟨b, g, h, hc, gb, gc, he, hm, hr, .of hg⟩
theorem ref04_Walk {w : World} {h hc n : Nat} {gb gc : Nat → Nat} {us : List Int} (hr : RefAt w h hc n gb gc us) (hw : WOk us) (root page : Int) (p0 : 0 ≤ page) (p1 : page < 4096) (r : Option Found) (hres : walkAt us n page 4 0 root = r) :
    Calls Try.prog 24 #[.slice (some ⟨h, 0, none⟩) n hc, .int .i64 root, .int .i64 page] w fun e w' => Ext w w' ∧ e = .returned (refV r) := by
  have HR := Lib.hid hr
  have HA := Lib.hid (fun w hr => ref04_at (h := h) (hc := hc) (n := n) (gb := gb) (gc := gc) hw page p0 p1 4 w hr 0 root (by omega) (by omega) (by omega))
  rw [hres] at HA
  clear hr hw hres
  cases r with
  | none =>
    go_enter Try.func24, Try.ntmps24
    go_wp2_with (go_at_call 74; refine (HA.out _ (by repeat (first | exact HR.out | apply RefAt.more | apply RefAt.alloc | apply RefAt.drew | apply RefAt.drewN))).mono ?_; rintro e w' ⟨⟨ex1, rfl⟩, rfl⟩; rw [refV_n])
    refine bodyPost_ret (results_ct rfl _ _ w.heap.size 53 _ (0, 0) _ rfl (by repeat (first | (with_reducible exact heap_alloc_new _ _) | (with_reducible apply box_more) | (with_reducible apply box_alloc) | (with_reducible apply box_drew) | (with_reducible apply box_drewN))) Try.underlying53 rfl (by kernel_rfl)) rfl ?_
    exact ⟨(by repeat (first | exact Ext.refl _ | apply Ext.more | apply Ext.alloc | apply Ext.drew | apply Ext.drewN)), rfl⟩
  | some r =>
    obtain ⟨F0, F1, F2, F3, F4, F5, F6, F7, F8, F9, F10⟩ := r
    go_enter Try.func24, Try.ntmps24
    go_wp2_with (go_at_call 74; refine (HA.out _ (by repeat (first | exact HR.out | apply RefAt.more | apply RefAt.alloc | apply RefAt.drew | apply RefAt.drewN))).mono ?_; rintro e w' ⟨⟨ex1, rfl⟩, rfl⟩; rw [refV_s])
    refine bodyPost_ret (results_ct rfl _ _ w.heap.size 53 _ (0, 0) _ rfl (by repeat (first | (with_reducible exact heap_alloc_new _ _) | (with_reducible apply box_more) | (with_reducible apply box_alloc) | (with_reducible apply box_drew) | (with_reducible apply box_drewN))) Try.underlying53 rfl (by kernel_rfl)) rfl ?_
    exact ⟨(by repeat (first | exact Ext.refl _ | apply Ext.more | apply Ext.alloc | apply Ext.drew | apply Ext.drewN)), rfl⟩

theorem zeroF_v : zeroF.v = .agg #[.int .i64 0, .int .i64 0, .int .i64 0, .int .i64 0, .int .i64 0, .int .i64 0, .int .i64 0, .int .i64 0, .bool false, .bool false, .bool false] := rfl
theorem walkV_n : walkV none = .tuple #[.agg #[.int .i64 0, .int .i64 0, .int .i64 0, .int .i64 0, .int .i64 0, .int .i64 0, .int .i64 0, .int .i64 0, .bool false, .bool false, .bool false], errW 2] := rfl
theorem walkV_s (F0 F1 F2 F3 F4 F5 F6 F7 : Int) (F8 F9 F10 : Bool) : walkV (some ⟨F0, F1, F2, F3, F4, F5, F6, F7, F8, F9, F10⟩) = .tuple #[.agg #[.int .i64 F0, .int .i64 F1, .int .i64 F2, .int .i64 F3, .int .i64 F4, .int .i64 F5, .int .i64 F6, .int .i64 F7, .bool F8, .bool F9, .bool F10], .nilIface] := rfl

end Go.Proofs.Ythcdecgecabgaaa

/- The contracts of tree.Need and of the document's answer paviorref12.Need; the law paviorlaw12.TreeNeeds. -/
namespace Go.Proofs.Ythcdecgecabgaaa
open Go.RowKit
set_option linter.unusedVariables false
set_option linter.unusedSimpArgs false
attribute [local go_sem] setCell_drewN alloc_drewN lt_moreE le_moreE lt_moreK le_moreK cell_more frozen_more set_more drew_more drewN_more

/-- How many tables are missing, and an error's number. -/
def needP (L : Nat) (r : Option (List (Int × Int) × Desc)) : Int × Nat := match r with
  | none => (0, 2)
  | some (s, d) => if (0 : Int) < L + 1 - s.length ∧ d.fKind ≠ 0 then (0, 7) else (L + 1 - s.length, 0)
/-- An error of a number; 0: none. -/
def errV (c : Nat) : Value := if c = 0 then .nilIface else errW c
theorem wayAt_len {ws : List Int} {n page : Int} : ∀ (k : Nat) (l tb : Int) (s : List (Int × Int)) (d : Desc), wayAt ws n page k l tb = some (s, d) → 1 ≤ s.length ∧ s.length ≤ k := by
  intro k
  induction k with
  | zero => intro l tb s d h; simp [wayAt] at h
  | succ k ih =>
    intro l tb s d h
    rw [wayAt_in rfl rfl rfl] at h
    split at h
    · simp only [Option.some.injEq, Prod.mk.injEq] at h
      rw [← h.1]; simp
    · split at h
      · rw [Option.map_eq_some_iff] at h
        obtain ⟨⟨s', d'⟩, h1, h2⟩ := h
        have := ih _ _ _ _ h1
        simp only [Prod.mk.injEq] at h2
        rw [← h2.1]; simp; omega
      · cases h

theorem WOk_zero (n : Nat) : WOk (List.replicate n 0) := by
  intro x hx
  rw [List.eq_of_mem_replicate hx]
  omega
theorem way_up : wayAt (List.replicate 8 0) 1 0 4 0 0 = some ([(0, 0)], noneD) := by decide +kernel
/-- Are root, page and level there? -/
def thereB (n : Nat) (root page level : Int) : Bool := decide (0 ≤ root ∧ root < n ∧ 0 ≤ page ∧ page < 4096 ∧ 1 ≤ level ∧ level < 4)
theorem thereB_yes {n : Nat} {root page level : Int} (h : 0 ≤ root ∧ root < n ∧ 0 ≤ page ∧ page < 4096 ∧ 1 ≤ level ∧ level < 4) : thereB n root page level = true := decide_eq_true h
theorem thereB_no {n : Nat} {root page level : Int} (h : ¬ (0 ≤ root ∧ root < n ∧ 0 ≤ page ∧ page < 4096 ∧ 1 ≤ level ∧ level < 4)) : thereB n root page level = false := decide_eq_false h
theorem needP_cases {L : Nat} {r : Option (List (Int × Int) × Desc)} : (needP L r).2 = 0 ∨ (needP L r).2 = 2 ∨ (needP L r).2 = 7 := by
  unfold needP
  split
  · exact .inr (.inl rfl)
  · split
    · exact .inr (.inr rfl)
    · exact .inl rfl

end Go.Proofs.Ythcdecgecabgaaa
