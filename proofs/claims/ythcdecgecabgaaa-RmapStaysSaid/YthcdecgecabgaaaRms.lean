/- rmap.compare orders pages of spaces; slices.SortFunc at pages, and at pages with frames. -/
import Derived.Test.YthcdecgecabgaaaRmq
import Derived.Shelf.SlSortCmp.NoneTotal
import Derived.Shelf.SlicesG.Cmp
import Derived.Shelf.Lay
import Derived.Ground.SlsfProg
import Derived.Ground.SlgcProg
namespace Go.Proofs
open Go.Shelf
shelf_lay_g SlLaysF0.n6 Slsf 6 at Try 82 as YthcdecgecabgaaasortWh
shelf_lay_g SlLaysF0.n6 Slsf 6 at Try 84 as YthcdecgecabgaaasortMp
shelf_lay_g SlLaysC2.n5 Slgc 5 at Try 86 as YthcdecgecabgaaacmpInt
end Go.Proofs
namespace Go.Proofs.Ythcdecgecabgaaa
open Go.RowKit
open Go.Lib Go.Sort
set_option linter.unusedVariables false
set_option linter.unusedSimpArgs false
attribute [local go_sem] setCell_drewN alloc_drewN lt_moreE le_moreE lt_moreK le_moreK cell_more frozen_more set_more drew_more drewN_more

/-- A page of a space, as cells. -/
def encK (x : Int × Int) : List Value := [.int .i64 x.1, .int .i64 x.2]
def cmpK (x y : Int × Int) : Int := if Lib.compareInt x.1 y.1 = 0 then Lib.compareInt x.2 y.2 else Lib.compareInt x.1 y.1
theorem cmpI_cases (x y : Int) : (x < y ∧ Lib.compareInt x y = -1) ∨ (x = y ∧ Lib.compareInt x y = 0) ∨ (y < x ∧ Lib.compareInt x y = 1) := by
  unfold Lib.compareInt
  by_cases h1 : x < y
  · exact .inl ⟨h1, by rw [if_pos h1]⟩
  · by_cases h2 : y < x
    · exact .inr (.inr ⟨h2, by rw [if_neg h1, if_pos h2]⟩)
    · exact .inr (.inl ⟨by omega, by rw [if_neg h1, if_neg (by omega)]⟩)
theorem ltOf_cmpK (x y : Int × Int) : ltOf cmpK x y = decide (ltK x y) := by
  unfold ltOf cmpK
  rw [Bool.eq_iff_iff, decide_eq_true_iff, decide_eq_true_iff]
  unfold ltK
  rcases cmpI_cases x.1 y.1 with ⟨h1, e1⟩ | ⟨h1, e1⟩ | ⟨h1, e1⟩ <;> rw [e1]
  · simp; omega
  · rcases cmpI_cases x.2 y.2 with ⟨h2, e2⟩ | ⟨h2, e2⟩ | ⟨h2, e2⟩ <;> rw [e2] <;> simp <;> omega
  · simp; omega
theorem swoK : SWO (ltOf cmpK) where
  irrefl x := by rw [ltOf_cmpK, decide_eq_false_iff_not]; exact ltK_irrefl x
  trans x y z h1 h2 := by rw [ltOf_cmpK, decide_eq_true_iff] at *; exact ltK_trans h1 h2
  ntrans x y z h1 h2 := by rw [ltOf_cmpK, decide_eq_false_iff_not] at *; unfold ltK at *; omega
theorem totalK (x y : Int × Int) (h1 : ltOf cmpK x y = false) (h2 : ltOf cmpK y x = false) : x = y := by
  rw [ltOf_cmpK, decide_eq_false_iff_not] at *
  exact ltK_total h1 h2
/-- The pages of a map's entries that have a frame, sorted. -/
theorem sortK {xs ys : List (Int × Int)} (hp : xs.Perm ys) (hy : ys.Pairwise ltK) : xs.mergeSort (fun x y => !ltOf cmpK y x) = ys :=
  sort_unique swoK.trans swoK.irrefl totalK hp (hy.imp fun h => by rw [ltOf_cmpK]; exact decide_eq_true h)
/-- By the page alone. -/
def cmpP (x y : Int) : Int := Lib.compareInt x y
theorem ltOf_cmpP (x y : Int) : ltOf cmpP x y = decide (x < y) := by
  unfold ltOf cmpP
  rw [decide_eq_decide]
  rcases cmpI_cases x y with ⟨h1, e1⟩ | ⟨h1, e1⟩ | ⟨h1, e1⟩ <;> rw [e1] <;> simp <;> omega
theorem swoP : SWO (ltOf cmpP) where
  irrefl x := by rw [ltOf_cmpP]; simp
  trans x y z h1 h2 := by rw [ltOf_cmpP] at *; simp at *; omega
  ntrans x y z h1 h2 := by rw [ltOf_cmpP] at *; simp at *; omega
theorem totalP (x y : Int) (h1 : ltOf cmpP x y = false) (h2 : ltOf cmpP y x = false) : x = y := by
  rw [ltOf_cmpP] at *
  simp at *
  omega
theorem sortP {xs ys : List Int} (hp : xs.Perm ys) (hy : ys.Pairwise (· < ·)) : xs.mergeSort (fun x y => !ltOf cmpP y x) = ys :=
  sort_unique swoP.trans swoP.irrefl totalP hp (hy.imp fun h => by rw [ltOf_cmpP]; exact decide_eq_true h)

theorem cmp_cmp (w : World) (x y : Int) : Calls Try.prog 86 #[.int .i64 x, .int .i64 y] w fun e w' => e = .returned (.int .i64 (Lib.compareInt x y)) ∧ w' = w := AnyG.cmp_Compare_int YthcdecgecabgaaacmpInt x y w
set_option maxRecDepth 100000 in
theorem cmp_Or (w : World) (g : Nat) (T : TypeId) (a b : Int) (hg : w.heap[g]? = some (.cells #[.int .i64 a, .int .i64 b] T (0, 0))) :
    Calls Try.prog 125 #[.slice (some ⟨g, 0, none⟩) 2 2] w fun e w' => e = .returned (.int .i64 (if a = 0 then b else a)) ∧ w' = w := by
  obtain ⟨c0, c1, cf⟩ := cells2c hg
  clear hg
  go_enter Try.func125, Try.ntmps125
  go_wp2
  go_loop [5, 8] (fun _ i => (i = .int .i64 0) ∨ (i = .int .i64 1 ∧ a = 0) ∨ (i = .int .i64 2 ∧ a = 0 ∧ b = 0)) (fun _ i => 2 - (intOf i).toNat)
  case atStart => exact .inl rfl
  case round =>
    rcases hrel with rfl | ⟨rfl, rfl⟩ | ⟨rfl, rfl, rfl⟩
    · by_cases ha : a = 0
      · subst ha
        go_wp2
        go_round
        case rel => simp
        case measure => simp [intOf]
      · have h1 : (a != 0) = true := by simpa using ha
        go_wp2
        go_ret
        exact ⟨rfl, rfl⟩
    · by_cases hb : b = 0
      · subst hb
        go_wp2
        go_round
        case rel => simp
        case measure => simp [intOf]
      · have h1 : (b != 0) = true := by simpa using hb
        go_wp2
        go_ret
        exact ⟨rfl, rfl⟩
    · go_wp2
      go_ret
      exact ⟨rfl, rfl⟩

theorem grow_more2 (w : World) (q : Nat) (os : Array Obj) : grow (w.drewN q) os = more w (os, w.drawn + q) := rfl
set_option maxRecDepth 100000 in
theorem rmap_compare (W : World) (x y : Int × Int) : Calls Try.prog 83 #[.agg #[.int .i64 x.1, .int .i64 x.2], .agg #[.int .i64 y.1, .int .i64 y.2]] W fun e w' => e = .returned (.int .i64 (cmpK x y)) ∧ ∃ q os', w' = grow (W.drewN q) os' := by
  obtain ⟨x1, x2⟩ := x
  obtain ⟨y1, y2⟩ := y
  dsimp only
  have HB0 := Lib.hid (box_alloc (heap_alloc_new W (.cells #[.int .i64 x1, .int .i64 x2] 57)) (.cells #[.int .i64 y1, .int .i64 y2] 57))
  have HB1 := Lib.hid (show ((W.alloc (.cells #[.int .i64 x1, .int .i64 x2] 57)).alloc (.cells #[.int .i64 y1, .int .i64 y2] 57)).heap[W.heap.size + 1]? = _ from heap_alloc_at _ _ (by simp))
  have HG := Lib.hid (show ∃ os, ((W.alloc (.cells #[.int .i64 x1, .int .i64 x2] 57)).alloc (.cells #[.int .i64 y1, .int .i64 y2] 57)) = grow W os from ⟨_, by rw [alloc_eq_grow, alloc_eq_grow, grow_grow]⟩)
  go_enter Try.func83, Try.ntmps83
  go_wp2_with fail
  generalize ((W.alloc (.cells #[.int .i64 x1, .int .i64 x2] 57)).alloc (.cells #[.int .i64 y1, .int .i64 y2] 57)) = W1 at *
  obtain ⟨c0, c1, cf⟩ := cells2c HB0.out
  obtain ⟨d0, d1, df⟩ := cells2c HB1.out
  generalize W.heap.size + 1 = b1 at *
  generalize W.heap.size = b0 at *
  have hb0 : b0 < W1.heap.size := (Array.getElem?_eq_some_iff.1 HB0.out).1
  have hb1 : b1 < W1.heap.size := (Array.getElem?_eq_some_iff.1 HB1.out).1
  have HC := Lib.hid (fun w' a b => cmp_cmp w' a b)
  obtain ⟨r1, hr1⟩ : ∃ r, Lib.compareInt x1 y1 = r := ⟨_, rfl⟩
  obtain ⟨r2, hr2⟩ : ∃ r, Lib.compareInt x2 y2 = r := ⟨_, rfl⟩
  have HC1 := Lib.hid (fun w' => hr1 ▸ cmp_cmp w' x1 y1)
  have HC2 := Lib.hid (fun w' => hr2 ▸ cmp_cmp w' x2 y2)
  have HR := Lib.hid (show cmpK (x1, x2) (y1, y2) = if r1 = 0 then r2 else r1 from by unfold cmpK; rw [hr1, hr2])
  clear hr1 hr2 HC
  obtain ⟨r, hr⟩ : ∃ r, cmpK (x1, x2) (y1, y2) = r := ⟨_, rfl⟩
  have HRr := Lib.hid hr
  rw [hr] at HR
  clear hr
  have HO := Lib.hid (fun w' hg => HR.out ▸ cmp_Or w' W1.heap.size 3 r1 r2 hg)
  refine wp_region_still_tail 10 (by kernel_rfl) (by kernel_rfl) ?_
  simp only [List.take_succ_cons, List.take_zero, List.drop_succ_cons, List.drop_zero]
  repeat still_step
  still_call (HC1.out _)
  repeat still_step
  still_call (HC2.out _)
  repeat still_step
  refine wpStill_nil ?_
  clear c0 c1 cf d0 d1 df
  go_wp2_with fail
  refine (HO.out _ (box_drew (heap_alloc_new _ _))).mono ?_
  rintro e w' ⟨rfl, hww⟩
  rw [hww]
  clear hww w'
  go_wp2_with fail
  go_ret
  obtain ⟨os, hos⟩ := HG.out
  refine ⟨by rw [HRr.out]; rfl, 1, os ++ #[.cells #[.int .i64 r1, .int .i64 r2] 3], ?_⟩
  rw [hos, alloc_eq_grow]
  unfold grow World.drew World.drewN
  simp [Array.append_assoc]

end Go.Proofs.Ythcdecgecabgaaa
