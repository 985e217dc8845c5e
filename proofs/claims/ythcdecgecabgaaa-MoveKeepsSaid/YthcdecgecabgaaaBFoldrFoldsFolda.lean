import Derived.Test.YthcdecgecabgaaaFold
/- The contracts of the document's answer paviorref17: Run, Alike. -/
namespace Go.Proofs.Ythcdecgecabgaaa
open Go.RowKit
set_option linter.unusedVariables false
set_option linter.unusedSimpArgs false
attribute [local go_sem] setCell_drewN alloc_drewN lt_moreE le_moreE lt_moreK le_moreK cell_more frozen_more set_more drew_more drewN_more
end Go.Proofs.Ythcdecgecabgaaa

/- The contracts of fold.May and fold.Is. -/
namespace Go.Proofs.Ythcdecgecabgaaa
open Go.RowKit
set_option linter.unusedVariables false
set_option linter.unusedSimpArgs false
attribute [local go_sem] setCell_drewN alloc_drewN lt_moreE le_moreE lt_moreK le_moreK cell_more frozen_more set_more drew_more drewN_more

/-- What May and Is tell. -/
def tellV (r : Option Bool) : Value := match r with
  | some b => .tuple #[.bool b, .nilIface]
  | none => .tuple #[.bool false, errW 2]
theorem tellV_n (f : List Found → Bool) : tellV ((none : Option (List Found)).map f) = .tuple #[.bool false, errW 2] := rfl
theorem tellV_s (f : List Found → Bool) (s : List Found) : tellV ((some s).map f) = .tuple #[.bool (f s), .nilIface] := rfl
end Go.Proofs.Ythcdecgecabgaaa

/- The contracts of fold.anew, fold.steps, fold.Fold, fold.Unfold. -/
namespace Go.Proofs.Ythcdecgecabgaaa
open Go.RowKit
set_option linter.unusedVariables false
set_option linter.unusedSimpArgs false
attribute [local go_sem] setCell_drewN alloc_drewN lt_moreE le_moreE lt_moreK le_moreK cell_more frozen_more set_more drew_more drewN_more

theorem and_self3 (a : Int) : Ending.returned (.int .i64 a) = Ending.returned (.int .i64 a) := rfl

theorem alikeB_kinds {l : List Found} {o : Int} (h : alikeB l o = true) : ∀ f ∈ l, f.fKind = 3 := by
  intro f hf
  obtain ⟨j, hj, rfl⟩ := List.getElem_of_mem hf
  have := alikeB_at h (List.getElem?_eq_getElem hj)
  simp only [likeB, Bool.and_eq_true, beq_iff_eq] at this
  exact this.1.1.1.1
theorem mayB_kinds {l : List Found} (h : mayB l = true) : ∀ f ∈ l, f.fKind = 3 := by
  simp only [mayB, Bool.and_eq_true] at h
  exact alikeB_kinds h.1
/-- What Fold and Unfold tell. -/
def foldR (ws : List Int) (asid first : Int) (may : List Found → Bool) (fold : Bool) : Option (List Found) → StepsR
  | none => .no 2
  | some s => if asid < 0 ∨ 255 < asid then .no 1 else if may s then .yes (anewL ws s asid first fold) else .no 7

end Go.Proofs.Ythcdecgecabgaaa
