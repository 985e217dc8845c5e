/- The walk of the law PhysApart. -/
import Derived.Test.YtapeoeakiphfpaaLawb
import Derived.StillTailTactics
namespace Go.Proofs.Ytapeoeakiphfpaa
open Go.RowKit
set_option linter.unusedVariables false
set_option linter.unusedSimpArgs false

theorem deed_at {l : List Deed03} {k : Nat} (h : k < l.length) : (l.map Deed03.cells)[k]? = some (l[k]).cells := by
  rw [List.getElem?_map, List.getElem?_eq_getElem h]; rfl

theorem clearW_out (ws : List Int) (t j : Nat) (h : j < t * 8 ∨ t * 8 + 8 ≤ j) : (clearW ws t).getD j 0 = ws.getD j 0 := by
  unfold clearW
  repeat (rw [getD_set, if_neg (by omega)])
theorem part_set (ws : List Int) (A B : Nat) (v : Int) (hB : B < 8) : ∀ f i, i < 8 → ¬ (f = A ∧ i = B) → (ws.set (A * 8 + B) v).getD (f * 8 + i) 0 = ws.getD (f * 8 + i) 0 := by
  intro f i hi h
  rw [getD_set, if_neg (by omega)]
theorem part_clear (ws : List Int) (A : Nat) : ∀ f i, i < 8 → f ≠ A → (clearW ws A).getD (f * 8 + i) 0 = ws.getD (f * 8 + i) 0 := by
  intro f i hi h
  exact clearW_out _ _ _ (by omega)
theorem part_copy (ws : List Int) (A C : Nat) : ∀ f i, i < 8 → f ≠ A → (copyW ws A C).getD (f * 8 + i) 0 = ws.getD (f * 8 + i) 0 := by
  intro f i hi h
  exact copyW_out _ _ _ _ (by omega)

end Go.Proofs.Ytapeoeakiphfpaa
