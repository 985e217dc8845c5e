/- Plain laws on the steps that lay tables, and on those that take them away. -/
import Derived.Test.YtapeoeakiphfpaaPart
import Derived.Test.YtapeoeakiphfpaaTree
namespace Go.Proofs.Ytapeoeakiphfpaa
open Go.RowKit
set_option linter.unusedVariables false
set_option linter.unusedSimpArgs false

/-- The first page that a place of a level leads to. -/
def firstP (page level : Int) : Int := page - page % spanL level
/-- The steps that lay fresh tables from a slot of a level on, and the slot behind them. -/
def pathS (asid page : Int) : Nat → Int → Int → List Int → List Step × (Int × Int)
  | _, tb, pl, [] => ([], (tb, pl))
  | l, tb, pl, f :: fs => (clearS f :: ⟨1, asid, l, tb, pl, firstP page l, f * 4096 + 3, 0, 0, 0⟩ :: (pathS asid page (l + 1) f (placeN (l + 1) page) fs).1, (pathS asid page (l + 1) f (placeN (l + 1) page) fs).2)
theorem pathS_len (asid page : Int) : ∀ (fs : List Int) (l : Nat) (tb pl : Int), (pathS asid page l tb pl fs).1.length = 2 * fs.length := by
  intro fs
  induction fs with
  | nil => intro l tb pl; rfl
  | cons f fs ih => intro l tb pl; simp only [pathS, List.length_cons, ih]; omega
theorem pathS_snoc (asid page : Int) (f : Int) : ∀ (fs : List Int) (l : Nat) (tb pl : Int), pathS asid page l tb pl (fs ++ [f]) =
    ((pathS asid page l tb pl fs).1 ++ [clearS f, ⟨1, asid, ((l + fs.length : Nat) : Int), (pathS asid page l tb pl fs).2.1, (pathS asid page l tb pl fs).2.2, firstP page ((l + fs.length : Nat) : Int), f * 4096 + 3, 0, 0, 0⟩], (f, placeN ((l + fs.length : Nat) + 1) page)) := by
  intro fs
  induction fs with
  | nil => intro l tb pl; simp [pathS]
  | cons x fs ih =>
    intro l tb pl
    have e : l + 1 + fs.length = l + (fs.length + 1) := by omega
    simp only [List.cons_append, pathS, ih, List.length_cons, e]
/-- Are all words of a table none, but for one? -/
def bareB (ws : List Int) (t but : Int) : Bool := (List.range 8).all fun i => decide ((i : Int) = but) || decide (ws.getD (t.toNat * 8 + i) 0 = 0)
/-- Prune's steps and tables: the way's slots from its end on. -/
def pruneS (ws : List Int) (asid page : Int) (way : List (Int × Int)) : Nat → Int → List Step × List Int
  | 0, _ => ([], [])
  | l + 1, but => if bareB ws (way.getD (l + 1) (0, 0)).1 but then
      (⟨1, asid, l, (way.getD l (0, 0)).1, (way.getD l (0, 0)).2, firstP page l, 0, 0, 0, 0⟩ :: ⟨3, asid, 0, 0, 0, 0, 0, 0, 0, 0⟩ :: ⟨6, 0, 0, (way.getD (l + 1) (0, 0)).1, 0, 0, 0, 0, 0, 0⟩ :: (pruneS ws asid page way l (way.getD l (0, 0)).2).1,
       (way.getD (l + 1) (0, 0)).1 :: (pruneS ws asid page way l (way.getD l (0, 0)).2).2)
    else ([], [])

end Go.Proofs.Ytapeoeakiphfpaa
