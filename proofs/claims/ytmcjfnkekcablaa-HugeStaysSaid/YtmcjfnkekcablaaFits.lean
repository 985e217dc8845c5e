/- Plain laws on areas: of which area's block a page may be. -/
import Derived.Test.YtmcjfnkekcablaaOpen
namespace Go.Proofs.Ytmcjfnkekcablaa
open Go.RowKit
set_option linter.unusedVariables false
set_option linter.unusedSimpArgs false

def fitsB (first : Int) (a : Area) : Bool := a.fHuge && decide (a.fFrom ≤ first) && decide (first + 8 ≤ a.fTo)
/-- Which of the areas from the i-th on. -/
def fitsFrom (l : List Area) (first : Int) (i : Nat) : Option Nat := ((l.drop i).findIdx? (fitsB first)).map (· + i)
theorem fitsFrom_end (l : List Area) (first : Int) : fitsFrom l first l.length = none := by unfold fitsFrom; simp
theorem fitsFrom_hit {l : List Area} {first : Int} {i : Nat} {a : Area} (ha : l[i]? = some a) (h : fitsB first a = true) : fitsFrom l first i = some i := by
  obtain ⟨hi, rfl⟩ := List.getElem?_eq_some_iff.1 ha
  unfold fitsFrom
  rw [List.drop_eq_getElem_cons hi, List.findIdx?_cons, if_pos h]
  simp
theorem fitsFrom_miss {l : List Area} {first : Int} {i : Nat} {a : Area} (ha : l[i]? = some a) (h : fitsB first a = false) : fitsFrom l first i = fitsFrom l first (i + 1) := by
  obtain ⟨hi, rfl⟩ := List.getElem?_eq_some_iff.1 ha
  unfold fitsFrom
  rw [List.drop_eq_getElem_cons hi, List.findIdx?_cons, if_neg (by rw [h]; simp)]
  cases (l.drop (i + 1)).findIdx? (fitsB first) with
  | none => rfl
  | some k => simp; omega
theorem fitsFrom_lt {l : List Area} {first : Int} {i k : Nat} (h : fitsFrom l first i = some k) : k < l.length := by
  unfold fitsFrom at h
  rw [Option.map_eq_some_iff] at h
  obtain ⟨j, h1, h2⟩ := h
  have := (List.findIdx?_eq_some_iff_getElem.1 h1).1
  simp at this
  omega

end Go.Proofs.Ytmcjfnkekcablaa
