import Derived.Test.YthcdecgecabgaaaBStepsSamePart
import Derived.Test.YthcdecgecabgaaaBMovwConcBedtLawh
/- The contracts of the Go package fold: run, alike, May, Is. -/
namespace Go.Proofs.Ythcdecgecabgaaa
open Go.RowKit
set_option linter.unusedVariables false
set_option linter.unusedSimpArgs false
attribute [local go_sem] setCell_drewN alloc_drewN lt_moreE le_moreE lt_moreK le_moreK cell_more frozen_more set_more drew_more drewN_more

/-- What run answers, where all is there. -/
def RunRet (B : Nat) (w' : World) (r : Option (List Found)) (e : Ending) : Prop := match r with
  | some s => ∃ a cap, e = .returned (.tuple #[.slice a s.length cap, .nilIface]) ∧ w'.ownsRow B 53 11 (.slice a s.length cap) s.length (s.map Found.cells).flatten
  | none => e = .returned (.tuple #[.slice none 0 0, errW 2])
theorem runRet_some {B B' n : Nat} {w' : World} {r : Option (List Found)} {s : List Found} {v : Value} {xs : List Value} (hr : r = some s) (h : w'.ownsRow B' 53 11 v n xs) (hb : B ≤ B') (hn : n = s.length) (hx : xs = (s.map Found.cells).flatten) : RunRet B w' r (.returned (.tuple #[v, .nilIface])) := by
  obtain ⟨a, cap, rfl⟩ := own_form h
  subst hn hx hr
  exact ⟨a, cap, rfl, own_low h hb⟩
/-- A run's first page. -/
def first4 (page : Int) : Int := page - page % 4

theorem walk_frames {ws : List Int} {n root first : Int} {l : List Found} {i : Nat} (h : runN ws n root first i = some l) (h0 : 0 ≤ first) (h1 : first + i ≤ 4096) : ∀ f ∈ l, 0 ≤ f.fFrame ∧ f.fFrame < 1000 := by
  intro f hf
  obtain ⟨j, hj, rfl⟩ := List.getElem_of_mem hf
  have hlen := runN_len i l h
  have := walkAt_small (by omega) (by omega) 4 0 root _ (runN_at i l h j _ (List.getElem?_eq_getElem hj))
  omega

/-- May four pages be folded, and are they? -/
def mayB (l : List Found) : Bool := alikeB l 0 && decide ((l.getD 0 zeroF).fFrame % 4 = 0)

end Go.Proofs.Ythcdecgecabgaaa
