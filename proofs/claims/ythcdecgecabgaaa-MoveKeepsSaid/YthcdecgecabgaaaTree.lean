import Derived.Test.YthcdecgecabgaaaBRefbFoldpMore
import Derived.Test.YthcdecgecabgaaaBPhytWalk
import Derived.StillTailTactics
/- The contracts of the Go package tree: has, at. -/
namespace Go.Proofs.Ythcdecgecabgaaa
open Go.RowKit
set_option linter.unusedVariables false
set_option linter.unusedSimpArgs false
attribute [local go_sem] setCell_drewN alloc_drewN lt_moreE le_moreE lt_moreK le_moreK cell_more frozen_more set_more drew_more drewN_more
/-- The slots on the way from a table of a level on, at most so many, and what the last one's word says; none: a table isn't there. -/
def wayAt (ws : List Int) (n page : Int) : Nat → Int → Int → Option (List (Int × Int) × Desc)
  | 0, _, _ => none
  | k + 1, l, tb =>
    if k = 0 ∨ (decD l (ws.getD (tb.toNat * 8 + (placeN l page).toNat) 0)).fKind ≠ 1 then some ([(tb, placeN l page)], decD l (ws.getD (tb.toNat * 8 + (placeN l page).toNat) 0))
    else if 0 ≤ (decD l (ws.getD (tb.toNat * 8 + (placeN l page).toNat) 0)).fFrame ∧ (decD l (ws.getD (tb.toNat * 8 + (placeN l page).toNat) 0)).fFrame < n then
      (wayAt ws n page k (l + 1) (decD l (ws.getD (tb.toNat * 8 + (placeN l page).toNat) 0)).fFrame).map fun r => ((tb, placeN l page) :: r.1, r.2)
    else none
theorem wayAt_in {ws : List Int} {n page : Int} {k : Nat} {l tb pl : Int} {d : Desc} (hp : placeN l page = pl) (_ : placeN l page = pl) (hd : decD l (ws.getD (tb.toNat * 8 + pl.toNat) 0) = d) :
    wayAt ws n page (k + 1) l tb = if k = 0 ∨ d.fKind ≠ 1 then some ([(tb, pl)], d) else if 0 ≤ d.fFrame ∧ d.fFrame < n then (wayAt ws n page k (l + 1) d.fFrame).map fun r => ((tb, pl) :: r.1, r.2) else none := by
  subst hp hd
  conv => lhs; unfold wayAt
def slotC (s : Int × Int) : List Value := [.int .i64 s.1, .int .i64 s.2]
/-- What down answers, where all but the tables is there. -/
def DownRet (B : Nat) (w' : World) (r : Option (List (Int × Int) × Desc)) (e : Ending) : Prop := match r with
  | some (s, d) => ∃ a cap, e = .returned (.tuple #[.slice a s.length cap, d.v, .nilIface]) ∧ w'.ownsRow B 126 2 (.slice a s.length cap) s.length (s.map slotC).flatten
  | none => e = .returned (.tuple #[.slice none 0 0, noneD.v, errW 2])

theorem downRet_some {B B' n : Nat} {w' : World} {s : List (Int × Int)} {d : Desc} {v : Value} {xs : List Value} (h : w'.ownsRow B' 126 2 v n xs) (hb : B ≤ B') (hn : n = s.length) (hx : xs = (s.map slotC).flatten) : DownRet B w' (some (s, d)) (.returned (.tuple #[v, d.v, .nilIface])) := by
  obtain ⟨a, cap, rfl⟩ := own_form h
  subst hn hx
  exact ⟨a, cap, rfl, own_low h hb⟩

end Go.Proofs.Ythcdecgecabgaaa
