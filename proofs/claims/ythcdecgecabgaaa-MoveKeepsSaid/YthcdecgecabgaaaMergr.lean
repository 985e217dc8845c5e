import Derived.Test.YthcdecgecabgaaaBMerghFitsHugeHugfHugsHugtMovq
/- The contract of the document's answer paviorref16.Merge. -/
namespace Go.Proofs.Ythcdecgecabgaaa
open Go.RowKit
set_option linter.unusedVariables false
set_option linter.unusedSimpArgs false
attribute [local go_sem] setCell_drewN alloc_drewN lt_moreE le_moreE lt_moreK le_moreK cell_more frozen_more set_more drew_more drewN_more

/-- The frame of a page, among pages; below 0: it has none. -/
def fromL (l : List (Int × Int)) (p : Int) : Int := l.foldl (fun acc z => if z.1 = p then z.2 else acc) (-1)
theorem fromL_snoc (l : List (Int × Int)) (z : Int × Int) (p : Int) : fromL (l ++ [z]) p = if z.1 = p then z.2 else fromL l p := by unfold fromL; rw [List.foldl_append]; rfl
theorem from_pgs {ws : List Int} {t first : Int} {q : Nat} (hq : q < 8) : ∀ (j i : Nat) (acc : Int), i + j = 8 → (pgs ws t first i).foldl (fun acc z => if z.1 = first + (q : Int) then z.2 else acc) acc = if i ≤ q ∧ (wordD ws t q).fKind = 3 then (wordD ws t q).fFrame else acc := by
  intro j
  induction j with
  | zero =>
    intro i acc hi
    obtain rfl : i = 8 := by omega
    rw [pgs_end, if_neg (by omega)]; rfl
  | succ j ih =>
    intro i acc hi
    by_cases h3 : (wordD ws t i).fKind = 3
    · rw [pgs_yes (by omega) h3, List.foldl_cons, ih _ _ (by omega)]
      dsimp only
      by_cases e : i = q
      · subst e
        rw [if_neg (by omega), if_pos rfl, if_pos ⟨Nat.le_refl _, h3⟩]
      · rw [if_neg (show ¬ (first + (i : Int) = first + (q : Int)) by omega)]
        by_cases hc : i ≤ q ∧ (wordD ws t q).fKind = 3
        · rw [if_pos hc, if_pos ⟨by omega, hc.2⟩]
        · rw [if_neg hc, if_neg (by intro h; exact hc ⟨by omega, h.2⟩)]
    · rw [pgs_no (by omega) h3, ih _ _ (by omega)]
      by_cases e : i = q
      · subst e
        rw [if_neg (by omega), if_neg (by intro h; exact h3 h.2)]
      · by_cases hc : i ≤ q ∧ (wordD ws t q).fKind = 3
        · rw [if_pos hc, if_pos ⟨by omega, hc.2⟩]
        · rw [if_neg hc, if_neg (by intro h; exact hc ⟨by omega, h.2⟩)]
theorem fromL_pgs {ws : List Int} {t first : Int} {q : Nat} (hq : q < 8) : fromL (pgs ws t first 0) (first + q) = if (wordD ws t q).fKind = 3 then (wordD ws t q).fFrame else -1 := by
  unfold fromL
  rw [from_pgs hq 8 0 _ (by omega)]
  simp

def wipeL (asid t first : Int) (l : List (Int × Int)) : List Step := l.map fun z => wr0 asid 3 t (z.1 - first) z.1 0
def sayL (asid : Int) (l : List (Int × Int)) : List Step := l.map fun z => tellS asid z.1
theorem wipeL_snoc (asid t first : Int) (l : List (Int × Int)) (z : Int × Int) : CS (wipeL asid t first (l ++ [z])) = CS (wipeL asid t first l) ++ (wr0 asid 3 t (z.1 - first) z.1 0).cells := by unfold wipeL; rw [List.map_append]; exact CS_snoc _ _
theorem sayL_snoc (asid : Int) (l : List (Int × Int)) (z : Int × Int) : CS (sayL asid (l ++ [z])) = CS (sayL asid l) ++ (tellS asid z.1).cells := by unfold sayL; rw [List.map_append]; exact CS_snoc _ _
theorem mergeRes_no {ws : List Int} {asid page base : Int} {wr ex : Bool} {s : List (Int × Int)} {d : Desc} (h4 : ¬ s.length < 4) (h : pagesN ws (s.getD 3 (0, 0)).1 page 8 = none) : mergeRes ws asid page base wr ex (some (s, d)) = .no 7 := by
  unfold mergeRes; dsimp only; rw [if_neg h4, h]
theorem mergeRes_yes {ws : List Int} {asid page base : Int} {wr ex : Bool} {s : List (Int × Int)} {d : Desc} {l : List (Int × Int)} (h4 : ¬ s.length < 4) (h : pagesN ws (s.getD 3 (0, 0)).1 page 8 = some l) : mergeRes ws asid page base wr ex (some (s, d)) = .yes (mergeS ws asid page base wr ex (s.getD 3 (0, 0)).1 (s.getD 2 (0, 0)).1 l) (s.getD 3 (0, 0)).1 l := by
  unfold mergeRes; dsimp only; rw [if_neg h4, h]

end Go.Proofs.Ythcdecgecabgaaa
