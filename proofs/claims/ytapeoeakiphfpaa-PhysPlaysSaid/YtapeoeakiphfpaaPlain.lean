/- Plain laws on walks: what a walk finds, where two pages of one place end. -/
import Derived.Test.YtapeoeakiphfpaaWhole
import Derived.Test.YtapeoeakiphfpaaLay
namespace Go.Proofs.Ytapeoeakiphfpaa
open Go.RowKit
set_option linter.unusedVariables false
set_option linter.unusedSimpArgs false

theorem decD_block (level x : Int) (h : (decD level x).fKind = 2) : level = 2 := by
  unfold decD at h
  split at h
  · rename_i hh
    simp only [okD, Bool.and_eq_true, decide_eq_true_eq] at hh
    have h2 := hh.1.2
    simp [mayD, h] at h2
    exact h2.1.1
  · simp [badD] at h
theorem decD_table (level x : Int) (h : (decD level x).fKind = 1) : (decD level x).fFrame = x / 4096 % 68719476736 := by
  unfold decD at h ⊢
  split at h
  · rename_i hh
    rw [if_pos hh]
    simp only [readD] at h ⊢
    split at h
    · simp [noneD] at h
    · split at h
      · simp [rightsD] at h
      · split at h
        · simp [rightsD] at h
        · split at h
          · rename_i h1 h2 h3 h4
            rw [if_neg h1, if_neg h2, if_neg h3, if_pos h4]
            simp [tableD]
          · simp [rightsD] at h
  · simp [badD] at h
theorem foundD_parts (d : Desc) (lv tb p page : Int) : (foundD d lv tb p page).fLevel = lv ∧ (foundD d lv tb p page).fTable = tb ∧ (foundD d lv tb p page).fPlace = p ∧ (foundD d lv tb p page).fKind = d.fKind := by
  unfold foundD
  split
  · rename_i h; simp [h]
  · split
    · rename_i h; split <;> simp [h]
    · simp
theorem foundD_block (d : Desc) (lv tb p page : Int) (h : d.fKind = 2) : foundD d lv tb p page = ⟨2, lv, tb, p, d.fFrame + page % 8, 3, page - page % 8, d.fFrame, d.fWrite, d.fExec, d.fSeen⟩ := by
  unfold foundD; rw [if_pos h]
theorem placeN_block (lv : Int) (h0 : 0 ≤ lv) (h2 : lv ≤ 2) (page other : Int) (h : page / 8 = other / 8) : placeN lv page = placeN lv other := by
  have : lv = 0 ∨ lv = 1 ∨ lv = 2 := by omega
  rcases this with rfl | rfl | rfl
  · show page / 2 ^ 9 % 8 = other / 2 ^ 9 % 8; omega
  · show page / 2 ^ 6 % 8 = other / 2 ^ 6 % 8; omega
  · show page / 2 ^ 3 % 8 = other / 2 ^ 3 % 8; omega
theorem walkAt_kind2 {ws : List Int} {n page : Int} : ∀ (k : Nat) (lv tb : Int) (x : Found), walkAt ws n page k lv tb = some x → x.fKind = 2 → lv ≤ 2 ∧ page - page % 8 = x.fFirst := by
  intro k
  induction k with
  | zero => intro lv tb x h; simp [walkAt] at h
  | succ k ih =>
    intro lv tb x h hk
    unfold walkAt at h
    split at h
    · split at h
      · have := ih _ _ _ h hk
        exact ⟨by omega, this.2⟩
      · simp only [Option.some.injEq] at h
        subst h
        rw [(foundD_parts _ _ _ _ _).2.2.2] at hk
        have := decD_block _ _ hk
        rw [foundD_block _ _ _ _ _ hk]
        exact ⟨by omega, rfl⟩
    · cases h
/-- Two pages of one block end at the same word. -/
theorem walkAt_block {ws : List Int} {n page other : Int} (hp : page / 8 = other / 8) : ∀ (k : Nat) (lv tb : Int) (x y : Found), 0 ≤ lv → walkAt ws n page k lv tb = some x → walkAt ws n other k lv tb = some y → x.fKind = 2 → y.fTable = x.fTable ∧ y.fPlace = x.fPlace ∧ y.fBase = x.fBase ∧ y.fFrame - x.fFrame = other - page := by
  intro k
  induction k with
  | zero => intro lv tb x y _ h; simp [walkAt] at h
  | succ k ih =>
    intro lv tb x y hlv h h' hk
    by_cases h2 : lv ≤ 2
    · have e := placeN_block lv hlv h2 page other hp
      unfold walkAt at h h'
      rw [← e] at h'
      split at h
      · rename_i hr
        rw [if_pos hr] at h'
        split at h
        · rename_i hd
          rw [if_pos hd] at h'
          exact ih _ _ _ _ (by omega) h h' hk
        · rename_i hd
          rw [if_neg hd] at h'
          simp only [Option.some.injEq] at h h'
          subst h h'
          rw [(foundD_parts _ _ _ _ _).2.2.2] at hk
          rw [foundD_block _ _ _ _ _ hk, foundD_block _ _ _ _ _ hk]
          exact ⟨rfl, rfl, rfl, by dsimp only; omega⟩
      · cases h
    · exfalso
      unfold walkAt at h
      split at h
      · split at h
        · have := (walkAt_kind2 _ _ _ _ h hk).1
          omega
        · simp only [Option.some.injEq] at h
          subst h
          rw [(foundD_parts _ _ _ _ _).2.2.2] at hk
          have := decD_block _ _ hk
          omega
      · cases h

theorem walkAt_small {ws : List Int} {n page : Int} (hp0 : 0 ≤ page) (hp1 : page < 4096) : ∀ (k : Nat) (lv tb : Int) (x : Found), walkAt ws n page k lv tb = some x → 0 ≤ x.fFirst ∧ x.fFirst < 4096 ∧ 0 ≤ x.fFrame ∧ x.fFrame < 520 := by
  intro k
  induction k with
  | zero => intro lv tb x h; simp [walkAt] at h
  | succ k ih =>
    intro lv tb x h
    unfold walkAt at h
    split at h
    · split at h
      · exact ih _ _ _ h
      · simp only [Option.some.injEq] at h
        subst h
        have hf := decD_frame lv (ws.getD (tb.toNat * 8 + (placeN lv page).toNat) 0)
        unfold foundD
        split
        · dsimp only; omega
        · split
          · split <;> (dsimp only; omega)
          · dsimp only; omega
    · cases h
theorem set_other (ws : List Int) (n : Nat) (d : Laid) (tb p : Int) (h0 : 0 ≤ tb) (h1 : tb < n) (h2 : 0 ≤ p) (h3 : p < 8) (h : ¬ (d.fFrame = tb ∧ d.fPlace = p)) : (layStep n ws d).getD (tb.toNat * 8 + p.toNat) 0 = ws.getD (tb.toNat * 8 + p.toNat) 0 := by
  unfold layStep
  split
  · rw [List.getD_eq_getElem?_getD, List.getD_eq_getElem?_getD, List.getElem?_set_ne (by omega)]
  · rfl

end Go.Proofs.Ytapeoeakiphfpaa
