/- The walk of the law PhysCopies. -/
import Derived.Test.YtapeoeakiphfpaaLawa
import Derived.Test.YtapeoeakiphfpaaOpen
namespace Go.Proofs.Ytapeoeakiphfpaa
open Go.RowKit
set_option linter.unusedVariables false
set_option linter.unusedSimpArgs false

/-- Which of n things a raw number speaks of. -/
def pickN (c n : Int) : Int := (if c < 0 then -(c + 1) else c) % n
theorem pickN_lo (c n : Int) (h : 0 < n) : 0 ≤ pickN c n := Int.emod_nonneg _ (by omega)
theorem pickN_hi (c n : Int) (h : 0 < n) : pickN c n < n := Int.emod_lt_of_pos _ h

set_option maxHeartbeats 400000 in
theorem law03_pick (w : World) (c n : Int) (hc : (Lit.int .i64 c).wf = true) (hn : 1 ≤ n) (hn' : n ≤ 1000) :
    Calls Try.prog 17 #[.int .i64 c, .int .i64 n] w fun e w' => e = .returned (.int .i64 (pickN c n)) ∧ w' = w := by
  have h1 := i64_lo hc
  have h2 := i64_hi hc
  clear hc
  unfold pickN
  by_cases h : c < 0
  · have h3 : 0 ≤ -(c + 1) := by omega
    rw [if_pos h, ← Int.tmod_eq_emod_of_nonneg h3, Int.neg_tmod]
    go_enter Try.func17, Try.ntmps17
    go_wp2
    go_ret
    exact ⟨rfl, rfl⟩
  · have h3 : 0 ≤ c := by omega
    rw [if_neg h]
    go_enter Try.func17, Try.ntmps17
    go_wp2
    go_ret
    exact ⟨rfl, rfl⟩

theorem drewN_grow (w : World) (m : Nat) : w.grownBy (w.drewN m) none := grow_drewN (grow_refl _ _) m

theorem copyW_len (ws : List Int) (t f : Nat) : (copyW ws t f).length = ws.length := by simp [copyW]
theorem getD_set (ws : List Int) (i j : Nat) (x : Int) : (ws.set i x).getD j 0 = if i = j ∧ i < ws.length then x else ws.getD j 0 := by
  simp only [List.getD, List.getElem?_set]
  by_cases h : i = j
  · subst h
    by_cases h2 : i < ws.length <;> simp [h2]
  · simp [h]
theorem copyW_in (ws : List Int) (t f i : Nat) (hi : i < 8) (h : t * 8 + 8 ≤ ws.length) : (copyW ws t f).getD (t * 8 + i) 0 = ws.getD (f * 8 + i) 0 := by
  unfold copyW
  simp only [getD_set, List.length_set]
  match i, hi with
  | 0, _ => simp; omega
  | 1, _ => simp; omega
  | 2, _ => simp; omega
  | 3, _ => simp; omega
  | 4, _ => simp; omega
  | 5, _ => simp; omega
  | 6, _ => simp; omega
  | 7, _ => simp; omega
theorem copyW_out (ws : List Int) (t f j : Nat) (h : j < t * 8 ∨ t * 8 + 8 ≤ j) : (copyW ws t f).getD j 0 = ws.getD j 0 := by
  unfold copyW
  repeat (rw [getD_set, if_neg (by omega)])

theorem ext_getD (xs ys : List Int) (hl : xs.length = ys.length) (h : ∀ j, j < xs.length → xs.getD j 0 = ys.getD j 0) : xs = ys := by
  apply List.ext_getElem hl
  intro j h1 h2
  have := h j h1
  simpa [List.getD, List.getElem?_eq_getElem h1, List.getElem?_eq_getElem h2] using this
theorem one_word (A I j : Nat) (v : Int) : ((List.replicate 32 (0 : Int)).set (A * 8 + I) v).getD j 0 = if A * 8 + I = j ∧ A * 8 + I < 32 then v else 0 := by
  rw [getD_set, List.length_replicate, getD_replicate0]
theorem copies_val (A B I : Nat) (v x : Int) (hA : A < 4) (hB : B < 4) (hI : I < 8) (hne : A ≠ B) :
    ((copyW ((List.replicate 32 (0 : Int)).set (A * 8 + I) v) B A).set (A * 8 + I) x).getD (B * 8 + I) 0 = v := by
  rw [getD_set, if_neg (by omega), copyW_in _ _ _ _ hI (by simp; omega), one_word, if_pos (by omega)]
theorem copies_same (A B I : Nat) (v x : Int) (hA : A < 4) (hB : B < 4) (hI : I < 8) :
    (copyW ((List.replicate 32 (0 : Int)).set (A * 8 + I) v) B A).set (A * 8 + I) x = (List.replicate 32 (0 : Int)).set (A * 8 + I) v ↔ v = x ∧ (A = B ∨ v = 0) := by
  constructor
  · intro h
    have h1 := congrArg (fun l => l.getD (A * 8 + I) 0) h
    simp only [getD_set, copyW_len, List.length_set, List.length_replicate, true_and, if_pos (show A * 8 + I < 32 by omega)] at h1
    refine ⟨h1.symm, ?_⟩
    by_cases e : A = B
    · exact .inl e
    · right
      have h2 := congrArg (fun l => l.getD (B * 8 + I) 0) h
      rw [copies_val A B I v x hA hB hI e, one_word, if_neg (by omega)] at h2
      exact h2
  · rintro ⟨rfl, h⟩
    apply ext_getD
    · simp [copyW_len]
    · intro j hj
      have hj : j < 32 := by simpa [copyW_len] using hj
      rw [getD_set, copyW_len, List.length_set, List.length_replicate]
      by_cases hb : B * 8 ≤ j ∧ j < B * 8 + 8
      · obtain ⟨q, hq, rfl⟩ : ∃ q, q < 8 ∧ j = B * 8 + q := ⟨j - B * 8, by omega, by omega⟩
        rw [copyW_in _ _ _ _ hq (by simp; omega), one_word, one_word]
        rcases h with rfl | rfl
        · split <;> simp_all
        · simp
      · rw [copyW_out _ _ _ _ (by omega), one_word]
        split <;> simp_all

end Go.Proofs.Ytapeoeakiphfpaa
