import Derived.Test.YtapeoeakiphfpaaSemv
/- Plain laws: behind the steps of Path nothing is missing, and walks find what they found; the same behind those of Prune; words stay words. -/
namespace Go.Proofs.Ytapeoeakiphfpaa
open Go.RowKit
set_option linter.unusedVariables false
set_option linter.unusedSimpArgs false

/-- Every walk finds what it found, but that where nothing is it may end at another place. -/
def AlikeW (ws us : List Int) (n : Nat) (root : Int) : Prop := ∀ q x, walkAt ws n q 4 0 root = some x → ∃ y, walkAt us n q 4 0 root = some y ∧ y.fKind = x.fKind ∧ (x.fKind ≠ 0 → y = x)
def StepOk (s : Step) : Prop := 0 ≤ s.fValue ∧ s.fValue < 18446744073709551616
theorem WOk_clear {ws : List Int} (h : WOk ws) (f : Nat) : WOk (clearW ws f) := by
  unfold clearW
  repeat refine WOk_set ?_ _ _ (by omega) (by omega)
  exact h
theorem WOk_stepW {n : Nat} {ws : List Int} {s : Step} (h : WOk ws) (hs : StepOk s) : WOk (stepW n ws s) := by
  unfold stepW
  split
  · split
    · exact WOk_set h _ _ hs.1 hs.2
    · exact h
  · split
    · split
      · exact WOk_clear h _
      · exact h
    · split
      · split
        · exact WOk_set h _ _ (h.getD _).1 (h.getD _).2
        · exact h
      · exact h
theorem WOk_doW {n : Nat} : ∀ (l : List Step) (ws : List Int), WOk ws → (∀ s ∈ l, StepOk s) → WOk (doW n ws l) := by
  intro l
  induction l with
  | nil => intro ws h _; exact h
  | cons s l ih => intro ws h hs; rw [doW_cons]; exact ih _ (WOk_stepW h (hs s (.head _))) fun x hx => hs x (.tail _ hx)
theorem pathS_ok (asid page : Int) : ∀ (fs : List Int) (l : Nat) (tb pl : Int), (∀ f ∈ fs, 0 ≤ f ∧ f < 512) → ∀ s ∈ (pathS asid page l tb pl fs).1, StepOk s := by
  intro fs
  induction fs with
  | nil => intro l tb pl _ s hs; cases hs
  | cons f fs ih =>
    intro l tb pl hf s hs
    simp only [pathS, List.mem_cons] at hs
    have h0 := hf f (.head _)
    rcases hs with rfl | rfl | hs
    · exact ⟨show (0 : Int) ≤ 0 by omega, show (0 : Int) < 18446744073709551616 by omega⟩
    · exact ⟨by show 0 ≤ f * 4096 + 3; omega, by show f * 4096 + 3 < _; omega⟩
    · exact ih _ _ _ (fun x hx => hf x (.tail _ hx)) s hs
theorem pruneS_ok (ws : List Int) (asid page : Int) (way : List (Int × Int)) : ∀ (l : Nat) (but : Int), ∀ s ∈ (pruneS ws asid page way l but).1, StepOk s := by
  intro l
  induction l with
  | zero => intro but s hs; cases hs
  | succ l ih =>
    intro but s hs
    unfold pruneS at hs
    split at hs
    · simp only [List.mem_cons] at hs
      rcases hs with rfl | rfl | rfl | hs
      · exact ⟨show (0 : Int) ≤ 0 by omega, show (0 : Int) < 18446744073709551616 by omega⟩
      · exact ⟨show (0 : Int) ≤ 0 by omega, show (0 : Int) < 18446744073709551616 by omega⟩
      · exact ⟨show (0 : Int) ≤ 0 by omega, show (0 : Int) < 18446744073709551616 by omega⟩
      · exact ih _ s hs
    · cases hs
theorem pruneS_len (ws : List Int) (asid page : Int) (way : List (Int × Int)) : ∀ (l : Nat) (but : Int), (pruneS ws asid page way l but).1.length ≤ 3 * l := by
  intro l
  induction l with
  | zero => intro but; simp [pruneS]
  | succ l ih =>
    intro but
    unfold pruneS
    split
    · have := ih (way.getD l (0, 0)).2
      simp only [List.length_cons]
      omega
    · simp
theorem pruneG_len (ws : List Int) (asid page : Int) (way : List (Int × Int)) : ∀ (l : Nat) (but : Int), (pruneS ws asid page way l but).2.length ≤ l := by
  intro l
  induction l with
  | zero => intro but; simp [pruneS]
  | succ l ih =>
    intro but
    unfold pruneS
    split
    · have := ih (way.getD l (0, 0)).2
      simp only [List.length_cons]
      omega
    · simp
theorem goodF_all {n : Nat} {l : List Int} (h : ¬ l.all (goodF n) = false) : ∀ f ∈ l, 0 ≤ f ∧ f < n := by
  intro f hf
  have h1 : l.all (goodF n) = true := by simpa using h
  simpa [goodF] using List.all_eq_true.1 h1 f hf
/-- What stands where Path told steps. -/
theorem path_parts {n L : Nat} {asid page : Int} {fresh : List Int} {w : Option (List (Int × Int) × Desc)} {st : List Step} {t : Int × Int} (hR : pathRes n asid page L fresh w = .yes st t) :
    ∃ s d, w = some (s, d) ∧ st = (pathS asid page (s.length - 1) (lastS s).1 (lastS s).2 (fresh.take (L + 1 - s.length))).1 ∧ (L + 1 - s.length ≠ 0 → d.fKind = 0) ∧ (∀ f ∈ fresh, 0 ≤ f ∧ f < n) ∧ L + 1 - s.length ≤ fresh.length ∧ 0 ≤ asid ∧ asid ≤ 255 := by
  cases w with
  | none => cases hR
  | some p =>
    obtain ⟨s, d⟩ := p
    unfold pathRes at hR
    dsimp only at hR
    split at hR
    · cases hR
    · rename_i h1
      split at hR
      · cases hR
      · rename_i h2
        split at hR
        · cases hR
        · rename_i h3
          split at hR
          · cases hR
          · rename_i h4
            injection hR with h5 h6
            refine ⟨s, d, rfl, h5.symm, fun h => ?_, goodF_all h3, by omega, by omega, by omega⟩
            exact Classical.byContradiction fun hk => h1 ⟨by omega, hk⟩
theorem path_keeps {ws : List Int} {n L : Nat} {root asid page : Int} {fresh r : List Int} {st : List Step} {t : Int × Int} (hn : n ≤ 512) (hw : ws.length = n * 8) (r0 : 0 ≤ root) (r1 : root < n) (l1 : L < 4) (hr : tabsAt ws n 4 0 root = some r) (hnd : (r ++ fresh).Nodup)
    (hR : pathRes n asid page L fresh (wayAt ws n page (L + 1) 0 root) = .yes st t) :
    needP L (wayAt (doW n ws st) n page (L + 1) 0 root) = (0, 0) ∧ AlikeW ws (doW n ws st) n root ∧ (∀ s ∈ st, StepOk s) ∧ st.length ≤ 10 := by
  obtain ⟨s, d, hs, rfl, hd, hf, hl, _, _⟩ := path_parts hR
  obtain ⟨q0, q1⟩ := wayAt_len _ _ _ _ _ hs
  have hfs : (fresh.take (L + 1 - s.length)).length = L + 1 - s.length := by rw [List.length_take]; omega
  have hnd' : (r ++ fresh.take (L + 1 - s.length)).Nodup := by
    obtain ⟨a, b, c⟩ := List.nodup_append.1 hnd
    exact List.nodup_append.2 ⟨a, b.sublist (List.take_sublist _ _), fun x hx y hy => c x hx y ((List.take_sublist _ _).subset hy)⟩
  have hin : ∀ f ∈ fresh.take (L + 1 - s.length), 0 ≤ f ∧ f < n := fun f h => hf f ((List.take_sublist _ _).subset h)
  have hB := path_behind (asid := asid) hn hw r0 r1 l1 hr hnd' hs (fun h => hd fun h0 => h (List.eq_nil_of_length_eq_zero (by omega))) (by omega) hin
  refine ⟨?_, hB.walks, pathS_ok _ _ _ _ _ _ fun f h => ⟨(hin f h).1, by have := (hin f h).2; omega⟩, by rw [pathS_len]; omega⟩
  by_cases h0 : fresh.take (L + 1 - s.length) = []
  · rw [h0] at hfs ⊢
    simp only [List.length_nil] at hfs
    show needP L (wayAt ws n page (L + 1) 0 root) = _
    rw [hs]
    unfold needP
    dsimp only
    rw [if_neg (by intro h; omega)]
    congr 1
    omega
  · have := hB.way 0 (by omega) h0
    rw [show s.length + (fresh.take (L + 1 - s.length)).length + 0 = L + 1 by omega] at this
    rw [this]
    have hlen : (s ++ chainS page (s.length : Int) (fresh.take (L + 1 - s.length))).length = L + 1 := by rw [List.length_append, chainS_len]; omega
    unfold needP
    dsimp only
    rw [hlen, if_neg (by intro h; omega)]
    congr 1
    omega
theorem prune_parts {ws : List Int} {asid page : Int} {w : Option (List (Int × Int) × Desc)} {st : List Step} {gone : List Int} (hR : pruneRes ws asid page w = .yes st gone) :
    ∃ s d, w = some (s, d) ∧ st = (pruneS ws asid page s (s.length - 1) (-1)).1 ∧ gone = (pruneS ws asid page s (s.length - 1) (-1)).2 := by
  cases w with
  | none => cases hR
  | some p =>
    obtain ⟨s, d⟩ := p
    unfold pruneRes at hR
    dsimp only at hR
    split at hR
    · cases hR
    · injection hR with h5 h6
      exact ⟨s, d, rfl, h5.symm, h6.symm⟩
theorem prune_keeps {ws : List Int} {n : Nat} {root asid page : Int} {r : List Int} {st : List Step} {gone : List Int} (hn : n ≤ 512) (hw : ws.length = n * 8) (r0 : 0 ≤ root) (r1 : root < n) (hr : tabsAt ws n 4 0 root = some r) (hnd : r.Nodup)
    (hR : pruneRes ws asid page (wayAt ws n page 4 0 root) = .yes st gone) : AlikeW ws (doW n ws st) n root ∧ (∀ s ∈ st, StepOk s) ∧ st.length ≤ 10 := by
  obtain ⟨s, d, hs, rfl, _⟩ := prune_parts hR
  have h4 := wayAt_len _ _ _ _ _ hs
  exact ⟨fun q x hx => prune_behind hn hw r0 r1 hr hnd hs q x hx, pruneS_ok _ _ _ _ _ _, by have := pruneS_len ws asid page s (s.length - 1) (-1); omega⟩

end Go.Proofs.Ytapeoeakiphfpaa
