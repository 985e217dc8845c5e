import Derived.Test.YtapeoeakiphfpaaBPlainPagw
import Derived.Test.YtapeoeakiphfpaaBBitsRefb
/- Plain laws on walks, words and runs of four pages. -/
namespace Go.Proofs.Ytapeoeakiphfpaa
open Go.RowKit
set_option linter.unusedVariables false
set_option linter.unusedSimpArgs false

/-- The word at which a walk ends, and what it says. -/
theorem walkAt_word {ws : List Int} {n p : Int} : ∀ (k : Nat) (lv tb : Int) (f : Found), 0 ≤ lv → lv + k = 4 → walkAt ws n p k lv tb = some f →
    0 ≤ f.fTable ∧ f.fTable < n ∧ f.fPlace = placeN f.fLevel p ∧ lv ≤ f.fLevel ∧ f.fLevel < 4 ∧ (decD f.fLevel (ws.getD (f.fTable.toNat * 8 + f.fPlace.toNat) 0)).fKind ≠ 1 ∧
    f = foundD (decD f.fLevel (ws.getD (f.fTable.toNat * 8 + f.fPlace.toNat) 0)) f.fLevel f.fTable f.fPlace p := by
  intro k
  induction k with
  | zero => intro lv tb f _ _ h; simp [walkAt] at h
  | succ k ih =>
    intro lv tb f h0 hk h
    unfold walkAt at h
    split at h
    · rename_i ht
      split at h
      · have := ih _ _ _ (by omega) (by omega) h
        exact ⟨this.1, this.2.1, this.2.2.1, by omega, this.2.2.2.2⟩
      · rename_i hd
        simp only [Option.some.injEq] at h
        have hp := foundD_parts (decD lv (ws.getD (tb.toNat * 8 + (placeN lv p).toNat) 0)) lv tb (placeN lv p) p
        rw [h] at hp
        obtain ⟨h1, h2, h3, h4⟩ := hp
        rw [h1, h2, h3]
        exact ⟨ht.1, ht.2, rfl, by omega, by omega, hd, h.symm⟩
    · cases h
theorem decD_ok {level x : Int} (h : (decD level x).fKind ≠ 5) : okD level (decD level x) = true ∧ encW (decD level x) = x := by
  unfold decD at h ⊢
  split
  · rename_i hh
    simpa using hh
  · rename_i hh
    rw [if_neg hh] at h
    exact absurd rfl h
/-- A page that a walk found: its word, and what may be said there. -/
theorem walk_page {ws : List Int} {n p root : Int} {f : Found} (h : walkAt ws n p 4 0 root = some f) (hk : f.fKind = 3) :
    f.fLevel = 3 ∧ (f.fOrder = 0 ∨ f.fOrder = 2) ∧ ∃ d, decD 3 (ws.getD (f.fTable.toNat * 8 + f.fPlace.toNat) 0) = d ∧ okD 3 d = true ∧ d.fKind = 3 ∧ f = foundD d 3 f.fTable f.fPlace p := by
  obtain ⟨_, _, _, _, _, _, hf⟩ := walkAt_word 4 0 root f (by omega) (by omega) h
  generalize hd : decD f.fLevel (ws.getD (f.fTable.toNat * 8 + f.fPlace.toNat) 0) = d at hf
  have hkd : d.fKind = 3 := by rw [← hk, hf, (foundD_parts _ _ _ _ _).2.2.2]
  have hl : f.fLevel = 3 := decD_page _ _ (by rw [hd]; exact hkd)
  have hord : f.fOrder = 0 ∨ f.fOrder = 2 := by
    rw [hf]
    unfold foundD
    rw [if_neg (by omega), if_pos hkd]
    split
    · exact .inr rfl
    · exact .inl rfl
  rw [hl] at hd hf
  refine ⟨hl, hord, d, hd, ?_, hkd, hf⟩
  have := (decD_ok (level := 3) (x := ws.getD (f.fTable.toNat * 8 + f.fPlace.toNat) 0) (by rw [hd, hkd]; omega)).1
  rwa [hd] at this

/-- What walks of i pages from one on find. -/
def runN (ws : List Int) (n root first : Int) : Nat → Option (List Found)
  | 0 => some []
  | i + 1 => (runN ws n root first i).bind fun l => (walkAt ws n (first + i) 4 0 root).map fun f => l ++ [f]
theorem runN_len {ws : List Int} {n root first : Int} : ∀ (i : Nat) (l : List Found), runN ws n root first i = some l → l.length = i := by
  intro i
  induction i with
  | zero => intro l h; simp [runN] at h; subst h; rfl
  | succ i ih =>
    intro l h
    simp only [runN, Option.bind_eq_some_iff, Option.map_eq_some_iff] at h
    obtain ⟨l', h1, f, h2, h3⟩ := h
    rw [← h3, List.length_append, ih _ h1]; rfl
theorem runN_step {ws : List Int} {n root first : Int} {i : Nat} {l : List Found} {r : Option Found} (h : runN ws n root first i = some l) (hr : walkAt ws n (first + i) 4 0 root = r) : runN ws n root first (i + 1) = r.map fun f => l ++ [f] := by
  rw [runN, h, Option.bind_some, hr]
theorem runN_none {ws : List Int} {n root first : Int} (i : Nat) (h : runN ws n root first i = none) : ∀ j, runN ws n root first (i + j) = none := by
  intro j
  induction j with
  | zero => exact h
  | succ j ih => rw [← Nat.add_assoc, runN, ih]; rfl
theorem runN_at {ws : List Int} {n root first : Int} : ∀ (i : Nat) (l : List Found), runN ws n root first i = some l → ∀ (j : Nat) (f : Found), l[j]? = some f → walkAt ws n (first + j) 4 0 root = some f := by
  intro i
  induction i with
  | zero => intro l h j f hj; simp [runN] at h; subst h; simp at hj
  | succ i ih =>
    intro l h j f hj
    simp only [runN, Option.bind_eq_some_iff, Option.map_eq_some_iff] at h
    obtain ⟨l', h1, g, h2, h3⟩ := h
    have hlen := runN_len i l' h1
    rw [← h3, List.getElem?_append] at hj
    split at hj
    · exact ih l' h1 j f hj
    · rename_i hge
      have hj' : j - l'.length = 0 := by
        have := (List.getElem?_eq_some_iff.1 hj).1
        simp at this; omega
      rw [hj'] at hj
      have hji : j = i := by omega
      subst hji
      have hgf : g = f := by simpa using hj
      rw [← hgf]; exact h2
/-- Is a page, of an order, of the frame i behind the first one's, with its rights? -/
def likeB (z f : Found) (i order : Int) : Bool := f.fKind == 3 && f.fOrder == order && f.fFrame == z.fFrame + i && f.fWrite == z.fWrite && f.fExec == z.fExec
def alikeB (l : List Found) (order : Int) : Bool := (List.range l.length).all fun i => likeB (l.getD 0 zeroF) (l.getD i zeroF) i order
theorem alikeB_at {l : List Found} {order : Int} (h : alikeB l order = true) {i : Nat} {f : Found} (hf : l[i]? = some f) : likeB (l.getD 0 zeroF) f i order = true := by
  have hi := (List.getElem?_eq_some_iff.1 hf).1
  have := List.all_eq_true.1 h i (by simpa using hi)
  rwa [List.getD_eq_getElem?_getD (i := i), hf] at this
theorem alikeB_no {l : List Found} {order : Int} {i : Nat} {f : Found} (hf : l[i]? = some f) (h : likeB (l.getD 0 zeroF) f i order = false) : alikeB l order = false := by
  cases ha : alikeB l order with
  | false => rfl
  | true => rw [alikeB_at ha hf] at h; cases h
theorem alikeB_yes {l : List Found} {order : Int} (h : ∀ (i : Nat) (f : Found), l[i]? = some f → likeB (l.getD 0 zeroF) f i order = true) : alikeB l order = true := by
  refine List.all_eq_true.2 fun i hi => ?_
  have hi' : i < l.length := by simpa using hi
  rw [List.getD_eq_getElem?_getD (i := i), List.getElem?_eq_getElem hi']
  exact h i _ (List.getElem?_eq_getElem hi')

end Go.Proofs.Ytapeoeakiphfpaa
