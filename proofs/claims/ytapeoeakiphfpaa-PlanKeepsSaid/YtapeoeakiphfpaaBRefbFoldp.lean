import Derived.Test.YtapeoeakiphfpaaBits
import Derived.Test.YtapeoeakiphfpaaBLayPlainPagw
/- Plain laws on words: what is said is read again; a field is laid bit by bit. -/
namespace Go.Proofs.Ytapeoeakiphfpaa
open Go.RowKit
set_option linter.unusedVariables false
set_option linter.unusedSimpArgs false

theorem okD_parts {level : Int} {d : Desc} (h : okD level d = true) : 0 ≤ level ∧ level ≤ 3 ∧ 0 ≤ d.fFrame ∧ d.fFrame < 512 ∧ 0 ≤ d.fSoft ∧ d.fSoft ≤ 7 ∧ mayD level d = true := by
  simp only [okD, Bool.and_eq_true, decide_eq_true_eq] at h
  obtain ⟨⟨⟨⟨⟨⟨a, b⟩, c⟩, e⟩, f⟩, g⟩, i⟩ := h
  exact ⟨a, b, c, e, f, g, i⟩
theorem mayD_kind {level : Int} {d : Desc} (h : mayD level d = true) : d = noneD ∨ (level < 3 ∧ d = tableD d.fFrame) ∨ (level = 2 ∧ d.fKind = 2 ∧ d.fFold = false ∧ d.fFrame % 8 = 0) ∨ (level = 3 ∧ d.fKind = 3) ∨ (d.fKind = 4 ∧ d.fSeen = false ∧ d.fFold = false) := by
  unfold mayD at h
  split at h
  · exact .inl (by simpa using h)
  · split at h
    · simp only [Bool.and_eq_true, decide_eq_true_eq, beq_iff_eq] at h
      exact .inr (.inl h)
    · split at h
      · rename_i h2
        simp only [Bool.and_eq_true, beq_iff_eq, Bool.not_eq_true'] at h
        exact .inr (.inr (.inl ⟨h.1.1, h2, h.1.2, h.2⟩))
      · split at h
        · rename_i h3
          simp only [beq_iff_eq] at h
          exact .inr (.inr (.inr (.inl ⟨h, h3⟩)))
        · split at h
          · rename_i h4
            simp only [Bool.and_eq_true, Bool.not_eq_true'] at h
            exact .inr (.inr (.inr (.inr ⟨h4, h.1, h.2⟩)))
          · cases h

theorem read_enc {level : Int} {d : Desc} (h : okD level d = true) : readD level (encW d) = d := by
  obtain ⟨l0, l1, f0, f1, s0, s1, hm⟩ := okD_parts h
  rcases mayD_kind hm with h | ⟨h1, h2⟩ | ⟨h1, h2, h3, _⟩ | ⟨h1, h2⟩ | ⟨h1, h2, h3⟩
  · subst h; rfl
  · obtain ⟨k, f, wr, ex, se, fo, so⟩ := d
    simp only [tableD, Desc.mk.injEq] at h2
    obtain ⟨rfl, _, rfl, rfl, rfl, rfl, rfl⟩ := h2
    simp only [encW, if_neg (show ¬ (1 : Int) = 0 by decide), ↓reduceIte] at *
    unfold readD
    rw [if_neg (by omega), if_neg (by omega), if_neg (by omega), if_pos h1]
    simp only [tableD, Desc.mk.injEq, and_true, true_and]
    omega
  · obtain ⟨k, f, wr, ex, se, fo, so⟩ := d
    dsimp only at *
    subst h2 h3
    unfold readD rightsD encW
    cases wr <;> cases ex <;> cases se <;> simp only [Bool.false_eq_true, ↓reduceIte, show ¬ (2 : Int) = 0 by decide, show ¬ (2 : Int) = 1 by decide, show ¬ (2 : Int) = 3 by decide] <;>
      (rw [if_neg (by omega), if_neg (by omega), if_pos (by omega)]; simp only [Desc.mk.injEq, true_and, beq_iff_eq, bne_iff_ne, beq_eq_false_iff_ne, bne_eq_false_iff_eq, ne_eq]; omega)
  · obtain ⟨k, f, wr, ex, se, fo, so⟩ := d
    dsimp only at *
    subst h2 h1
    unfold readD rightsD encW
    cases wr <;> cases ex <;> cases se <;> cases fo <;> simp only [Bool.false_eq_true, ↓reduceIte, show ¬ (3 : Int) = 0 by decide, show ¬ (3 : Int) = 1 by decide, show ¬ (3 : Int) < 3 by decide] <;>
      (rw [if_neg (by omega), if_neg (by omega), if_neg (by omega)]; simp only [Desc.mk.injEq, true_and, beq_iff_eq, bne_iff_ne, beq_eq_false_iff_ne, bne_eq_false_iff_eq, ne_eq]; omega)
  · obtain ⟨k, f, wr, ex, se, fo, so⟩ := d
    dsimp only at *
    subst h2 h1 h3
    unfold readD rightsD encW
    cases wr <;> cases ex <;> simp only [Bool.false_eq_true, ↓reduceIte, show ¬ (4 : Int) = 0 by decide, show ¬ (4 : Int) = 1 by decide, show ¬ (4 : Int) = 3 by decide, show ¬ (4 : Int) = 2 by decide] <;>
      (rw [if_neg (by omega), if_pos (by omega)]; simp only [Desc.mk.injEq, true_and, beq_iff_eq, bne_iff_ne, beq_eq_false_iff_ne, bne_eq_false_iff_eq, ne_eq]; omega)
/-- What is said is read again. -/
theorem dec_enc {level : Int} {d : Desc} (h : okD level d = true) : decD level (encW d) = d := by
  unfold decD
  rw [read_enc h, h]
  simp
theorem enc_range {level : Int} {d : Desc} (h : okD level d = true) : 0 ≤ encW d ∧ encW d < 18446744073709551616 := by
  obtain ⟨l0, l1, f0, f1, s0, s1, hm⟩ := okD_parts h
  unfold encW
  split
  · omega
  · split
    · omega
    · split <;> split <;> split <;> split <;> (try split) <;> (try split) <;> omega

/-- Of a kind, what a word's fields could say. -/
def candD (x k : Int) : Desc := if k = 0 then noneD else if k = 1 then tableD (x / 2 ^ 12 % 2 ^ 36) else rightsD x k
theorem dec_cand {level x k : Int} (h : okD level (candD x k) = true) (he : encW (candD x k) = x) : decD level x = candD x k := by
  have := dec_enc h
  rwa [he] at this
theorem read_cand (level x : Int) : ∃ k : Nat, k ≤ 4 ∧ readD level x = candD x k := by
  unfold readD
  split
  · exact ⟨0, by omega, rfl⟩
  · split
    · exact ⟨4, by omega, rfl⟩
    · split
      · exact ⟨2, by omega, rfl⟩
      · split
        · exact ⟨1, by omega, rfl⟩
        · exact ⟨3, by omega, rfl⟩
theorem dec_none {level x : Int} (h : ∀ k : Nat, k ≤ 4 → okD level (candD x k) = true → encW (candD x k) ≠ x) : decD level x = badD := by
  obtain ⟨k, hk, hr⟩ := read_cand level x
  unfold decD
  rw [hr, if_neg]
  intro hh
  simp only [Bool.and_eq_true, beq_iff_eq] at hh
  exact h k hk hh.1 hh.2
theorem dec_high {level x : Int} (h : 512 ≤ x / 2 ^ 12 % 2 ^ 36) : decD level x = badD := by
  refine dec_none fun k _ hok he => ?_
  obtain ⟨_, _, _, f1, _⟩ := okD_parts hok
  unfold candD at *
  split at he
  · have : x = 0 := he.symm
    subst this
    omega
  · rename_i h0
    rw [if_neg h0] at f1
    split at he
    · rename_i h1
      rw [if_pos h1] at f1
      simp only [tableD] at f1
      omega
    · rename_i h1
      rw [if_neg h1] at f1
      simp only [rightsD] at f1
      omega

/-- A number out of its highest bits, one by one. -/
def valB (b : Nat → Nat) : Nat → Nat
  | 0 => 0
  | k + 1 => valB b k * 2 + b (63 - k)
theorem valB_of (P : Nat) (hP : P < 2 ^ 64) (b : Nat → Nat) (hb : ∀ i, i < 64 → P / 2 ^ i % 2 = b i) : ∀ k, k ≤ 64 → valB b k = P / 2 ^ (64 - k) := by
  intro k
  induction k with
  | zero => intro _; simp [valB]; omega
  | succ k ih =>
    intro hk
    have h1 := hb (63 - k) (by omega)
    have h2 : P / 2 ^ (64 - k) = P / 2 ^ (63 - k) / 2 := by rw [Nat.div_div_eq_div_mul, ← Nat.pow_succ, show (63 - k).succ = 64 - k by omega]
    rw [valB, ih (by omega), h2, ← h1, show 64 - (k + 1) = 63 - k by omega]
    omega
/-- Field a (of n bits) of a word in which it is 0 made v: its bits. -/
theorem put_bits (x a n v : Nat) (hx : x / 2 ^ a % 2 ^ n = 0) (hv : v < 2 ^ n) (i : Nat) : (x + v * 2 ^ a) / 2 ^ i % 2 = if a ≤ i ∧ i < a + n then v / 2 ^ (i - a) % 2 else x / 2 ^ i % 2 := by
  have e0 : x = 2 ^ a * (2 ^ n * (x / 2 ^ a / 2 ^ n)) + x % 2 ^ a := by
    have h1 := Nat.div_add_mod x (2 ^ a)
    have h2 := Nat.div_add_mod (x / 2 ^ a) (2 ^ n)
    rw [hx, Nat.add_zero] at h2
    rw [h2]; exact h1.symm
  generalize x / 2 ^ a / 2 ^ n = q at e0
  have hl : x % 2 ^ a < 2 ^ a := Nat.mod_lt _ (Nat.two_pow_pos a)
  generalize x % 2 ^ a = l at e0 hl
  have e1 : x + v * 2 ^ a = 2 ^ a * (2 ^ n * q + v) + l := by rw [e0, Nat.mul_add, Nat.mul_comm v]; omega
  rw [e1, e0]
  simp only [← Nat.toNat_testBit]
  rw [Nat.testBit_two_pow_mul_add _ hl, Nat.testBit_two_pow_mul_add _ hl, Nat.testBit_two_pow_mul_add _ hv]
  by_cases h1 : i < a
  · rw [if_pos h1, if_pos h1, if_neg (by omega)]
  · by_cases h2 : i - a < n
    · rw [if_neg h1, if_pos h2, if_pos (by omega)]
    · rw [if_neg h1, if_neg h2, if_neg (by omega), if_neg h1, Nat.testBit_two_pow_mul]
      simp [show n ≤ i - a by omega]
theorem field_step (x a n j : Nat) (hj : j < n) : x / 2 ^ (a + (n - 1 - j)) % 2 ^ (j + 1) = x / 2 ^ (a + (n - j)) % 2 ^ j * 2 + x / 2 ^ (a + (n - 1 - j)) % 2 := by
  have h2 : x / 2 ^ (a + (n - j)) = x / 2 ^ (a + (n - 1 - j)) / 2 := by rw [Nat.div_div_eq_div_mul, ← Nat.pow_succ, show (a + (n - 1 - j)).succ = a + (n - j) by omega]
  rw [h2, Nat.pow_succ, Nat.mul_comm (2 ^ j) 2, Nat.mod_mul]
  omega

end Go.Proofs.Ytapeoeakiphfpaa

/- Plain laws on walks, words and runs of four pages. -/
namespace Go.Proofs.Ytapeoeakiphfpaa
open Go.RowKit
set_option linter.unusedVariables false
set_option linter.unusedSimpArgs false

/-- The word at which a walk ends, and what it says. -/
theorem walkAt_word {ws : List Int} {n p : Int} : ∀ (k : Nat) (lv tb : Int) (f : Found), 0 ≤ lv → lv + k = 4 → walkAt ws n p k lv tb = some f →
    0 ≤ f.fTable ∧ f.fTable < n ∧ f.fPlace = placeN f.fLevel p ∧ lv ≤ f.fLevel ∧ f.fLevel < 4 ∧ (decD f.fLevel (ws.getD (f.fTable.toNat * 8 + f.fPlace.toNat) 0)).fKind ≠ 1 ∧
    f = foundD (decD f.fLevel (ws.getD (f.fTable.toNat * 8 + f.fPlace.toNat) 0)) f.fLevel f.fTable f.fPlace p := by
  intro k
  induction k with
  | zero => intro lv tb f _ _ h; simp [walkAt] at h
  | succ k ih =>
    intro lv tb f h0 hk h
    unfold walkAt at h
    split at h
    · rename_i ht
      split at h
      · have := ih _ _ _ (by omega) (by omega) h
        exact ⟨this.1, this.2.1, this.2.2.1, by omega, this.2.2.2.2⟩
      · rename_i hd
        simp only [Option.some.injEq] at h
        have hp := foundD_parts (decD lv (ws.getD (tb.toNat * 8 + (placeN lv p).toNat) 0)) lv tb (placeN lv p) p
        rw [h] at hp
        obtain ⟨h1, h2, h3, h4⟩ := hp
        rw [h1, h2, h3]
        exact ⟨ht.1, ht.2, rfl, by omega, by omega, hd, h.symm⟩
    · cases h
theorem decD_ok {level x : Int} (h : (decD level x).fKind ≠ 5) : okD level (decD level x) = true ∧ encW (decD level x) = x := by
  unfold decD at h ⊢
  split
  · rename_i hh
    simpa using hh
  · rename_i hh
    rw [if_neg hh] at h
    exact absurd rfl h
/-- A page that a walk found: its word, and what may be said there. -/
theorem walk_page {ws : List Int} {n p root : Int} {f : Found} (h : walkAt ws n p 4 0 root = some f) (hk : f.fKind = 3) :
    f.fLevel = 3 ∧ (f.fOrder = 0 ∨ f.fOrder = 2) ∧ ∃ d, decD 3 (ws.getD (f.fTable.toNat * 8 + f.fPlace.toNat) 0) = d ∧ okD 3 d = true ∧ d.fKind = 3 ∧ f = foundD d 3 f.fTable f.fPlace p := by
  obtain ⟨_, _, _, _, _, _, hf⟩ := walkAt_word 4 0 root f (by omega) (by omega) h
  generalize hd : decD f.fLevel (ws.getD (f.fTable.toNat * 8 + f.fPlace.toNat) 0) = d at hf
  have hkd : d.fKind = 3 := by rw [← hk, hf, (foundD_parts _ _ _ _ _).2.2.2]
  have hl : f.fLevel = 3 := decD_page _ _ (by rw [hd]; exact hkd)
  have hord : f.fOrder = 0 ∨ f.fOrder = 2 := by
    rw [hf]
    unfold foundD
    rw [if_neg (by omega), if_pos hkd]
    split
    · exact .inr rfl
    · exact .inl rfl
  rw [hl] at hd hf
  refine ⟨hl, hord, d, hd, ?_, hkd, hf⟩
  have := (decD_ok (level := 3) (x := ws.getD (f.fTable.toNat * 8 + f.fPlace.toNat) 0) (by rw [hd, hkd]; omega)).1
  rwa [hd] at this

/-- What walks of i pages from one on find. -/
def runN (ws : List Int) (n root first : Int) : Nat → Option (List Found)
  | 0 => some []
  | i + 1 => (runN ws n root first i).bind fun l => (walkAt ws n (first + i) 4 0 root).map fun f => l ++ [f]
theorem runN_len {ws : List Int} {n root first : Int} : ∀ (i : Nat) (l : List Found), runN ws n root first i = some l → l.length = i := by
  intro i
  induction i with
  | zero => intro l h; simp [runN] at h; subst h; rfl
  | succ i ih =>
    intro l h
    simp only [runN, Option.bind_eq_some_iff, Option.map_eq_some_iff] at h
    obtain ⟨l', h1, f, h2, h3⟩ := h
    rw [← h3, List.length_append, ih _ h1]; rfl
theorem runN_step {ws : List Int} {n root first : Int} {i : Nat} {l : List Found} {r : Option Found} (h : runN ws n root first i = some l) (hr : walkAt ws n (first + i) 4 0 root = r) : runN ws n root first (i + 1) = r.map fun f => l ++ [f] := by
  rw [runN, h, Option.bind_some, hr]
theorem runN_none {ws : List Int} {n root first : Int} (i : Nat) (h : runN ws n root first i = none) : ∀ j, runN ws n root first (i + j) = none := by
  intro j
  induction j with
  | zero => exact h
  | succ j ih => rw [← Nat.add_assoc, runN, ih]; rfl
theorem runN_at {ws : List Int} {n root first : Int} : ∀ (i : Nat) (l : List Found), runN ws n root first i = some l → ∀ (j : Nat) (f : Found), l[j]? = some f → walkAt ws n (first + j) 4 0 root = some f := by
  intro i
  induction i with
  | zero => intro l h j f hj; simp [runN] at h; subst h; simp at hj
  | succ i ih =>
    intro l h j f hj
    simp only [runN, Option.bind_eq_some_iff, Option.map_eq_some_iff] at h
    obtain ⟨l', h1, g, h2, h3⟩ := h
    have hlen := runN_len i l' h1
    rw [← h3, List.getElem?_append] at hj
    split at hj
    · exact ih l' h1 j f hj
    · rename_i hge
      have hj' : j - l'.length = 0 := by
        have := (List.getElem?_eq_some_iff.1 hj).1
        simp at this; omega
      rw [hj'] at hj
      have hji : j = i := by omega
      subst hji
      have hgf : g = f := by simpa using hj
      rw [← hgf]; exact h2
/-- Is a page, of an order, of the frame i behind the first one's, with its rights? -/
def likeB (z f : Found) (i order : Int) : Bool := f.fKind == 3 && f.fOrder == order && f.fFrame == z.fFrame + i && f.fWrite == z.fWrite && f.fExec == z.fExec
def alikeB (l : List Found) (order : Int) : Bool := (List.range l.length).all fun i => likeB (l.getD 0 zeroF) (l.getD i zeroF) i order
theorem alikeB_at {l : List Found} {order : Int} (h : alikeB l order = true) {i : Nat} {f : Found} (hf : l[i]? = some f) : likeB (l.getD 0 zeroF) f i order = true := by
  have hi := (List.getElem?_eq_some_iff.1 hf).1
  have := List.all_eq_true.1 h i (by simpa using hi)
  rwa [List.getD_eq_getElem?_getD (i := i), hf] at this
theorem alikeB_no {l : List Found} {order : Int} {i : Nat} {f : Found} (hf : l[i]? = some f) (h : likeB (l.getD 0 zeroF) f i order = false) : alikeB l order = false := by
  cases ha : alikeB l order with
  | false => rfl
  | true => rw [alikeB_at ha hf] at h; cases h
theorem alikeB_yes {l : List Found} {order : Int} (h : ∀ (i : Nat) (f : Found), l[i]? = some f → likeB (l.getD 0 zeroF) f i order = true) : alikeB l order = true := by
  refine List.all_eq_true.2 fun i hi => ?_
  have hi' : i < l.length := by simpa using hi
  rw [List.getD_eq_getElem?_getD (i := i), List.getElem?_eq_getElem hi']
  exact h i _ (List.getElem?_eq_getElem hi')

end Go.Proofs.Ytapeoeakiphfpaa
