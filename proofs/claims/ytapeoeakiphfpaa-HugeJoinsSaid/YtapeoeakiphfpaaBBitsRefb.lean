import Derived.Test.YtapeoeakiphfpaaBBaseWord
import Derived.Test.YtapeoeakiphfpaaOpen
/- Words of 64 bits as integers: one bit asked, one bit set, what descriptors say. -/
namespace Go.Proofs.Ytapeoeakiphfpaa
open Go.RowKit
set_option linter.unusedVariables false
set_option linter.unusedSimpArgs false

theorem nat_or_bit (x k : Nat) (h : x / 2 ^ k % 2 = 0) : x ||| 2 ^ k = x + 2 ^ k := by
  have hlo : x % 2 ^ k < 2 ^ k := Nat.mod_lt _ (Nat.two_pow_pos k)
  have e1 : x = 2 ^ k * (x / 2 ^ k) + x % 2 ^ k := (Nat.div_add_mod x (2 ^ k)).symm
  have e2 : x / 2 ^ k = 2 * (x / 2 ^ k / 2) := by have := Nat.div_add_mod (x / 2 ^ k) 2; omega
  generalize x / 2 ^ k / 2 = h2 at *
  generalize x % 2 ^ k = lo at *
  have e3 : x = 2 ^ (k + 1) * h2 + lo := by rw [e1, e2, Nat.pow_succ, Nat.mul_assoc]
  have hlt : lo + 2 ^ k < 2 ^ (k + 1) := by rw [Nat.pow_succ]; omega
  have hlt0 : lo < 2 ^ (k + 1) := by rw [Nat.pow_succ]; omega
  have e4 : lo ||| 2 ^ k = lo + 2 ^ k := by
    have := Nat.two_pow_add_eq_or_of_lt hlo 1
    rw [Nat.mul_one] at this
    rw [Nat.or_comm, ← this, Nat.add_comm]
  rw [e3]
  conv => lhs; rw [Nat.two_pow_add_eq_or_of_lt hlt0, Nat.or_assoc, e4, ← Nat.two_pow_add_eq_or_of_lt hlt]
  rw [Nat.add_assoc]
theorem nat_and_bit (x k : Nat) (hk : k < 64) : x &&& 2 ^ k = x / 2 ^ k % 2 * 2 ^ k := by
  have h := and_bit_var 64 x k (by omega)
  rw [if_neg (by omega), Int.toNat_natCast, Nat.min_eq_left (by omega)] at h
  have h1 : (2 : Nat) ^ k ≤ 2 ^ 63 := Nat.pow_le_pow_right (by omega) (by omega)
  have e : ((2 : Int) ^ k % 2 ^ 64).toNat = 2 ^ k := by
    have e1 : ((2 : Int) ^ k) = ((2 ^ k : Nat) : Int) := by simp
    rw [e1]
    generalize 2 ^ k = q at *
    omega
  rw [e] at h
  exact h

theorem or_bit (x : Int) (k : Nat) (hk : k < 64) (h0 : 0 ≤ x) (h1 : x < 18446744073709551616) (h : x / 2 ^ k % 2 = 0) : Go.bits .or .u64 x (2 ^ k) = x + 2 ^ k := by
  obtain ⟨x, rfl⟩ := Int.eq_ofNat_of_zero_le h0
  have hp : (2 : Nat) ^ k < 18446744073709551616 := by
    have : (2 : Nat) ^ k ≤ 2 ^ 63 := Nat.pow_le_pow_right (by omega) (by omega)
    omega
  have hb : x / 2 ^ k % 2 = 0 := by
    have e : ((x / 2 ^ k % 2 : Nat) : Int) = 0 := by rw [← h]; simp
    omega
  have e : ((2 : Int) ^ k) = ((2 ^ k : Nat) : Int) := by simp
  rw [e, bits_or_u64_nat x (2 ^ k) (by omega) hp, nat_or_bit x k hb]
  simp

theorem or_high (x y : Int) (k : Nat) (h0 : 0 ≤ x) (h1 : x < 2 ^ k) (hy : 0 ≤ y) (hk : k ≤ 64) (h : y * 2 ^ k < 18446744073709551616) : Go.bits .or .u64 x (y * 2 ^ k) = x + y * 2 ^ k := by
  obtain ⟨x, rfl⟩ := Int.eq_ofNat_of_zero_le h0
  obtain ⟨y, rfl⟩ := Int.eq_ofNat_of_zero_le hy
  have e : (y : Int) * 2 ^ k = ((y * 2 ^ k : Nat) : Int) := by simp
  have hx : x < 2 ^ k := by
    have : ((2 ^ k : Nat) : Int) = (2 : Int) ^ k := by simp
    omega
  have hp : (2 : Nat) ^ k ≤ 2 ^ 64 := Nat.pow_le_pow_right (by omega) hk
  rw [e] at h ⊢
  rw [bits_or_u64_nat x (y * 2 ^ k) (by omega) (by omega), Nat.or_comm, Nat.mul_comm, ← Nat.two_pow_add_eq_or_of_lt hx, Nat.add_comm]
  simp

theorem and_bit (x : Int) (k : Nat) (hk : k < 64) (h0 : 0 ≤ x) (h1 : x < 18446744073709551616) : Go.bits .and .u64 x (2 ^ k) = x / 2 ^ k % 2 * 2 ^ k := by
  obtain ⟨x, rfl⟩ := Int.eq_ofNat_of_zero_le h0
  have hp : (2 : Nat) ^ k < 18446744073709551616 := by
    have : (2 : Nat) ^ k ≤ 2 ^ 63 := Nat.pow_le_pow_right (by omega) (by omega)
    omega
  have e : ((2 : Int) ^ k) = ((2 ^ k : Nat) : Int) := by simp
  rw [e, bits_and_u64_nat x (2 ^ k) (by omega) hp, nat_and_bit x k hk]
  simp

/-- What a word's bits say of frame, rights and soft. -/
def rightsD (x kind : Int) : Desc := ⟨kind, x / 2 ^ 12 % 2 ^ 36, x / 2 ^ 7 % 2 == 0, x / 2 ^ 54 % 2 == 0, x / 2 ^ 10 % 2 != 0, x / 2 ^ 52 % 2 != 0, x / 2 ^ 55 % 2 ^ 3⟩
def noneD : Desc := ⟨0, 0, false, false, false, false, 0⟩
def badD : Desc := ⟨5, 0, false, false, false, false, 0⟩
def tableD (f : Int) : Desc := ⟨1, f, false, false, false, false, 0⟩
/-- What a word says, but for bits that have to be 0. -/
def readD (level x : Int) : Desc :=
  if x = 0 then noneD else if x % 2 = 0 then rightsD x 4 else if x / 2 % 2 = 0 then rightsD x 2 else if level < 3 then tableD (x / 2 ^ 12 % 2 ^ 36) else rightsD x 3
/-- May it be said at a level, but for its numbers? -/
def mayD (level : Int) (d : Desc) : Bool :=
  if d.fKind = 0 then d == noneD else if d.fKind = 1 then decide (level < 3) && d == tableD d.fFrame else if d.fKind = 2 then level == 2 && !d.fFold && d.fFrame % 8 == 0
  else if d.fKind = 3 then level == 3 else if d.fKind = 4 then !d.fSeen && !d.fFold else false
/-- Can it be said? -/
def okD (level : Int) (d : Desc) : Bool := decide (0 ≤ level) && decide (level ≤ 3) && decide (0 ≤ d.fFrame) && decide (d.fFrame < 512) && decide (0 ≤ d.fSoft) && decide (d.fSoft ≤ 7) && mayD level d
/-- The word that says it. -/
def encW (d : Desc) : Int :=
  if d.fKind = 0 then 0 else if d.fKind = 1 then d.fFrame * 4096 + 3 else
    d.fFrame * 4096 + (if d.fKind = 3 then 67 else if d.fKind = 2 then 65 else 10) + d.fSoft * 2 ^ 55 + (if d.fWrite then 0 else 2 ^ 7) + (if d.fExec then 0 else 2 ^ 54) + (if d.fSeen then 2 ^ 10 else 0) + (if d.fFold then 2 ^ 52 else 0)
/-- What a word says at a level. -/
def decD (level x : Int) : Desc := if okD level (readD level x) && encW (readD level x) == x then readD level x else badD

end Go.Proofs.Ytapeoeakiphfpaa

/- Plain laws on words: what is said is read again; a field is laid bit by bit. -/
namespace Go.Proofs.Ytapeoeakiphfpaa
open Go.RowKit
set_option linter.unusedVariables false
set_option linter.unusedSimpArgs false

theorem okD_parts {level : Int} {d : Desc} (h : okD level d = true) : 0 ≤ level ∧ level ≤ 3 ∧ 0 ≤ d.fFrame ∧ d.fFrame < 512 ∧ 0 ≤ d.fSoft ∧ d.fSoft ≤ 7 ∧ mayD level d = true := by
  simp only [okD, Bool.and_eq_true, decide_eq_true_eq] at h
  obtain ⟨⟨⟨⟨⟨⟨a, b⟩, c⟩, e⟩, f⟩, g⟩, i⟩ := h
  exact ⟨a, b, c, e, f, g, i⟩
theorem mayD_kind {level : Int} {d : Desc} (h : mayD level d = true) : d = noneD ∨ (level < 3 ∧ d = tableD d.fFrame) ∨ (level = 2 ∧ d.fKind = 2 ∧ d.fFold = false ∧ d.fFrame % 8 = 0) ∨ (level = 3 ∧ d.fKind = 3) ∨ (d.fKind = 4 ∧ d.fSeen = false ∧ d.fFold = false) := by
  unfold mayD at h
  split at h
  · exact .inl (by simpa using h)
  · split at h
    · simp only [Bool.and_eq_true, decide_eq_true_eq, beq_iff_eq] at h
      exact .inr (.inl h)
    · split at h
      · rename_i h2
        simp only [Bool.and_eq_true, beq_iff_eq, Bool.not_eq_true'] at h
        exact .inr (.inr (.inl ⟨h.1.1, h2, h.1.2, h.2⟩))
      · split at h
        · rename_i h3
          simp only [beq_iff_eq] at h
          exact .inr (.inr (.inr (.inl ⟨h, h3⟩)))
        · split at h
          · rename_i h4
            simp only [Bool.and_eq_true, Bool.not_eq_true'] at h
            exact .inr (.inr (.inr (.inr ⟨h4, h.1, h.2⟩)))
          · cases h

theorem read_enc {level : Int} {d : Desc} (h : okD level d = true) : readD level (encW d) = d := by
  obtain ⟨l0, l1, f0, f1, s0, s1, hm⟩ := okD_parts h
  rcases mayD_kind hm with h | ⟨h1, h2⟩ | ⟨h1, h2, h3, _⟩ | ⟨h1, h2⟩ | ⟨h1, h2, h3⟩
  · subst h; rfl
  · obtain ⟨k, f, wr, ex, se, fo, so⟩ := d
    simp only [tableD, Desc.mk.injEq] at h2
    obtain ⟨rfl, _, rfl, rfl, rfl, rfl, rfl⟩ := h2
    simp only [encW, if_neg (show ¬ (1 : Int) = 0 by decide), ↓reduceIte] at *
    unfold readD
    rw [if_neg (by omega), if_neg (by omega), if_neg (by omega), if_pos h1]
    simp only [tableD, Desc.mk.injEq, and_true, true_and]
    omega
  · obtain ⟨k, f, wr, ex, se, fo, so⟩ := d
    dsimp only at *
    subst h2 h3
    unfold readD rightsD encW
    cases wr <;> cases ex <;> cases se <;> simp only [Bool.false_eq_true, ↓reduceIte, show ¬ (2 : Int) = 0 by decide, show ¬ (2 : Int) = 1 by decide, show ¬ (2 : Int) = 3 by decide] <;>
      (rw [if_neg (by omega), if_neg (by omega), if_pos (by omega)]; simp only [Desc.mk.injEq, true_and, beq_iff_eq, bne_iff_ne, beq_eq_false_iff_ne, bne_eq_false_iff_eq, ne_eq]; omega)
  · obtain ⟨k, f, wr, ex, se, fo, so⟩ := d
    dsimp only at *
    subst h2 h1
    unfold readD rightsD encW
    cases wr <;> cases ex <;> cases se <;> cases fo <;> simp only [Bool.false_eq_true, ↓reduceIte, show ¬ (3 : Int) = 0 by decide, show ¬ (3 : Int) = 1 by decide, show ¬ (3 : Int) < 3 by decide] <;>
      (rw [if_neg (by omega), if_neg (by omega), if_neg (by omega)]; simp only [Desc.mk.injEq, true_and, beq_iff_eq, bne_iff_ne, beq_eq_false_iff_ne, bne_eq_false_iff_eq, ne_eq]; omega)
  · obtain ⟨k, f, wr, ex, se, fo, so⟩ := d
    dsimp only at *
    subst h2 h1 h3
    unfold readD rightsD encW
    cases wr <;> cases ex <;> simp only [Bool.false_eq_true, ↓reduceIte, show ¬ (4 : Int) = 0 by decide, show ¬ (4 : Int) = 1 by decide, show ¬ (4 : Int) = 3 by decide, show ¬ (4 : Int) = 2 by decide] <;>
      (rw [if_neg (by omega), if_pos (by omega)]; simp only [Desc.mk.injEq, true_and, beq_iff_eq, bne_iff_ne, beq_eq_false_iff_ne, bne_eq_false_iff_eq, ne_eq]; omega)
/-- What is said is read again. -/
theorem dec_enc {level : Int} {d : Desc} (h : okD level d = true) : decD level (encW d) = d := by
  unfold decD
  rw [read_enc h, h]
  simp
theorem enc_range {level : Int} {d : Desc} (h : okD level d = true) : 0 ≤ encW d ∧ encW d < 18446744073709551616 := by
  obtain ⟨l0, l1, f0, f1, s0, s1, hm⟩ := okD_parts h
  unfold encW
  split
  · omega
  · split
    · omega
    · split <;> split <;> split <;> split <;> (try split) <;> (try split) <;> omega

/-- Of a kind, what a word's fields could say. -/
def candD (x k : Int) : Desc := if k = 0 then noneD else if k = 1 then tableD (x / 2 ^ 12 % 2 ^ 36) else rightsD x k
theorem dec_cand {level x k : Int} (h : okD level (candD x k) = true) (he : encW (candD x k) = x) : decD level x = candD x k := by
  have := dec_enc h
  rwa [he] at this
theorem read_cand (level x : Int) : ∃ k : Nat, k ≤ 4 ∧ readD level x = candD x k := by
  unfold readD
  split
  · exact ⟨0, by omega, rfl⟩
  · split
    · exact ⟨4, by omega, rfl⟩
    · split
      · exact ⟨2, by omega, rfl⟩
      · split
        · exact ⟨1, by omega, rfl⟩
        · exact ⟨3, by omega, rfl⟩
theorem dec_none {level x : Int} (h : ∀ k : Nat, k ≤ 4 → okD level (candD x k) = true → encW (candD x k) ≠ x) : decD level x = badD := by
  obtain ⟨k, hk, hr⟩ := read_cand level x
  unfold decD
  rw [hr, if_neg]
  intro hh
  simp only [Bool.and_eq_true, beq_iff_eq] at hh
  exact h k hk hh.1 hh.2
theorem dec_high {level x : Int} (h : 512 ≤ x / 2 ^ 12 % 2 ^ 36) : decD level x = badD := by
  refine dec_none fun k _ hok he => ?_
  obtain ⟨_, _, _, f1, _⟩ := okD_parts hok
  unfold candD at *
  split at he
  · have : x = 0 := he.symm
    subst this
    omega
  · rename_i h0
    rw [if_neg h0] at f1
    split at he
    · rename_i h1
      rw [if_pos h1] at f1
      simp only [tableD] at f1
      omega
    · rename_i h1
      rw [if_neg h1] at f1
      simp only [rightsD] at f1
      omega

/-- A number out of its highest bits, one by one. -/
def valB (b : Nat → Nat) : Nat → Nat
  | 0 => 0
  | k + 1 => valB b k * 2 + b (63 - k)
theorem valB_of (P : Nat) (hP : P < 2 ^ 64) (b : Nat → Nat) (hb : ∀ i, i < 64 → P / 2 ^ i % 2 = b i) : ∀ k, k ≤ 64 → valB b k = P / 2 ^ (64 - k) := by
  intro k
  induction k with
  | zero => intro _; simp [valB]; omega
  | succ k ih =>
    intro hk
    have h1 := hb (63 - k) (by omega)
    have h2 : P / 2 ^ (64 - k) = P / 2 ^ (63 - k) / 2 := by rw [Nat.div_div_eq_div_mul, ← Nat.pow_succ, show (63 - k).succ = 64 - k by omega]
    rw [valB, ih (by omega), h2, ← h1, show 64 - (k + 1) = 63 - k by omega]
    omega
/-- Field a (of n bits) of a word in which it is 0 made v: its bits. -/
theorem put_bits (x a n v : Nat) (hx : x / 2 ^ a % 2 ^ n = 0) (hv : v < 2 ^ n) (i : Nat) : (x + v * 2 ^ a) / 2 ^ i % 2 = if a ≤ i ∧ i < a + n then v / 2 ^ (i - a) % 2 else x / 2 ^ i % 2 := by
  have e0 : x = 2 ^ a * (2 ^ n * (x / 2 ^ a / 2 ^ n)) + x % 2 ^ a := by
    have h1 := Nat.div_add_mod x (2 ^ a)
    have h2 := Nat.div_add_mod (x / 2 ^ a) (2 ^ n)
    rw [hx, Nat.add_zero] at h2
    rw [h2]; exact h1.symm
  generalize x / 2 ^ a / 2 ^ n = q at e0
  have hl : x % 2 ^ a < 2 ^ a := Nat.mod_lt _ (Nat.two_pow_pos a)
  generalize x % 2 ^ a = l at e0 hl
  have e1 : x + v * 2 ^ a = 2 ^ a * (2 ^ n * q + v) + l := by rw [e0, Nat.mul_add, Nat.mul_comm v]; omega
  rw [e1, e0]
  simp only [← Nat.toNat_testBit]
  rw [Nat.testBit_two_pow_mul_add _ hl, Nat.testBit_two_pow_mul_add _ hl, Nat.testBit_two_pow_mul_add _ hv]
  by_cases h1 : i < a
  · rw [if_pos h1, if_pos h1, if_neg (by omega)]
  · by_cases h2 : i - a < n
    · rw [if_neg h1, if_pos h2, if_pos (by omega)]
    · rw [if_neg h1, if_neg h2, if_neg (by omega), if_neg h1, Nat.testBit_two_pow_mul]
      simp [show n ≤ i - a by omega]
theorem field_step (x a n j : Nat) (hj : j < n) : x / 2 ^ (a + (n - 1 - j)) % 2 ^ (j + 1) = x / 2 ^ (a + (n - j)) % 2 ^ j * 2 + x / 2 ^ (a + (n - 1 - j)) % 2 := by
  have h2 : x / 2 ^ (a + (n - j)) = x / 2 ^ (a + (n - 1 - j)) / 2 := by rw [Nat.div_div_eq_div_mul, ← Nat.pow_succ, show (a + (n - 1 - j)).succ = a + (n - j) by omega]
  rw [h2, Nat.pow_succ, Nat.mul_comm (2 ^ j) 2, Nat.mod_mul]
  omega

end Go.Proofs.Ytapeoeakiphfpaa
