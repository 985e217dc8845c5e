import Derived.Test.YthcdecgecabgaaaBBaseWord
import Derived.Test.YthcdecgecabgaaaOpen
/- Words of 64 bits as integers: one bit asked, one bit set, what descriptors say. -/
namespace Go.Proofs.Ythcdecgecabgaaa
open Go.RowKit
set_option linter.unusedVariables false
set_option linter.unusedSimpArgs false

theorem nat_or_bit (x k : Nat) (h : x / 2 ^ k % 2 = 0) : x ||| 2 ^ k = x + 2 ^ k := by
  have hlo : x % 2 ^ k < 2 ^ k := Nat.mod_lt _ (Nat.two_pow_pos k)
  have e1 : x = 2 ^ k * (x / 2 ^ k) + x % 2 ^ k := (Nat.div_add_mod x (2 ^ k)).symm
  have e2 : x / 2 ^ k = 2 * (x / 2 ^ k / 2) := by have := Nat.div_add_mod (x / 2 ^ k) 2; omega
  generalize x / 2 ^ k / 2 = h2 at *
  generalize x % 2 ^ k = lo at *
  have e3 : x = 2 ^ (k + 1) * h2 + lo := by rw [e1, e2, Nat.pow_succ, Nat.mul_assoc]
  have hlt : lo + 2 ^ k < 2 ^ (k + 1) := by rw [Nat.pow_succ]; omega
  have hlt0 : lo < 2 ^ (k + 1) := by rw [Nat.pow_succ]; omega
  have e4 : lo ||| 2 ^ k = lo + 2 ^ k := by
    have := Nat.two_pow_add_eq_or_of_lt hlo 1
    rw [Nat.mul_one] at this
    rw [Nat.or_comm, ← this, Nat.add_comm]
  rw [e3]
  conv => lhs; rw [Nat.two_pow_add_eq_or_of_lt hlt0, Nat.or_assoc, e4, ← Nat.two_pow_add_eq_or_of_lt hlt]
  rw [Nat.add_assoc]
theorem nat_and_bit (x k : Nat) (hk : k < 64) : x &&& 2 ^ k = x / 2 ^ k % 2 * 2 ^ k := by
  have h := and_bit_var 64 x k (by omega)
  rw [if_neg (by omega), Int.toNat_natCast, Nat.min_eq_left (by omega)] at h
  have h1 : (2 : Nat) ^ k ≤ 2 ^ 63 := Nat.pow_le_pow_right (by omega) (by omega)
  have e : ((2 : Int) ^ k % 2 ^ 64).toNat = 2 ^ k := by
    have e1 : ((2 : Int) ^ k) = ((2 ^ k : Nat) : Int) := by simp
    rw [e1]
    generalize 2 ^ k = q at *
    omega
  rw [e] at h
  exact h

theorem or_bit (x : Int) (k : Nat) (hk : k < 64) (h0 : 0 ≤ x) (h1 : x < 18446744073709551616) (h : x / 2 ^ k % 2 = 0) : Go.bits .or .u64 x (2 ^ k) = x + 2 ^ k := by
  obtain ⟨x, rfl⟩ := Int.eq_ofNat_of_zero_le h0
  have hp : (2 : Nat) ^ k < 18446744073709551616 := by
    have : (2 : Nat) ^ k ≤ 2 ^ 63 := Nat.pow_le_pow_right (by omega) (by omega)
    omega
  have hb : x / 2 ^ k % 2 = 0 := by
    have e : ((x / 2 ^ k % 2 : Nat) : Int) = 0 := by rw [← h]; simp
    omega
  have e : ((2 : Int) ^ k) = ((2 ^ k : Nat) : Int) := by simp
  rw [e, bits_or_u64_nat x (2 ^ k) (by omega) hp, nat_or_bit x k hb]
  simp

theorem or_high (x y : Int) (k : Nat) (h0 : 0 ≤ x) (h1 : x < 2 ^ k) (hy : 0 ≤ y) (hk : k ≤ 64) (h : y * 2 ^ k < 18446744073709551616) : Go.bits .or .u64 x (y * 2 ^ k) = x + y * 2 ^ k := by
  obtain ⟨x, rfl⟩ := Int.eq_ofNat_of_zero_le h0
  obtain ⟨y, rfl⟩ := Int.eq_ofNat_of_zero_le hy
  have e : (y : Int) * 2 ^ k = ((y * 2 ^ k : Nat) : Int) := by simp
  have hx : x < 2 ^ k := by
    have : ((2 ^ k : Nat) : Int) = (2 : Int) ^ k := by simp
    omega
  have hp : (2 : Nat) ^ k ≤ 2 ^ 64 := Nat.pow_le_pow_right (by omega) hk
  rw [e] at h ⊢
  rw [bits_or_u64_nat x (y * 2 ^ k) (by omega) (by omega), Nat.or_comm, Nat.mul_comm, ← Nat.two_pow_add_eq_or_of_lt hx, Nat.add_comm]
  simp

theorem and_bit (x : Int) (k : Nat) (hk : k < 64) (h0 : 0 ≤ x) (h1 : x < 18446744073709551616) : Go.bits .and .u64 x (2 ^ k) = x / 2 ^ k % 2 * 2 ^ k := by
  obtain ⟨x, rfl⟩ := Int.eq_ofNat_of_zero_le h0
  have hp : (2 : Nat) ^ k < 18446744073709551616 := by
    have : (2 : Nat) ^ k ≤ 2 ^ 63 := Nat.pow_le_pow_right (by omega) (by omega)
    omega
  have e : ((2 : Int) ^ k) = ((2 ^ k : Nat) : Int) := by simp
  rw [e, bits_and_u64_nat x (2 ^ k) (by omega) hp, nat_and_bit x k hk]
  simp

/-- What a word's bits say of frame, rights and soft. -/
def rightsD (x kind : Int) : Desc := ⟨kind, x / 2 ^ 12 % 2 ^ 36, x / 2 ^ 7 % 2 == 0, x / 2 ^ 54 % 2 == 0, x / 2 ^ 10 % 2 != 0, x / 2 ^ 52 % 2 != 0, x / 2 ^ 55 % 2 ^ 3⟩
def noneD : Desc := ⟨0, 0, false, false, false, false, 0⟩
def badD : Desc := ⟨5, 0, false, false, false, false, 0⟩
def tableD (f : Int) : Desc := ⟨1, f, false, false, false, false, 0⟩
/-- What a word says, but for bits that have to be 0. -/
def readD (level x : Int) : Desc :=
  if x = 0 then noneD else if x % 2 = 0 then rightsD x 4 else if x / 2 % 2 = 0 then rightsD x 2 else if level < 3 then tableD (x / 2 ^ 12 % 2 ^ 36) else rightsD x 3
/-- May it be said at a level, but for its numbers? -/
def mayD (level : Int) (d : Desc) : Bool :=
  if d.fKind = 0 then d == noneD else if d.fKind = 1 then decide (level < 3) && d == tableD d.fFrame else if d.fKind = 2 then level == 2 && !d.fFold && d.fFrame % 8 == 0
  else if d.fKind = 3 then level == 3 else if d.fKind = 4 then !d.fSeen && !d.fFold else false
/-- Can it be said? -/
def okD (level : Int) (d : Desc) : Bool := decide (0 ≤ level) && decide (level ≤ 3) && decide (0 ≤ d.fFrame) && decide (d.fFrame < 512) && decide (0 ≤ d.fSoft) && decide (d.fSoft ≤ 7) && mayD level d
/-- The word that says it. -/
def encW (d : Desc) : Int :=
  if d.fKind = 0 then 0 else if d.fKind = 1 then d.fFrame * 4096 + 3 else
    d.fFrame * 4096 + (if d.fKind = 3 then 67 else if d.fKind = 2 then 65 else 10) + d.fSoft * 2 ^ 55 + (if d.fWrite then 0 else 2 ^ 7) + (if d.fExec then 0 else 2 ^ 54) + (if d.fSeen then 2 ^ 10 else 0) + (if d.fFold then 2 ^ 52 else 0)
/-- What a word says at a level. -/
def decD (level x : Int) : Desc := if okD level (readD level x) && encW (readD level x) == x then readD level x else badD

end Go.Proofs.Ythcdecgecabgaaa
