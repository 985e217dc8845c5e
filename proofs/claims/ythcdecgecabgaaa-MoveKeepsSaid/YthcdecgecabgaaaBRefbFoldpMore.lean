import Derived.Test.YthcdecgecabgaaaBits
import Derived.Test.YthcdecgecabgaaaBLayPlainPagw
import Derived.Test.YthcdecgecabgaaaOpen
/- Plain laws on words: what is said is read again; a field is laid bit by bit. -/
namespace Go.Proofs.Ythcdecgecabgaaa
open Go.RowKit
set_option linter.unusedVariables false
set_option linter.unusedSimpArgs false

theorem okD_parts {level : Int} {d : Desc} (h : okD level d = true) : 0 ≤ level ∧ level ≤ 3 ∧ 0 ≤ d.fFrame ∧ d.fFrame < 512 ∧ 0 ≤ d.fSoft ∧ d.fSoft ≤ 7 ∧ mayD level d = true := by
  simp only [okD, Bool.and_eq_true, decide_eq_true_eq] at h
  obtain ⟨⟨⟨⟨⟨⟨a, b⟩, c⟩, e⟩, f⟩, g⟩, i⟩ := h
  exact ⟨a, b, c, e, f, g, i⟩
theorem mayD_kind {level : Int} {d : Desc} (h : mayD level d = true) : d = noneD ∨ (level < 3 ∧ d = tableD d.fFrame) ∨ (level = 2 ∧ d.fKind = 2 ∧ d.fFold = false ∧ d.fFrame % 8 = 0) ∨ (level = 3 ∧ d.fKind = 3) ∨ (d.fKind = 4 ∧ d.fSeen = false ∧ d.fFold = false) := by
  unfold mayD at h
  split at h
  · exact .inl (by simpa using h)
  · split at h
    · simp only [Bool.and_eq_true, decide_eq_true_eq, beq_iff_eq] at h
      exact .inr (.inl h)
    · split at h
      · rename_i h2
        simp only [Bool.and_eq_true, beq_iff_eq, Bool.not_eq_true'] at h
        exact .inr (.inr (.inl ⟨h.1.1, h2, h.1.2, h.2⟩))
      · split at h
        · rename_i h3
          simp only [beq_iff_eq] at h
          exact .inr (.inr (.inr (.inl ⟨h, h3⟩)))
        · split at h
          · rename_i h4
            simp only [Bool.and_eq_true, Bool.not_eq_true'] at h
            exact .inr (.inr (.inr (.inr ⟨h4, h.1, h.2⟩)))
          · cases h

theorem read_enc {level : Int} {d : Desc} (h : okD level d = true) : readD level (encW d) = d := by
  obtain ⟨l0, l1, f0, f1, s0, s1, hm⟩ := okD_parts h
  rcases mayD_kind hm with h | ⟨h1, h2⟩ | ⟨h1, h2, h3, _⟩ | ⟨h1, h2⟩ | ⟨h1, h2, h3⟩
  · subst h; rfl
  · obtain ⟨k, f, wr, ex, se, fo, so⟩ := d
    simp only [tableD, Desc.mk.injEq] at h2
    obtain ⟨rfl, _, rfl, rfl, rfl, rfl, rfl⟩ := h2
    simp only [encW, if_neg (show ¬ (1 : Int) = 0 by decide), ↓reduceIte] at *
    unfold readD
    rw [if_neg (by omega), if_neg (by omega), if_neg (by omega), if_pos h1]
    simp only [tableD, Desc.mk.injEq, and_true, true_and]
    omega
  · obtain ⟨k, f, wr, ex, se, fo, so⟩ := d
    dsimp only at *
    subst h2 h3
    unfold readD rightsD encW
    cases wr <;> cases ex <;> cases se <;> simp only [Bool.false_eq_true, ↓reduceIte, show ¬ (2 : Int) = 0 by decide, show ¬ (2 : Int) = 1 by decide, show ¬ (2 : Int) = 3 by decide] <;>
      (rw [if_neg (by omega), if_neg (by omega), if_pos (by omega)]; simp only [Desc.mk.injEq, true_and, beq_iff_eq, bne_iff_ne, beq_eq_false_iff_ne, bne_eq_false_iff_eq, ne_eq]; omega)
  · obtain ⟨k, f, wr, ex, se, fo, so⟩ := d
    dsimp only at *
    subst h2 h1
    unfold readD rightsD encW
    cases wr <;> cases ex <;> cases se <;> cases fo <;> simp only [Bool.false_eq_true, ↓reduceIte, show ¬ (3 : Int) = 0 by decide, show ¬ (3 : Int) = 1 by decide, show ¬ (3 : Int) < 3 by decide] <;>
      (rw [if_neg (by omega), if_neg (by omega), if_neg (by omega)]; simp only [Desc.mk.injEq, true_and, beq_iff_eq, bne_iff_ne, beq_eq_false_iff_ne, bne_eq_false_iff_eq, ne_eq]; omega)
  · obtain ⟨k, f, wr, ex, se, fo, so⟩ := d
    dsimp only at *
    subst h2 h1 h3
    unfold readD rightsD encW
    cases wr <;> cases ex <;> simp only [Bool.false_eq_true, ↓reduceIte, show ¬ (4 : Int) = 0 by decide, show ¬ (4 : Int) = 1 by decide, show ¬ (4 : Int) = 3 by decide, show ¬ (4 : Int) = 2 by decide] <;>
      (rw [if_neg (by omega), if_pos (by omega)]; simp only [Desc.mk.injEq, true_and, beq_iff_eq, bne_iff_ne, beq_eq_false_iff_ne, bne_eq_false_iff_eq, ne_eq]; omega)
/-- What is said is read again. -/
theorem dec_enc {level : Int} {d : Desc} (h : okD level d = true) : decD level (encW d) = d := by
  unfold decD
  rw [read_enc h, h]
  simp
theorem enc_range {level : Int} {d : Desc} (h : okD level d = true) : 0 ≤ encW d ∧ encW d < 18446744073709551616 := by
  obtain ⟨l0, l1, f0, f1, s0, s1, hm⟩ := okD_parts h
  unfold encW
  split
  · omega
  · split
    · omega
    · split <;> split <;> split <;> split <;> (try split) <;> (try split) <;> omega

/-- Of a kind, what a word's fields could say. -/
def candD (x k : Int) : Desc := if k = 0 then noneD else if k = 1 then tableD (x / 2 ^ 12 % 2 ^ 36) else rightsD x k
theorem dec_cand {level x k : Int} (h : okD level (candD x k) = true) (he : encW (candD x k) = x) : decD level x = candD x k := by
  have := dec_enc h
  rwa [he] at this
theorem read_cand (level x : Int) : ∃ k : Nat, k ≤ 4 ∧ readD level x = candD x k := by
  unfold readD
  split
  · exact ⟨0, by omega, rfl⟩
  · split
    · exact ⟨4, by omega, rfl⟩
    · split
      · exact ⟨2, by omega, rfl⟩
      · split
        · exact ⟨1, by omega, rfl⟩
        · exact ⟨3, by omega, rfl⟩
theorem dec_none {level x : Int} (h : ∀ k : Nat, k ≤ 4 → okD level (candD x k) = true → encW (candD x k) ≠ x) : decD level x = badD := by
  obtain ⟨k, hk, hr⟩ := read_cand level x
  unfold decD
  rw [hr, if_neg]
  intro hh
  simp only [Bool.and_eq_true, beq_iff_eq] at hh
  exact h k hk hh.1 hh.2
theorem dec_high {level x : Int} (h : 512 ≤ x / 2 ^ 12 % 2 ^ 36) : decD level x = badD := by
  refine dec_none fun k _ hok he => ?_
  obtain ⟨_, _, _, f1, _⟩ := okD_parts hok
  unfold candD at *
  split at he
  · have : x = 0 := he.symm
    subst this
    omega
  · rename_i h0
    rw [if_neg h0] at f1
    split at he
    · rename_i h1
      rw [if_pos h1] at f1
      simp only [tableD] at f1
      omega
    · rename_i h1
      rw [if_neg h1] at f1
      simp only [rightsD] at f1
      omega

/-- A number out of its highest bits, one by one. -/
def valB (b : Nat → Nat) : Nat → Nat
  | 0 => 0
  | k + 1 => valB b k * 2 + b (63 - k)
theorem valB_of (P : Nat) (hP : P < 2 ^ 64) (b : Nat → Nat) (hb : ∀ i, i < 64 → P / 2 ^ i % 2 = b i) : ∀ k, k ≤ 64 → valB b k = P / 2 ^ (64 - k) := by
  intro k
  induction k with
  | zero => intro _; simp [valB]; omega
  | succ k ih =>
    intro hk
    have h1 := hb (63 - k) (by omega)
    have h2 : P / 2 ^ (64 - k) = P / 2 ^ (63 - k) / 2 := by rw [Nat.div_div_eq_div_mul, ← Nat.pow_succ, show (63 - k).succ = 64 - k by omega]
    rw [valB, ih (by omega), h2, ← h1, show 64 - (k + 1) = 63 - k by omega]
    omega
/-- Field a (of n bits) of a word in which it is 0 made v: its bits. -/
theorem put_bits (x a n v : Nat) (hx : x / 2 ^ a % 2 ^ n = 0) (hv : v < 2 ^ n) (i : Nat) : (x + v * 2 ^ a) / 2 ^ i % 2 = if a ≤ i ∧ i < a + n then v / 2 ^ (i - a) % 2 else x / 2 ^ i % 2 := by
  have e0 : x = 2 ^ a * (2 ^ n * (x / 2 ^ a / 2 ^ n)) + x % 2 ^ a := by
    have h1 := Nat.div_add_mod x (2 ^ a)
    have h2 := Nat.div_add_mod (x / 2 ^ a) (2 ^ n)
    rw [hx, Nat.add_zero] at h2
    rw [h2]; exact h1.symm
  generalize x / 2 ^ a / 2 ^ n = q at e0
  have hl : x % 2 ^ a < 2 ^ a := Nat.mod_lt _ (Nat.two_pow_pos a)
  generalize x % 2 ^ a = l at e0 hl
  have e1 : x + v * 2 ^ a = 2 ^ a * (2 ^ n * q + v) + l := by rw [e0, Nat.mul_add, Nat.mul_comm v]; omega
  rw [e1, e0]
  simp only [← Nat.toNat_testBit]
  rw [Nat.testBit_two_pow_mul_add _ hl, Nat.testBit_two_pow_mul_add _ hl, Nat.testBit_two_pow_mul_add _ hv]
  by_cases h1 : i < a
  · rw [if_pos h1, if_pos h1, if_neg (by omega)]
  · by_cases h2 : i - a < n
    · rw [if_neg h1, if_pos h2, if_pos (by omega)]
    · rw [if_neg h1, if_neg h2, if_neg (by omega), if_neg h1, Nat.testBit_two_pow_mul]
      simp [show n ≤ i - a by omega]
theorem field_step (x a n j : Nat) (hj : j < n) : x / 2 ^ (a + (n - 1 - j)) % 2 ^ (j + 1) = x / 2 ^ (a + (n - j)) % 2 ^ j * 2 + x / 2 ^ (a + (n - 1 - j)) % 2 := by
  have h2 : x / 2 ^ (a + (n - j)) = x / 2 ^ (a + (n - 1 - j)) / 2 := by rw [Nat.div_div_eq_div_mul, ← Nat.pow_succ, show (a + (n - 1 - j)).succ = a + (n - j) by omega]
  rw [h2, Nat.pow_succ, Nat.mul_comm (2 ^ j) 2, Nat.mod_mul]
  omega

end Go.Proofs.Ythcdecgecabgaaa

/- Plain laws on walks, words and runs of four pages. -/
namespace Go.Proofs.Ythcdecgecabgaaa
open Go.RowKit
set_option linter.unusedVariables false
set_option linter.unusedSimpArgs false

/-- The word at which a walk ends, and what it says. -/
theorem walkAt_word {ws : List Int} {n p : Int} : ∀ (k : Nat) (lv tb : Int) (f : Found), 0 ≤ lv → lv + k = 4 → walkAt ws n p k lv tb = some f →
    0 ≤ f.fTable ∧ f.fTable < n ∧ f.fPlace = placeN f.fLevel p ∧ lv ≤ f.fLevel ∧ f.fLevel < 4 ∧ (decD f.fLevel (ws.getD (f.fTable.toNat * 8 + f.fPlace.toNat) 0)).fKind ≠ 1 ∧
    f = foundD (decD f.fLevel (ws.getD (f.fTable.toNat * 8 + f.fPlace.toNat) 0)) f.fLevel f.fTable f.fPlace p := by
  intro k
  induction k with
  | zero => intro lv tb f _ _ h; simp [walkAt] at h
  | succ k ih =>
    intro lv tb f h0 hk h
    unfold walkAt at h
    split at h
    · rename_i ht
      split at h
      · have := ih _ _ _ (by omega) (by omega) h
        exact ⟨this.1, this.2.1, this.2.2.1, by omega, this.2.2.2.2⟩
      · rename_i hd
        simp only [Option.some.injEq] at h
        have hp := foundD_parts (decD lv (ws.getD (tb.toNat * 8 + (placeN lv p).toNat) 0)) lv tb (placeN lv p) p
        rw [h] at hp
        obtain ⟨h1, h2, h3, h4⟩ := hp
        rw [h1, h2, h3]
        exact ⟨ht.1, ht.2, rfl, by omega, by omega, hd, h.symm⟩
    · cases h
theorem decD_ok {level x : Int} (h : (decD level x).fKind ≠ 5) : okD level (decD level x) = true ∧ encW (decD level x) = x := by
  unfold decD at h ⊢
  split
  · rename_i hh
    simpa using hh
  · rename_i hh
    rw [if_neg hh] at h
    exact absurd rfl h
/-- A page that a walk found: its word, and what may be said there. -/
theorem walk_page {ws : List Int} {n p root : Int} {f : Found} (h : walkAt ws n p 4 0 root = some f) (hk : f.fKind = 3) :
    f.fLevel = 3 ∧ (f.fOrder = 0 ∨ f.fOrder = 2) ∧ ∃ d, decD 3 (ws.getD (f.fTable.toNat * 8 + f.fPlace.toNat) 0) = d ∧ okD 3 d = true ∧ d.fKind = 3 ∧ f = foundD d 3 f.fTable f.fPlace p := by
  obtain ⟨_, _, _, _, _, _, hf⟩ := walkAt_word 4 0 root f (by omega) (by omega) h
  generalize hd : decD f.fLevel (ws.getD (f.fTable.toNat * 8 + f.fPlace.toNat) 0) = d at hf
  have hkd : d.fKind = 3 := by rw [← hk, hf, (foundD_parts _ _ _ _ _).2.2.2]
  have hl : f.fLevel = 3 := decD_page _ _ (by rw [hd]; exact hkd)
  have hord : f.fOrder = 0 ∨ f.fOrder = 2 := by
    rw [hf]
    unfold foundD
    rw [if_neg (by omega), if_pos hkd]
    split
    · exact .inr rfl
    · exact .inl rfl
  rw [hl] at hd hf
  refine ⟨hl, hord, d, hd, ?_, hkd, hf⟩
  have := (decD_ok (level := 3) (x := ws.getD (f.fTable.toNat * 8 + f.fPlace.toNat) 0) (by rw [hd, hkd]; omega)).1
  rwa [hd] at this

/-- What walks of i pages from one on find. -/
def runN (ws : List Int) (n root first : Int) : Nat → Option (List Found)
  | 0 => some []
  | i + 1 => (runN ws n root first i).bind fun l => (walkAt ws n (first + i) 4 0 root).map fun f => l ++ [f]
theorem runN_len {ws : List Int} {n root first : Int} : ∀ (i : Nat) (l : List Found), runN ws n root first i = some l → l.length = i := by
  intro i
  induction i with
  | zero => intro l h; simp [runN] at h; subst h; rfl
  | succ i ih =>
    intro l h
    simp only [runN, Option.bind_eq_some_iff, Option.map_eq_some_iff] at h
    obtain ⟨l', h1, f, h2, h3⟩ := h
    rw [← h3, List.length_append, ih _ h1]; rfl
theorem runN_step {ws : List Int} {n root first : Int} {i : Nat} {l : List Found} {r : Option Found} (h : runN ws n root first i = some l) (hr : walkAt ws n (first + i) 4 0 root = r) : runN ws n root first (i + 1) = r.map fun f => l ++ [f] := by
  rw [runN, h, Option.bind_some, hr]
theorem runN_none {ws : List Int} {n root first : Int} (i : Nat) (h : runN ws n root first i = none) : ∀ j, runN ws n root first (i + j) = none := by
  intro j
  induction j with
  | zero => exact h
  | succ j ih => rw [← Nat.add_assoc, runN, ih]; rfl
theorem runN_at {ws : List Int} {n root first : Int} : ∀ (i : Nat) (l : List Found), runN ws n root first i = some l → ∀ (j : Nat) (f : Found), l[j]? = some f → walkAt ws n (first + j) 4 0 root = some f := by
  intro i
  induction i with
  | zero => intro l h j f hj; simp [runN] at h; subst h; simp at hj
  | succ i ih =>
    intro l h j f hj
    simp only [runN, Option.bind_eq_some_iff, Option.map_eq_some_iff] at h
    obtain ⟨l', h1, g, h2, h3⟩ := h
    have hlen := runN_len i l' h1
    rw [← h3, List.getElem?_append] at hj
    split at hj
    · exact ih l' h1 j f hj
    · rename_i hge
      have hj' : j - l'.length = 0 := by
        have := (List.getElem?_eq_some_iff.1 hj).1
        simp at this; omega
      rw [hj'] at hj
      have hji : j = i := by omega
      subst hji
      have hgf : g = f := by simpa using hj
      rw [← hgf]; exact h2
/-- Is a page, of an order, of the frame i behind the first one's, with its rights? -/
def likeB (z f : Found) (i order : Int) : Bool := f.fKind == 3 && f.fOrder == order && f.fFrame == z.fFrame + i && f.fWrite == z.fWrite && f.fExec == z.fExec
def alikeB (l : List Found) (order : Int) : Bool := (List.range l.length).all fun i => likeB (l.getD 0 zeroF) (l.getD i zeroF) i order
theorem alikeB_at {l : List Found} {order : Int} (h : alikeB l order = true) {i : Nat} {f : Found} (hf : l[i]? = some f) : likeB (l.getD 0 zeroF) f i order = true := by
  have hi := (List.getElem?_eq_some_iff.1 hf).1
  have := List.all_eq_true.1 h i (by simpa using hi)
  rwa [List.getD_eq_getElem?_getD (i := i), hf] at this
theorem alikeB_no {l : List Found} {order : Int} {i : Nat} {f : Found} (hf : l[i]? = some f) (h : likeB (l.getD 0 zeroF) f i order = false) : alikeB l order = false := by
  cases ha : alikeB l order with
  | false => rfl
  | true => rw [alikeB_at ha hf] at h; cases h
theorem alikeB_yes {l : List Found} {order : Int} (h : ∀ (i : Nat) (f : Found), l[i]? = some f → likeB (l.getD 0 zeroF) f i order = true) : alikeB l order = true := by
  refine List.all_eq_true.2 fun i hi => ?_
  have hi' : i < l.length := by simpa using hi
  rw [List.getD_eq_getElem?_getD (i := i), List.getElem?_eq_getElem hi']
  exact h i _ (List.getElem?_eq_getElem hi')

end Go.Proofs.Ythcdecgecabgaaa

/- A world with new blocks behind it, spelled out: what a call leaves that turned no old block; and how the walk reads through it. -/
namespace Go.Proofs.Ythcdecgecabgaaa
open Go.RowKit
set_option linter.unusedVariables false
set_option linter.unusedSimpArgs false

/-- w with new blocks behind it, its draws counted anew. -/
def more (w : World) (x : Array Obj × Nat) : World := { w with heap := w.heap ++ x.1, drawn := x.2 }
section
variable (w : World) (x y : Array Obj × Nat)
theorem size_more : (more w x).heap.size = w.heap.size + x.1.size := by simp [more]
theorem size_le_more : w.heap.size ≤ (more w x).heap.size := by rw [size_more]; omega
theorem lt_more {n : Nat} (h : n < w.heap.size) : n < (more w x).heap.size := by rw [size_more]; omega
theorem le_more {n : Nat} (h : n ≤ w.heap.size) : n ≤ (more w x).heap.size := by rw [size_more]; omega
/-- For the walk's simplifier, which weighs no condition of a condition: each of these is one equation. -/
def LtO (n k : Nat) (w : World) (x : Array Obj × Nat) : Prop := n < (more w x).heap.size + k
def LeO (n k : Nat) (w : World) (x : Array Obj × Nat) : Prop := n ≤ (more w x).heap.size + k
theorem lt_moreE (n : Nat) : (n < (more w x).heap.size) = (n < w.heap.size ∨ LtO n 0 w x) := by
  have := size_more w x
  unfold LtO
  exact propext ⟨fun h => .inr h, fun h => h.elim (fun h => by omega) id⟩
theorem le_moreE (n : Nat) : (n ≤ (more w x).heap.size) = (n ≤ w.heap.size ∨ LeO n 0 w x) := by
  have := size_more w x
  unfold LeO
  exact propext ⟨fun h => .inr h, fun h => h.elim (fun h => by omega) id⟩
theorem lt_moreK (n k : Nat) : (n < (more w x).heap.size + k) = (n < w.heap.size + k ∨ LtO n k w x) := by
  have := size_more w x
  unfold LtO
  exact propext ⟨fun h => .inr h, fun h => h.elim (fun h => by omega) id⟩
theorem le_moreK (n k : Nat) : (n ≤ (more w x).heap.size + k) = (n ≤ w.heap.size + k ∨ LeO n k w x) := by
  have := size_more w x
  unfold LeO
  exact propext ⟨fun h => .inr h, fun h => h.elim (fun h => by omega) id⟩
theorem ne_more {n : Nat} (h : n < w.heap.size) : (n = (more w x).heap.size) = False := by have := size_more w x; simp; omega
theorem heap_more {n : Nat} (h : n < w.heap.size) : (more w x).heap[n]? = w.heap[n]? := by
  show (w.heap ++ x.1)[n]? = _
  rw [Array.getElem?_append, if_pos h]
theorem grow_more : w.grownBy (more w x) none := ⟨rfl, rfl, rfl, size_le_more w x, fun _ h _ => heap_more w x h⟩
theorem cell_more (n i : Nat) (h : n < w.heap.size) : (more w x).cell? ⟨n, i, none⟩ = w.cell? ⟨n, i, none⟩ := World.cell?_of_block (heap_more w x h)
theorem frozen_more (n i : Nat) (h : n < w.heap.size) : (more w x).frozen? ⟨n, i, none⟩ = w.frozen? ⟨n, i, none⟩ := World.frozen?_of_block (heap_more w x h)
theorem set_more (n i : Nat) (v : Value) (h : n < w.heap.size) : (more w x).setCell ⟨n, i, none⟩ v = more (w.setCell ⟨n, i, none⟩ v) x := by
  unfold more World.setCell
  congr 1
  apply Array.ext_getElem?
  intro k
  simp only [Array.getElem?_modify, Array.getElem?_append, Array.size_modify]
  by_cases hk : n = k
  · subst hk
    simp [h]
  · simp [hk]
theorem more_more : more (more w x) y = more w (x.1 ++ y.1, y.2) := by unfold more; simp [Array.append_assoc]
theorem more_drew : (more w x).drew = more w (x.1, x.2 + 1) := rfl
theorem drew_more : more w.drew x = more w x := rfl
theorem more_drewN (n : Nat) : (more w x).drewN n = more w (x.1, x.2 + n) := rfl
theorem drewN_more (n : Nat) : more (w.drewN n) x = more w x := rfl
theorem alloc_is_more (o : Obj) : w.alloc o = more w (#[o], w.drawn) := by unfold more World.alloc; simp
theorem drew_is_more : w.drew = more w (#[], w.drawn + 1) := by unfold more World.drew; simp
theorem drewN_is_more (n : Nat) : w.drewN n = more w (#[], w.drawn + n) := by unfold more World.drewN; simp
theorem self_more : w = more w (#[], w.drawn) := by unfold more; simp
theorem more_of_grow {w w' : World} (h : w.grownBy w' none) : ∃ x, w' = more w x := by
  refine ⟨(w'.heap.extract w.heap.size, w'.drawn), ?_⟩
  have hh : w'.heap = w.heap ++ w'.heap.extract w.heap.size := by
    apply Array.ext_getElem?
    intro k
    rw [Array.getElem?_append]
    split
    · rename_i hk; exact h.block k hk (by simp)
    · rename_i hk
      have := h.size
      rw [Array.getElem?_extract]
      by_cases hk2 : k < w'.heap.size
      · rw [if_pos (by omega)]
        congr 1; omega
      · rw [if_neg (by omega), Array.getElem?_eq_none (by omega)]
  cases w; cases w'
  have h1 := h.os; have h2 := h.tape; have h3 := h.output
  simp only at h1 h2 h3 hh
  subst h1 h2 h3
  unfold more
  simp only [World.mk.injEq, and_true]
  exact hh
end
/-- A contract that tells a grown world, told with the new blocks named. -/
theorem moreC {P : Program} {f : FuncId} {args : Array Value} {w : World} {R : Ending → World → Prop}
    (h : Calls P f args w fun e w' => R e w' ∧ w.grownBy w' none) : Calls P f args w fun e w' => ∃ x, w' = more w x ∧ R e w' :=
  h.mono fun _ _ ⟨hr, hg⟩ => by obtain ⟨x, rfl⟩ := more_of_grow hg; exact ⟨x, rfl, hr⟩
theorem unmoreC {P : Program} {f : FuncId} {args : Array Value} {w : World} {R : Ending → World → Prop}
    (h : Calls P f args w fun e w' => ∃ x, w' = more w x ∧ R e w') : Calls P f args w fun e w' => R e w' ∧ w.grownBy w' none :=
  h.mono fun _ _ ⟨x, hw, hr⟩ => ⟨hr, hw ▸ grow_more w x⟩
theorem drewC {P : Program} {f : FuncId} {args : Array Value} {w : World} {R : Ending → Prop}
    (h : Calls P f args w fun e w' => R e ∧ ∃ m, w' = w.drewN m) : Calls P f args w fun e w' => ∃ x, w' = more w x ∧ R e :=
  h.mono fun _ _ ⟨hr, m, hm⟩ => ⟨_, hm.trans (drewN_is_more w m), hr⟩
theorem MemAt.more {w : World} {b g n c : Nat} {ws : List Int} (h : MemAt w b g n c ws) (x : Array Obj × Nat) : MemAt (more w x) b g n c ws := h.kept0 (grow_more w x)
theorem MemAt.alloc {w : World} {b g n c : Nat} {ws : List Int} (h : MemAt w b g n c ws) (o : Obj) : MemAt (w.alloc o) b g n c ws := h.kept0 (World.grownBy_alloc w o none)
theorem MemAt.drew {w : World} {b g n c : Nat} {ws : List Int} (h : MemAt w b g n c ws) : MemAt w.drew b g n c ws := h.kept0 (grow_drew (grow_refl _ _))
theorem MemAt.drewN {w : World} {b g n c : Nat} {ws : List Int} (h : MemAt w b g n c ws) (k : Nat) : MemAt (w.drewN k) b g n c ws := h.kept0 (grow_drewN (grow_refl _ _) k)

/-- w' is w with new blocks. -/
def Ext (w w' : World) : Prop := ∃ x, w' = more w x
theorem Ext.of {w w' : World} (h : w.grownBy w' none) : Ext w w' := more_of_grow h
theorem Ext.grow {w w' : World} (h : Ext w w') : w.grownBy w' none := by obtain ⟨x, rfl⟩ := h; exact grow_more w x
theorem Ext.refl (w : World) : Ext w w := ⟨_, self_more w⟩
theorem Ext.trans {a b c : World} (h : Ext a b) (k : Ext b c) : Ext a c := .of (grow_trans h.grow k.grow)
theorem Ext.more {w w' : World} (h : Ext w w') (x : Array Obj × Nat) : Ext w (more w' x) := h.trans ⟨x, rfl⟩
theorem Ext.alloc {w w' : World} (h : Ext w w') (o : Obj) : Ext w (w'.alloc o) := h.trans ⟨_, alloc_is_more w' o⟩
theorem Ext.drew {w w' : World} (h : Ext w w') : Ext w w'.drew := h.trans ⟨_, drew_is_more w'⟩
theorem Ext.drewN {w w' : World} (h : Ext w w') (n : Nat) : Ext w (w'.drewN n) := h.trans ⟨_, drewN_is_more w' n⟩
theorem Ext.size {w w' : World} (h : Ext w w') : w.heap.size ≤ w'.heap.size := h.grow.size
/-- A contract of a call that turns no old block. -/
theorem extC {P : Program} {f : FuncId} {args : Array Value} {w : World} {R : Ending → World → Prop}
    (h : Calls P f args w fun e w' => R e w' ∧ w.grownBy w' none) : Calls P f args w fun e w' => Ext w w' ∧ R e w' :=
  h.mono fun _ _ ⟨hr, hg⟩ => ⟨.of hg, hr⟩
theorem extD {P : Program} {f : FuncId} {args : Array Value} {w : World} {R : Ending → Prop}
    (h : Calls P f args w fun e w' => R e ∧ ∃ m, w' = w.drewN m) : Calls P f args w fun e w' => Ext w w' ∧ R e :=
  h.mono fun _ _ ⟨hr, m, hm⟩ => ⟨⟨_, hm.trans (drewN_is_more w m)⟩, hr⟩
theorem extS {P : Program} {f : FuncId} {args : Array Value} {w : World} {R : Ending → Prop}
    (h : Calls P f args w fun e w' => R e ∧ w' = w) : Calls P f args w fun e w' => Ext w w' ∧ R e :=
  h.mono fun _ _ ⟨hr, hm⟩ => ⟨hm ▸ Ext.refl w, hr⟩
theorem growC {P : Program} {f : FuncId} {args : Array Value} {w : World} {R : Ending → World → Prop}
    (h : Calls P f args w fun e w' => Ext w w' ∧ R e w') : Calls P f args w fun e w' => R e w' ∧ w.grownBy w' none :=
  h.mono fun _ _ ⟨hg, hr⟩ => ⟨hr, hg.grow⟩

theorem heap_drew' (w : World) : w.drew.heap = w.heap := rfl
theorem heap_alloc_lt (w : World) (o : Obj) {n : Nat} (h : n < w.heap.size) : (w.alloc o).heap[n]? = w.heap[n]? := by rw [heap_alloc_if, if_neg (by omega)]
theorem heap_alloc_at (w : World) (o : Obj) {n : Nat} (h : n = w.heap.size) : (w.alloc o).heap[n]? = some o := by rw [heap_alloc_if, if_pos h]

theorem box_more {w : World} {n : Nat} {o : Obj} (h : w.heap[n]? = some o) (x : Array Obj × Nat) : (more w x).heap[n]? = some o := (heap_more w x (Array.getElem?_eq_some_iff.1 h).1).trans h
theorem box_alloc {w : World} {n : Nat} {o : Obj} (h : w.heap[n]? = some o) (p : Obj) : (w.alloc p).heap[n]? = some o := (heap_alloc_lt w p (Array.getElem?_eq_some_iff.1 h).1).trans h
theorem box_drew {w : World} {n : Nat} {o : Obj} (h : w.heap[n]? = some o) : w.drew.heap[n]? = some o := h
theorem box_drewN {w : World} {n : Nat} {o : Obj} (h : w.heap[n]? = some o) (k : Nat) : (w.drewN k).heap[n]? = some o := h
section
variable {P : Program} {fn : Func} {p q r : Tmp} {ty : TypeId}
/-- Three results: a slot, a struct in memory, a slot. -/
theorem results_tct (h : fn.results = #[.tmp q, .cell p ty, .tmp r]) (tmps : Array Value) (w : World) (g : Nat) (t : TypeId) (cs : Array Value) (fr : Nat × Nat) (d : TypeDesc)
    (hp : tmps.getD p undef = .pointer (some ⟨g, 0, none⟩)) (hg : w.heap[g]? = some (.cells cs t fr))
    (hu : P.underlying ty = some d) (hd : (match d with | .struct _ | .array _ _ => true | _ => false) = true) (hi : (P.info? ty).map (·.size) = some cs.size) :
    (results fn tmps).run P w = .ok (.tuple #[tmps.getD q undef, .agg cs, tmps.getD r undef]) w := by
  have hp' : tmps[p]?.getD undef = .pointer (some ⟨g, 0, none⟩) := by simpa using hp
  simp [results, h, hp', asAddr, run_loadVar_row w g t ty cs fr d hg hu hd hi]
/-- Two results: a struct in memory, a slot. -/
theorem results_ct (h : fn.results = #[.cell p ty, .tmp r]) (tmps : Array Value) (w : World) (g : Nat) (t : TypeId) (cs : Array Value) (fr : Nat × Nat) (d : TypeDesc)
    (hp : tmps.getD p undef = .pointer (some ⟨g, 0, none⟩)) (hg : w.heap[g]? = some (.cells cs t fr))
    (hu : P.underlying ty = some d) (hd : (match d with | .struct _ | .array _ _ => true | _ => false) = true) (hi : (P.info? ty).map (·.size) = some cs.size) :
    (results fn tmps).run P w = .ok (.tuple #[.agg cs, tmps.getD r undef]) w := by
  have hp' : tmps[p]?.getD undef = .pointer (some ⟨g, 0, none⟩) := by simpa using hp
  simp [results, h, hp', asAddr, run_loadVar_row w g t ty cs fr d hg hu hd hi]
end

theorem own_more {w : World} {B sz n : Nat} {E : TypeId} {v : Value} {xs : List Value} (h : w.ownsRow B E sz v n xs) (x : Array Obj × Nat) : (more w x).ownsRow B E sz v n xs := h.kept (grow_more w x) (by cases v.ownBlock <;> simp)
theorem own_alloc {w : World} {B sz n : Nat} {E : TypeId} {v : Value} {xs : List Value} (h : w.ownsRow B E sz v n xs) (o : Obj) : (w.alloc o).ownsRow B E sz v n xs := h.alloc o
theorem own_drew {w : World} {B sz n : Nat} {E : TypeId} {v : Value} {xs : List Value} (h : w.ownsRow B E sz v n xs) : w.drew.ownsRow B E sz v n xs := h
theorem own_drewN {w : World} {B sz n : Nat} {E : TypeId} {v : Value} {xs : List Value} (h : w.ownsRow B E sz v n xs) (k : Nat) : (w.drewN k).ownsRow B E sz v n xs := h
theorem own_ext {w w' : World} {B sz n : Nat} {E : TypeId} {v : Value} {xs : List Value} (h : w.ownsRow B E sz v n xs) (k : Ext w w') : w'.ownsRow B E sz v n xs := h.kept k.grow (by cases v.ownBlock <;> simp)
theorem own_low {w : World} {B B' sz n : Nat} {E : TypeId} {v : Value} {xs : List Value} (h : w.ownsRow B E sz v n xs) (k : B' ≤ B) : w.ownsRow B' E sz v n xs :=
  ⟨h.1, h.2.imp id fun ⟨g, cap, cur, a, b, c⟩ => ⟨g, cap, cur, a, by omega, c⟩⟩
theorem heap_more_ge {W W' : World} (hs : W.heap.size = W'.heap.size) (x : Array Obj × Nat) (k : Nat) (hk : W.heap.size ≤ k) : (more W' x).heap[k]? = (more W x).heap[k]? := by
  show (W'.heap ++ x.1)[k]? = (W.heap ++ x.1)[k]?
  rw [Array.getElem?_append, Array.getElem?_append, if_neg (by omega), if_neg (by omega), hs]
/-- What lies behind a world doesn't hang on that world's own cells. -/
theorem own_re {W W' : World} {x : Array Obj × Nat} {sz n : Nat} {E : TypeId} {v : Value} {xs : List Value} (h : (more W x).ownsRow W.heap.size E sz v n xs) (hs : W.heap.size = W'.heap.size) : (more W' x).ownsRow W'.heap.size E sz v n xs :=
  ⟨h.1, h.2.imp id fun ⟨g, cap, cur, a, b, c, d⟩ => ⟨g, cap, cur, a, by omega, (heap_more_ge hs x g b).trans c, d⟩⟩
theorem rd_more {w : World} {v : Value} {sz : Nat} {css : List (List Value)} (h : SlRd w v sz css) (x : Array Obj × Nat) : SlRd (more w x) v sz css := h.kept0 (grow_more w x)
theorem rd_alloc {w : World} {v : Value} {sz : Nat} {css : List (List Value)} (h : SlRd w v sz css) (o : Obj) : SlRd (w.alloc o) v sz css := h.kept0 (World.grownBy_alloc w o none)
theorem rd_drew {w : World} {v : Value} {sz : Nat} {css : List (List Value)} (h : SlRd w v sz css) : SlRd w.drew v sz css := h
theorem rd_drewN {w : World} {v : Value} {sz : Nat} {css : List (List Value)} (h : SlRd w v sz css) (k : Nat) : SlRd (w.drewN k) v sz css := h.kept0 (grow_drewN (grow_refl _ _) k)

/-- A block's cells, as an append wants them. -/
theorem block_news' {w : World} {g : Nat} {cs : Array Value} {T : TypeId} (h : w.heap[g]? = some (.cells cs T (0, 0))) : ∀ j u, cs.toList[j]? = some u → w.cell? ((⟨g, 0, none⟩ : Addr).add j) = some u := by
  intro j u hu
  have hadd : (⟨g, 0, none⟩ : Addr).add j = ⟨g, j, none⟩ := by unfold Addr.add; split <;> simp_all
  rw [hadd, cell_of_row w g j _ _ _ h]
  simpa using hu

/-- A slice type t of elements e (of size cells, bytes bytes). -/
structure ElemAt (P : Program) (t e : TypeId) (z : Value) (size bytes : Nat) : Prop where
  sl : P.underlying t = some (.slice e)
  info : (P.info? e).map (fun i => (i.zero, i.size, i.bytes)) = some (some z, size, bytes)
  zs : z.cells.size = size
  pos : 0 < size
  small : bytes ≤ 1000

theorem grow_row {W w0 w1 w2 : World} {T : TypeId} {sz k : Nat} {v : Value} {xs : List Value} (h : W.grownBy w1 none) (ho : w0.ownsRow W.heap.size T sz v k xs) (hg : w1.grownBy w2 v.ownBlock) : W.grownBy w2 none := by
  cases hv : v.ownBlock with
  | none => rw [hv] at hg; exact grow_trans h hg
  | some g => rw [hv] at hg; exact grow_new h hg (ho.lt _ hv).1

/-- Elements that were just laid in a new block are appended to a slice of the call's own (its row lies behind W): the world is W with new blocks. -/
theorem wpList_append_new {P : Program} (W : World) {w : World} {ops : Array Oper} {rest : List Oper} {o : Oper} {a : Act} {Q : Exit → Act → World → Prop} {t e : TypeId} {z : Value} {size bytes : Nat} (el : ElemAt P t e z size bytes)
    (hgd : o.guard = none) (s x : Operand) (ho : o.op = .call { callee := .builtin .append, args := #[s, x], argTypes := #[t, t] })
    (v : Value) (n : Nat) (xs : List Value) (hs : a.eval s = v) (hown : w.ownsRow W.heap.size e size v n xs) (hW : Ext W w)
    (cs : Array Value) (T : TypeId) (m ad : Nat) (hx : a.eval x = .slice (some ⟨ad, 0, none⟩) m m) (had : ad = w.heap.size) (hl : cs.size = m * size) (h1 : cs.toList.all Value.oneCell' = true) (hn : n + m ≤ 1000000)
    (h : ∀ v' x', Hid ((more W x').ownsRow W.heap.size e size v' (n + m) (xs ++ cs.toList)) → (∀ k ob, w.heap[k]? = some ob → v.ownBlock ≠ some k → (more W x').heap[k]? = some ob) → wpList P ops Q rest (a.put o.dst v') (more W x')) : wpList P ops Q (o :: rest) a (w.alloc (.cells cs T)) := by
  obtain ⟨i, hi, hz, h3, h4⟩ := info_parts el.info
  subst had
  have hb : (n + m) * bytes ≤ 1000000 * 1000 := Nat.mul_le_mul hn el.small
  refine wpList_append_own (w.alloc (.cells cs T)) hgd s x t ho W.heap.size e i z size bytes el.sl hi hz h3 h4 el.zs el.pos v n xs hs (hown.alloc _) ⟨w.heap.size, 0, none⟩ m m cs.toList hx (by simpa using hl)
    (block_news' (heap_alloc_new w _)) (by intro u hu; exact List.all_eq_true.1 h1 u hu) (by unfold maxLen; omega) (by omega) (by have := hW.size; simp; omega) ?_
  intro v' w' ho' hg' _
  obtain ⟨x', rfl⟩ := more_of_grow (grow_row (hW.alloc (.cells cs T)).grow hown hg')
  exact h v' x' ho' fun k ob hk hne => (hg'.block k (by have := (Array.getElem?_eq_some_iff.1 hk).1; simp; omega) (fun e => hne e.symm)).trans (box_alloc hk _)

/-- A block that was there is below every later size: as the walk's simplifier asks it. -/
theorem lt_facts {b m : Nat} (h : b < m) : (∀ k, b < m + k) ∧ (∀ k, b ≤ m + k) ∧ b ≤ m := ⟨fun k => by omega, fun k => by omega, by omega⟩
/-- A goal at which the walk stands. -/
def Hold (p : Prop) : Prop := p
theorem of_hold {p : Prop} (h : Hold p) : p := h
/-- A row of the call's own, as a value. -/
theorem own_form {w : World} {B sz n : Nat} {E : TypeId} {v : Value} {xs : List Value} (h : w.ownsRow B E sz v n xs) : ∃ a cap, v = .slice a n cap := by
  rcases h.2 with ⟨rfl, rfl⟩ | ⟨g, cap, cur, rfl, _⟩
  · exact ⟨none, 0, rfl⟩
  · exact ⟨_, cap, rfl⟩
theorem flatten_at {α : Type} (sz : Nat) : ∀ (css : List (List α)) (i j : Nat) (c : List α) (u : α), (∀ c ∈ css, c.length = sz) → css[i]? = some c → c[j]? = some u → css.flatten[i * sz + j]? = some u := by
  intro css
  induction css with
  | nil => intro i j c u _ h; simp at h
  | cons x t ih =>
    intro i j c u hl hi hj
    have hx : x.length = sz := hl x (by simp)
    rw [List.flatten_cons]
    cases i with
    | zero =>
      simp at hi
      subst hi
      have := (List.getElem?_eq_some_iff.1 hj).1
      rw [List.getElem?_append_left (by omega)]
      simpa using hj
    | succ i =>
      have e : (i + 1) * sz + j - x.length = i * sz + j := by rw [Nat.add_mul]; omega
      rw [List.getElem?_append_right (by rw [Nat.add_mul]; omega), e]
      exact ih i j c u (fun c hc => hl c (by simp [hc])) (by simpa using hi) hj
/-- A row of the call's own reads as a slice that came in. -/
theorem own_rd {w : World} {B sz n : Nat} {E : TypeId} {v : Value} {xs : List Value} {css : List (List Value)} (h : w.ownsRow B E sz v n xs) (hn : n = css.length) (hx : xs = css.flatten) (hc : ∀ c ∈ css, c.length = sz) : SlRd w v sz css := by
  subst hn hx
  rcases h.2 with ⟨rfl, h0⟩ | ⟨g, cap, cur, rfl, _, hg, h1, h2, h3, h4⟩
  · exact .inl ⟨rfl, List.eq_nil_of_length_eq_zero h0⟩
  · refine .inr ⟨g, 0, none, cap, rfl, h1, h2, fun i c j u hi hj => ⟨rfl, ?_⟩⟩
    rw [cell_of_row w g _ _ _ _ hg]
    have hf := flatten_at sz css i j c u hc hi hj
    rw [← h4, List.getElem?_take] at hf
    split at hf
    · simpa using hf
    · cases hf

end Go.Proofs.Ythcdecgecabgaaa
