import Derived.Test.YthcdecgecabgaaaPte
import Derived.BigRegion
/- The contracts of the Go package pte, second part: Decode. -/
namespace Go.Proofs.Ythcdecgecabgaaa
open Go.RowKit
set_option linter.unusedVariables false
set_option linter.unusedSimpArgs false
attribute [local go_sem] setCell_drewN alloc_drewN

set_option maxHeartbeats 400000 in
theorem pte_get (w : World) (x a n : Int) (hx : 0 ≤ x) (hx' : x < 18446744073709551616) (h0 : 0 ≤ a) (h1 : 1 ≤ n) (h2 : a + n ≤ 64) (h3 : n ≤ 62) :
    Calls Try.prog 188 #[.int .u64 x, .int .i64 a, .int .i64 n] w fun e w' => e = .returned (.int .i64 (x / 2 ^ a.toNat % 2 ^ n.toNat)) ∧ ∃ m, w' = w.drewN m := by
  have b0 : 0 ≤ x / 2 ^ a.toNat % 2 ^ n.toNat := Int.emod_nonneg _ (Int.ne_of_gt (Int.pow_pos (by omega)))
  have b1 : x / 2 ^ a.toNat % 2 ^ n.toNat < 4611686018427387904 := by
    have e1 : x / 2 ^ a.toNat % 2 ^ n.toNat < 2 ^ n.toNat := Int.emod_lt_of_pos _ (Int.pow_pos (by omega))
    have e2 : (2 : Nat) ^ n.toNat ≤ 2 ^ 62 := Nat.pow_le_pow_right (by omega) (by omega)
    have e3 : ((2 ^ n.toNat : Nat) : Int) = (2 : Int) ^ n.toNat := by simp
    omega
  have H := Lib.hid (word_Field w x a n hx hx' h0 h1 h2)
  generalize x / 2 ^ a.toNat % 2 ^ n.toNat = v at *
  go_enter Try.func188, Try.ntmps188
  go_wp2_with fail
  refine H.out.mono ?_
  rintro e w1 ⟨rfl, m, rfl⟩
  go_wp2_with fail
  go_ret
  exact ⟨rfl, m, rfl⟩

theorem and_bit_eq (x b : Int) (k : Nat) (hb : b = 2 ^ k) (hk : k < 64) (h0 : 0 ≤ x) (h1 : x < 18446744073709551616) : (Go.bits .and .u64 x b == 0) = (x / 2 ^ k % 2 == 0) := by
  subst hb
  rw [and_bit x k hk h0 h1, Bool.eq_iff_iff]
  simp only [beq_iff_eq]
  have hp : (0 : Int) < 2 ^ k := Int.pow_pos (by omega)
  constructor
  · intro h
    rcases Int.mul_eq_zero.1 h with h | h
    · exact h
    · omega
  · intro h; rw [h]; simp
theorem and_bit_ne (x b : Int) (k : Nat) (hb : b = 2 ^ k) (hk : k < 64) (h0 : 0 ≤ x) (h1 : x < 18446744073709551616) : (Go.bits .and .u64 x b != 0) = (x / 2 ^ k % 2 != 0) := by
  unfold bne
  rw [and_bit_eq x b k hb hk h0 h1]

set_option maxHeartbeats 1000000 in
theorem pte_rights (w : World) (x k : Int) (hx : 0 ≤ x) (hx' : x < 18446744073709551616) :
    Calls Try.prog 187 #[.int .u64 x, .int .i64 k] w fun e w' => e = .returned (rightsD x k).v ∧ w.grownBy w' none := by
  have q7 := and_bit_eq x 128 7 (by decide) (by omega) hx hx'
  have q54 := and_bit_eq x 18014398509481984 54 (by decide) (by omega) hx hx'
  have q10 := and_bit_ne x 1024 10 (by decide) (by omega) hx hx'
  have q52 := and_bit_ne x 4503599627370496 52 (by decide) (by omega) hx hx'
  have Q7 := Lib.hid q7
  have Q54 := Lib.hid q54
  have Q10 := Lib.hid q10
  have Q52 := Lib.hid q52
  clear q7 q54 q10 q52
  go_enter Try.func187, Try.ntmps187
  go_wp2_with fail
  refine (pte_get _ x 12 36 hx hx' (by omega) (by omega) (by omega) (by omega)).mono ?_
  rintro e w1 ⟨rfl, m, rfl⟩
  go_wp2_with fail
  refine (pte_get _ x 55 3 hx hx' (by omega) (by omega) (by omega) (by omega)).mono ?_
  rintro e w1 ⟨rfl, m2, rfl⟩
  go_wp2_with fail
  refine bodyPost_ret (results_cell_row rfl _ _ w.heap.size 128 _ (0, 0) _ rfl (heap_alloc_new w _) Try.underlying128 rfl (by kernel_rfl)) rfl ⟨?_, grow_drewN (World.grownBy_alloc _ _ _) _⟩
  rw [Q7.out, Q54.out, Q10.out, Q52.out]
  rfl

theorem and_low (x : Int) (hx : 0 ≤ x) (hx' : x < 18446744073709551616) : (Go.bits .and .u64 x 1 == 0) = (x % 2 == 0) := by
  have := and_bit_eq x 1 0 (by decide) (by omega) hx hx'
  rw [this]; simp
theorem and_two (x : Int) (hx : 0 ≤ x) (hx' : x < 18446744073709551616) : (Go.bits .and .u64 x 2 != 0) = (x / 2 % 2 != 0) := by
  have := and_bit_ne x 2 1 (by decide) (by omega) hx hx'
  rw [this]; simp

theorem set7 {w : World} {g : Nat} {T : TypeId} {a0 a1 a2 a3 a4 a5 a6 : Value} (h : w.heap[g]? = some (.cells #[a0, a1, a2, a3, a4, a5, a6] T (0, 0))) (v0 v1 v2 v3 v4 v5 v6 : Value) :
    (((((((w.setCell ⟨g, 0, none⟩ v0).setCell ⟨g, 1, none⟩ v1).setCell ⟨g, 2, none⟩ v2).setCell ⟨g, 3, none⟩ v3).setCell ⟨g, 4, none⟩ v4).setCell ⟨g, 5, none⟩ v5).setCell ⟨g, 6, none⟩ v6).heap[g]? = some (.cells #[v0, v1, v2, v3, v4, v5, v6] T (0, 0)) := by
  have h0 : (w.setCell ⟨g, 0, none⟩ v0).heap[g]? = some (.cells #[v0, a1, a2, a3, a4, a5, a6] T (0, 0)) := heap_setCell_same _ g 0 _ _ v0 h
  have h1 : ((w.setCell ⟨g, 0, none⟩ v0).setCell ⟨g, 1, none⟩ v1).heap[g]? = some (.cells #[v0, v1, a2, a3, a4, a5, a6] T (0, 0)) := heap_setCell_same _ g 1 _ _ v1 h0
  have h2 : (((w.setCell ⟨g, 0, none⟩ v0).setCell ⟨g, 1, none⟩ v1).setCell ⟨g, 2, none⟩ v2).heap[g]? = some (.cells #[v0, v1, v2, a3, a4, a5, a6] T (0, 0)) := heap_setCell_same _ g 2 _ _ v2 h1
  have h3 : ((((w.setCell ⟨g, 0, none⟩ v0).setCell ⟨g, 1, none⟩ v1).setCell ⟨g, 2, none⟩ v2).setCell ⟨g, 3, none⟩ v3).heap[g]? = some (.cells #[v0, v1, v2, v3, a4, a5, a6] T (0, 0)) := heap_setCell_same _ g 3 _ _ v3 h2
  have h4 : (((((w.setCell ⟨g, 0, none⟩ v0).setCell ⟨g, 1, none⟩ v1).setCell ⟨g, 2, none⟩ v2).setCell ⟨g, 3, none⟩ v3).setCell ⟨g, 4, none⟩ v4).heap[g]? = some (.cells #[v0, v1, v2, v3, v4, a5, a6] T (0, 0)) := heap_setCell_same _ g 4 _ _ v4 h3
  have h5 : ((((((w.setCell ⟨g, 0, none⟩ v0).setCell ⟨g, 1, none⟩ v1).setCell ⟨g, 2, none⟩ v2).setCell ⟨g, 3, none⟩ v3).setCell ⟨g, 4, none⟩ v4).setCell ⟨g, 5, none⟩ v5).heap[g]? = some (.cells #[v0, v1, v2, v3, v4, v5, a6] T (0, 0)) := heap_setCell_same _ g 5 _ _ v5 h4
  have h6 : (((((((w.setCell ⟨g, 0, none⟩ v0).setCell ⟨g, 1, none⟩ v1).setCell ⟨g, 2, none⟩ v2).setCell ⟨g, 3, none⟩ v3).setCell ⟨g, 4, none⟩ v4).setCell ⟨g, 5, none⟩ v5).setCell ⟨g, 6, none⟩ v6).heap[g]? = some (.cells #[v0, v1, v2, v3, v4, v5, v6] T (0, 0)) := heap_setCell_same _ g 6 _ _ v6 h5
  exact h6
theorem grow_set7 (w : World) (g : Nat) (v0 v1 v2 v3 v4 v5 v6 : Value) : w.grownBy (((((((w.setCell ⟨g, 0, none⟩ v0).setCell ⟨g, 1, none⟩ v1).setCell ⟨g, 2, none⟩ v2).setCell ⟨g, 3, none⟩ v3).setCell ⟨g, 4, none⟩ v4).setCell ⟨g, 5, none⟩ v5).setCell ⟨g, 6, none⟩ v6) (some g) := by
  repeat (refine grow_setCell ?_ _ _ (.inr rfl))
  exact grow_refl _ _
theorem cells7 {w : World} {g : Nat} {T : TypeId} {a0 a1 a2 a3 a4 a5 a6 : Value} (h : w.heap[g]? = some (.cells #[a0, a1, a2, a3, a4, a5, a6] T (0, 0))) :
    w.cell? ⟨g, 0, none⟩ = some a0 ∧ w.cell? ⟨g, 1, none⟩ = some a1 ∧ w.cell? ⟨g, 2, none⟩ = some a2 ∧ w.cell? ⟨g, 3, none⟩ = some a3 ∧ w.cell? ⟨g, 4, none⟩ = some a4 ∧ w.cell? ⟨g, 5, none⟩ = some a5 ∧ w.cell? ⟨g, 6, none⟩ = some a6 ∧ ∀ i, w.frozen? ⟨g, i, none⟩ = false := by
  refine ⟨?_, ?_, ?_, ?_, ?_, ?_, ?_, fun i => frozen_of_row _ _ _ _ _ h⟩
  all_goals (rw [cell_of_row _ _ _ _ _ _ h]; rfl)

theorem box_heap {w w1 : World} {cs : Array Value} {T : TypeId} (hg : (w.alloc (.cells cs T)).grownBy w1 none) : w1.heap[w.heap.size]? = some (.cells cs T (0, 0)) := by
  rw [hg.block _ (by simp) (by simp)]; exact heap_alloc_new _ _

set_option maxHeartbeats 1000000 in
theorem pte_read (w : World) (level x : Int) (hx : 0 ≤ x) (hx' : x < 18446744073709551616) :
    Calls Try.prog 150 #[.int .i64 level, .int .u64 x] w fun e w' => e = .returned (readD level x).v ∧ w.grownBy w' none := by
  by_cases h0 : x = 0
  · subst h0
    clear hx hx'
    go_enter Try.func150, Try.ntmps150
    go_wp2_with fail
    refine bodyPost_ret (results_cell_row rfl _ _ w.heap.size 128 _ (0, 0) _ rfl (heap_alloc_new w _) Try.underlying128 rfl (by kernel_rfl)) rfl ⟨rfl, World.grownBy_alloc _ _ _⟩
  · have hz : (x == 0) = false := by simpa using h0
    have q1 := and_low x hx hx'
    have q2 := and_two x hx hx'
    by_cases h1 : x % 2 = 0
    · have hv : readD level x = rightsD x 4 := by simp [readD, h0, h1]
      have HV := Lib.hid hv
      have k1 : (Go.bits .and .u64 x 1 == 0) = true := by rw [q1]; simpa using h1
      clear q1 q2 hv h1 h0
      go_enter Try.func150, Try.ntmps150
      go_wp2_with fail
      refine (pte_rights _ x 4 hx hx').mono ?_
      rintro e w1 ⟨rfl, hg⟩
      have hb := box_heap hg
      obtain ⟨x0, x1, x2, x3, x4, x5, x6, xf⟩ := cells7 hb
      have HB := Lib.hid hb
      have G := grow_trans (World.grownBy_alloc w _ none) hg
      have s1 := hg.size
      rw [World.size_alloc] at s1
      clear hb hg
      go_wp2_with fail
      refine bodyPost_ret (results_cell_row rfl _ _ w.heap.size 128 _ (0, 0) _ rfl (set7 HB.out _ _ _ _ _ _ _) Try.underlying128 rfl (by kernel_rfl)) rfl ⟨by rw [HV.out], grow_new G (grow_set7 _ _ _ _ _ _ _ _ _) (Nat.le_refl _)⟩
    · have k1 : (Go.bits .and .u64 x 1 == 0) = false := by rw [q1]; simpa using h1
      by_cases h2 : x / 2 % 2 = 0
      · have hv : readD level x = rightsD x 2 := by simp [readD, h0, h1, h2]
        have HV := Lib.hid hv
        have k2 : (Go.bits .and .u64 x 2 != 0) = false := by rw [q2]; simpa using h2
        clear q1 q2 hv h1 h0 h2
        go_enter Try.func150, Try.ntmps150
        go_wp2_with fail
        refine (pte_rights _ x 2 hx hx').mono ?_
        rintro e w1 ⟨rfl, hg⟩
        have hb := box_heap hg
        obtain ⟨x0, x1, x2, x3, x4, x5, x6, xf⟩ := cells7 hb
        have HB := Lib.hid hb
        have G := grow_trans (World.grownBy_alloc w _ none) hg
        have s1 := hg.size
        rw [World.size_alloc] at s1
        clear hb hg
        go_wp2_with fail
        refine bodyPost_ret (results_cell_row rfl _ _ w.heap.size 128 _ (0, 0) _ rfl (set7 HB.out _ _ _ _ _ _ _) Try.underlying128 rfl (by kernel_rfl)) rfl ⟨by rw [HV.out], grow_new G (grow_set7 _ _ _ _ _ _ _ _ _) (Nat.le_refl _)⟩
      · have k2 : (Go.bits .and .u64 x 2 != 0) = true := by rw [q2]; simpa using h2
        by_cases h3 : level < 3
        · have hv : readD level x = tableD (x / 2 ^ 12 % 2 ^ 36) := by simp [readD, h0, h1, h2, h3]
          have HV := Lib.hid hv
          clear q1 q2 hv h1 h0 h2
          go_enter Try.func150, Try.ntmps150
          go_wp2_with fail
          refine (pte_get _ x 12 36 hx hx' (by omega) (by omega) (by omega) (by omega)).mono ?_
          rintro e w1 ⟨rfl, m, rfl⟩
          go_wp2_with fail
          refine bodyPost_ret (results_cell_row rfl _ _ w.heap.size 128 _ (0, 0) _ rfl (heap_alloc_new w _) Try.underlying128 rfl (by kernel_rfl)) rfl ⟨by rw [HV.out]; rfl, grow_drewN (World.grownBy_alloc _ _ _) _⟩
        · have hv : readD level x = rightsD x 3 := by simp [readD, h0, h1, h2, h3]
          have HV := Lib.hid hv
          clear q1 q2 hv h1 h0 h2
          go_enter Try.func150, Try.ntmps150
          go_wp2_with fail
          refine (pte_rights _ x 3 hx hx').mono ?_
          rintro e w1 ⟨rfl, hg⟩
          have hb := box_heap hg
          obtain ⟨x0, x1, x2, x3, x4, x5, x6, xf⟩ := cells7 hb
          have HB := Lib.hid hb
          have G := grow_trans (World.grownBy_alloc w _ none) hg
          have s1 := hg.size
          rw [World.size_alloc] at s1
          clear hb hg
          go_wp2_with fail
          refine bodyPost_ret (results_cell_row rfl _ _ w.heap.size 128 _ (0, 0) _ rfl (set7 HB.out _ _ _ _ _ _ _) Try.underlying128 rfl (by kernel_rfl)) rfl ⟨by rw [HV.out], grow_new G (grow_set7 _ _ _ _ _ _ _ _ _) (Nat.le_refl _)⟩

/-- Two results: a struct that lies in memory, and a slot. -/
theorem results_cell_tmp {P : Program} {fn : Func} {p q : Tmp} {ty : TypeId} (h : fn.results = #[.cell p ty, .tmp q]) (tmps : Array Value) (w : World) (g : Nat) (t : TypeId) (cs : Array Value) (fr : Nat × Nat) (d : TypeDesc)
    (hp : tmps.getD p undef = .pointer (some ⟨g, 0, none⟩)) (hg : w.heap[g]? = some (.cells cs t fr))
    (hu : P.underlying ty = some d) (hd : (match d with | .struct _ | .array _ _ => true | _ => false) = true) (hi : (P.info? ty).map (·.size) = some cs.size) :
    (results fn tmps).run P w = .ok (.tuple #[.agg cs, tmps.getD q undef]) w := by
  have hp' : tmps[p]?.getD undef = .pointer (some ⟨g, 0, none⟩) := by simpa using hp
  simp [results, h, hp', asAddr, run_loadVar_row w g t ty cs fr d hg hu hd hi]

set_option maxHeartbeats 1000000 in
theorem pte_Decode (w : World) (level x : Int) (hl0 : 0 ≤ level) (hl1 : level ≤ 3) (hx : 0 ≤ x) (hx' : x < 18446744073709551616) :
    Calls Try.prog 118 #[.int .i64 level, .int .u64 x] w fun e w' => e = .returned (.tuple #[(decD level x).v, .nilIface]) ∧ w.grownBy w' none := by
  go_enter Try.func118, Try.ntmps118
  go_wp2_with fail
  refine (pte_read _ level x hx hx').mono ?_
  rintro e w1 ⟨rfl, hg⟩
  have hb := box_heap hg
  have HB := Lib.hid hb
  have G := grow_trans (World.grownBy_alloc w _ none) hg
  have s1 := hg.size
  rw [World.size_alloc] at s1
  clear hb hg
  generalize hd : readD level x = d
  have HD := Lib.hid hd
  clear hd
  obtain ⟨k, f, wr, ex, se, fo, so⟩ := d
  cases hok : okD level ⟨k, f, wr, ex, se, fo, so⟩
  · have hv : decD level x = badD := by simp [decD, HD.out, hok]
    have HV := Lib.hid hv
    have HO := Lib.hid hok
    clear hv hok
    go_wp2_with fail
    refine (pte_Encode_no _ level ⟨k, f, wr, ex, se, fo, so⟩ HO.out).mono ?_
    rintro e w2 ⟨rfl, hg⟩
    have hb2 := box_heap hg
    obtain ⟨y0, y1, y2, y3, y4, y5, y6, yf⟩ := cells7 hb2
    have hb1 : w2.heap[w.heap.size]? = _ := (hg.block _ (by simp; omega) (by simp)).trans ((heap_alloc_old _ _ (by omega)).trans HB.out)
    obtain ⟨x0, x1, x2, x3, x4, x5, x6, xf⟩ := cells7 hb1
    have HB1 := Lib.hid hb1
    have G2 := grow_trans (grow_alloc G _) hg
    clear hb1 hb2 hg G
    go_wp2_with fail
    refine bodyPost_ret (results_cell_tmp rfl _ _ w.heap.size 128 _ (0, 0) _ rfl (set7 HB1.out _ _ _ _ _ _ _) Try.underlying128 rfl (by kernel_rfl)) rfl ⟨by rw [HV.out]; rfl, grow_new G2 (grow_set7 _ _ _ _ _ _ _ _ _) (Nat.le_refl _)⟩
  · have HO := Lib.hid hok
    clear hok
    by_cases he : encW ⟨k, f, wr, ex, se, fo, so⟩ = x
    · have hv : decD level x = ⟨k, f, wr, ex, se, fo, so⟩ := by simp [decD, HD.out, HO.out, he]
      have HV := Lib.hid hv
      have HE := Lib.hid he
      clear hv he
      go_wp2_with fail
      refine (pte_Encode_yes _ level ⟨k, f, wr, ex, se, fo, so⟩ HO.out).mono ?_
      rintro e w2 ⟨rfl, hg⟩
      have hb2 := box_heap hg
      obtain ⟨y0, y1, y2, y3, y4, y5, y6, yf⟩ := cells7 hb2
      have hb1 : w2.heap[w.heap.size]? = _ := (hg.block _ (by simp; omega) (by simp)).trans ((heap_alloc_old _ _ (by omega)).trans HB.out)
      obtain ⟨x0, x1, x2, x3, x4, x5, x6, xf⟩ := cells7 hb1
      have HB1 := Lib.hid hb1
      have G2 := grow_trans (grow_alloc G _) hg
      clear hb1 hb2 hg G
      rw [HE.out]
      go_wp2_with fail
      refine bodyPost_ret (results_cell_tmp rfl _ _ w.heap.size 128 _ (0, 0) _ rfl (set7 HB1.out _ _ _ _ _ _ _) Try.underlying128 rfl (by kernel_rfl)) rfl ⟨by rw [HV.out]; rfl, grow_new G2 (grow_set7 _ _ _ _ _ _ _ _ _) (Nat.le_refl _)⟩
    · have hv : decD level x = badD := by simp [decD, HD.out, he]
      have HV := Lib.hid hv
      have hne : (encW ⟨k, f, wr, ex, se, fo, so⟩ != x) = true := by simpa using he
      have hne' : (encW ⟨k, f, wr, ex, se, fo, so⟩ == x) = false := by simpa using he
      clear hv he
      go_wp2_with fail
      refine (pte_Encode_yes _ level ⟨k, f, wr, ex, se, fo, so⟩ HO.out).mono ?_
      rintro e w2 ⟨rfl, hg⟩
      have hb2 := box_heap hg
      obtain ⟨y0, y1, y2, y3, y4, y5, y6, yf⟩ := cells7 hb2
      have hb1 : w2.heap[w.heap.size]? = _ := (hg.block _ (by simp; omega) (by simp)).trans ((heap_alloc_old _ _ (by omega)).trans HB.out)
      obtain ⟨x0, x1, x2, x3, x4, x5, x6, xf⟩ := cells7 hb1
      have HB1 := Lib.hid hb1
      have G2 := grow_trans (grow_alloc G _) hg
      clear hb1 hb2 hg G
      generalize encW ⟨k, f, wr, ex, se, fo, so⟩ = q at *
      go_wp2_with fail
      refine bodyPost_ret (results_cell_tmp rfl _ _ w.heap.size 128 _ (0, 0) _ rfl (set7 HB1.out _ _ _ _ _ _ _) Try.underlying128 rfl (by kernel_rfl)) rfl ⟨by rw [HV.out]; rfl, grow_new G2 (grow_set7 _ _ _ _ _ _ _ _ _) (Nat.le_refl _)⟩

set_option maxHeartbeats 1000000 in
theorem pte_Decode_no (w : World) (level x : Int) (h : level < 0 ∨ 3 < level) :
    Calls Try.prog 118 #[.int .i64 level, .int .u64 x] w fun e w' => e = .returned (.tuple #[noneD.v, errW 1]) ∧ w.grownBy w' none := by
  rcases h with h | h
  all_goals
    go_enter Try.func118, Try.ntmps118
    go_wp2_with fail
    exact bodyPost_ret (results_cell_tmp rfl _ _ w.heap.size 128 _ (0, 0) _ rfl (heap_alloc_new _ _) Try.underlying128 rfl (by kernel_rfl)) rfl ⟨rfl, World.grownBy_alloc _ _ _⟩

end Go.Proofs.Ythcdecgecabgaaa

/- The contracts of the Go package walk: order and found. -/
namespace Go.Proofs.Ythcdecgecabgaaa
open Go.RowKit
set_option linter.unusedVariables false
set_option linter.unusedSimpArgs false
attribute [local go_sem] setCell_drewN alloc_drewN

theorem set11 {w : World} {g : Nat} {T : TypeId} {a0 a1 a2 a3 a4 a5 a6 a7 a8 a9 a10 : Value} (h : w.heap[g]? = some (.cells #[a0, a1, a2, a3, a4, a5, a6, a7, a8, a9, a10] T (0, 0))) (v0 v1 v2 v3 v4 v5 v6 v7 v8 v9 v10 : Value) :
    (((((((((((w.setCell ⟨g, 0, none⟩ v0).setCell ⟨g, 1, none⟩ v1).setCell ⟨g, 2, none⟩ v2).setCell ⟨g, 3, none⟩ v3).setCell ⟨g, 4, none⟩ v4).setCell ⟨g, 5, none⟩ v5).setCell ⟨g, 6, none⟩ v6).setCell ⟨g, 7, none⟩ v7).setCell ⟨g, 8, none⟩ v8).setCell ⟨g, 9, none⟩ v9).setCell ⟨g, 10, none⟩ v10).heap[g]? = some (.cells #[v0, v1, v2, v3, v4, v5, v6, v7, v8, v9, v10] T (0, 0)) := by
  have h0 : (w.setCell ⟨g, 0, none⟩ v0).heap[g]? = some (.cells #[v0, a1, a2, a3, a4, a5, a6, a7, a8, a9, a10] T (0, 0)) := heap_setCell_same _ g 0 _ _ v0 h
  have h1 : ((w.setCell ⟨g, 0, none⟩ v0).setCell ⟨g, 1, none⟩ v1).heap[g]? = some (.cells #[v0, v1, a2, a3, a4, a5, a6, a7, a8, a9, a10] T (0, 0)) := heap_setCell_same _ g 1 _ _ v1 h0
  have h2 : (((w.setCell ⟨g, 0, none⟩ v0).setCell ⟨g, 1, none⟩ v1).setCell ⟨g, 2, none⟩ v2).heap[g]? = some (.cells #[v0, v1, v2, a3, a4, a5, a6, a7, a8, a9, a10] T (0, 0)) := heap_setCell_same _ g 2 _ _ v2 h1
  have h3 : ((((w.setCell ⟨g, 0, none⟩ v0).setCell ⟨g, 1, none⟩ v1).setCell ⟨g, 2, none⟩ v2).setCell ⟨g, 3, none⟩ v3).heap[g]? = some (.cells #[v0, v1, v2, v3, a4, a5, a6, a7, a8, a9, a10] T (0, 0)) := heap_setCell_same _ g 3 _ _ v3 h2
  have h4 : (((((w.setCell ⟨g, 0, none⟩ v0).setCell ⟨g, 1, none⟩ v1).setCell ⟨g, 2, none⟩ v2).setCell ⟨g, 3, none⟩ v3).setCell ⟨g, 4, none⟩ v4).heap[g]? = some (.cells #[v0, v1, v2, v3, v4, a5, a6, a7, a8, a9, a10] T (0, 0)) := heap_setCell_same _ g 4 _ _ v4 h3
  have h5 : ((((((w.setCell ⟨g, 0, none⟩ v0).setCell ⟨g, 1, none⟩ v1).setCell ⟨g, 2, none⟩ v2).setCell ⟨g, 3, none⟩ v3).setCell ⟨g, 4, none⟩ v4).setCell ⟨g, 5, none⟩ v5).heap[g]? = some (.cells #[v0, v1, v2, v3, v4, v5, a6, a7, a8, a9, a10] T (0, 0)) := heap_setCell_same _ g 5 _ _ v5 h4
  have h6 : (((((((w.setCell ⟨g, 0, none⟩ v0).setCell ⟨g, 1, none⟩ v1).setCell ⟨g, 2, none⟩ v2).setCell ⟨g, 3, none⟩ v3).setCell ⟨g, 4, none⟩ v4).setCell ⟨g, 5, none⟩ v5).setCell ⟨g, 6, none⟩ v6).heap[g]? = some (.cells #[v0, v1, v2, v3, v4, v5, v6, a7, a8, a9, a10] T (0, 0)) := heap_setCell_same _ g 6 _ _ v6 h5
  have h7 : ((((((((w.setCell ⟨g, 0, none⟩ v0).setCell ⟨g, 1, none⟩ v1).setCell ⟨g, 2, none⟩ v2).setCell ⟨g, 3, none⟩ v3).setCell ⟨g, 4, none⟩ v4).setCell ⟨g, 5, none⟩ v5).setCell ⟨g, 6, none⟩ v6).setCell ⟨g, 7, none⟩ v7).heap[g]? = some (.cells #[v0, v1, v2, v3, v4, v5, v6, v7, a8, a9, a10] T (0, 0)) := heap_setCell_same _ g 7 _ _ v7 h6
  have h8 : (((((((((w.setCell ⟨g, 0, none⟩ v0).setCell ⟨g, 1, none⟩ v1).setCell ⟨g, 2, none⟩ v2).setCell ⟨g, 3, none⟩ v3).setCell ⟨g, 4, none⟩ v4).setCell ⟨g, 5, none⟩ v5).setCell ⟨g, 6, none⟩ v6).setCell ⟨g, 7, none⟩ v7).setCell ⟨g, 8, none⟩ v8).heap[g]? = some (.cells #[v0, v1, v2, v3, v4, v5, v6, v7, v8, a9, a10] T (0, 0)) := heap_setCell_same _ g 8 _ _ v8 h7
  have h9 : ((((((((((w.setCell ⟨g, 0, none⟩ v0).setCell ⟨g, 1, none⟩ v1).setCell ⟨g, 2, none⟩ v2).setCell ⟨g, 3, none⟩ v3).setCell ⟨g, 4, none⟩ v4).setCell ⟨g, 5, none⟩ v5).setCell ⟨g, 6, none⟩ v6).setCell ⟨g, 7, none⟩ v7).setCell ⟨g, 8, none⟩ v8).setCell ⟨g, 9, none⟩ v9).heap[g]? = some (.cells #[v0, v1, v2, v3, v4, v5, v6, v7, v8, v9, a10] T (0, 0)) := heap_setCell_same _ g 9 _ _ v9 h8
  have h10 : (((((((((((w.setCell ⟨g, 0, none⟩ v0).setCell ⟨g, 1, none⟩ v1).setCell ⟨g, 2, none⟩ v2).setCell ⟨g, 3, none⟩ v3).setCell ⟨g, 4, none⟩ v4).setCell ⟨g, 5, none⟩ v5).setCell ⟨g, 6, none⟩ v6).setCell ⟨g, 7, none⟩ v7).setCell ⟨g, 8, none⟩ v8).setCell ⟨g, 9, none⟩ v9).setCell ⟨g, 10, none⟩ v10).heap[g]? = some (.cells #[v0, v1, v2, v3, v4, v5, v6, v7, v8, v9, v10] T (0, 0)) := heap_setCell_same _ g 10 _ _ v10 h9
  exact h10
theorem grow_set11 (w : World) (g : Nat) (v0 v1 v2 v3 v4 v5 v6 v7 v8 v9 v10 : Value) : w.grownBy (((((((((((w.setCell ⟨g, 0, none⟩ v0).setCell ⟨g, 1, none⟩ v1).setCell ⟨g, 2, none⟩ v2).setCell ⟨g, 3, none⟩ v3).setCell ⟨g, 4, none⟩ v4).setCell ⟨g, 5, none⟩ v5).setCell ⟨g, 6, none⟩ v6).setCell ⟨g, 7, none⟩ v7).setCell ⟨g, 8, none⟩ v8).setCell ⟨g, 9, none⟩ v9).setCell ⟨g, 10, none⟩ v10) (some g) := by
  repeat (refine grow_setCell ?_ _ _ (.inr rfl))
  exact grow_refl _ _
theorem cells11 {w : World} {g : Nat} {T : TypeId} {a0 a1 a2 a3 a4 a5 a6 a7 a8 a9 a10 : Value} (h : w.heap[g]? = some (.cells #[a0, a1, a2, a3, a4, a5, a6, a7, a8, a9, a10] T (0, 0))) :
    w.cell? ⟨g, 0, none⟩ = some a0 ∧ w.cell? ⟨g, 1, none⟩ = some a1 ∧ w.cell? ⟨g, 2, none⟩ = some a2 ∧ w.cell? ⟨g, 3, none⟩ = some a3 ∧ w.cell? ⟨g, 4, none⟩ = some a4 ∧ w.cell? ⟨g, 5, none⟩ = some a5 ∧ w.cell? ⟨g, 6, none⟩ = some a6 ∧ w.cell? ⟨g, 7, none⟩ = some a7 ∧ w.cell? ⟨g, 8, none⟩ = some a8 ∧ w.cell? ⟨g, 9, none⟩ = some a9 ∧ w.cell? ⟨g, 10, none⟩ = some a10 ∧ ∀ i, w.frozen? ⟨g, i, none⟩ = false := by
  refine ⟨?_, ?_, ?_, ?_, ?_, ?_, ?_, ?_, ?_, ?_, ?_, fun i => frozen_of_row _ _ _ _ _ h⟩
  all_goals (rw [cell_of_row _ _ _ _ _ _ h]; rfl)


theorem alloc3_0 (w : World) (a b c : Obj) : (((w.alloc a).alloc b).alloc c).heap[w.heap.size]? = some a := by
  rw [heap_alloc_if, if_neg (by simp; omega), heap_alloc_if, if_neg (by simp), heap_alloc_if, if_pos rfl]
theorem alloc3_1 (w : World) (a b c : Obj) : (((w.alloc a).alloc b).alloc c).heap[w.heap.size + 1]? = some b := by
  rw [heap_alloc_if, if_neg (by simp), heap_alloc_if, if_pos (by simp)]
theorem alloc3_2 (w : World) (a b c : Obj) : (((w.alloc a).alloc b).alloc c).heap[w.heap.size + 2]? = some c := by
  rw [heap_alloc_if, if_pos (by simp)]
theorem alloc4_1 (w : World) (a b c d : Obj) : ((((w.alloc a).alloc b).alloc c).alloc d).heap[w.heap.size + 1]? = some b := by
  rw [heap_alloc_if, if_neg (by simp), alloc3_1]
abbrev Found.v (d : Found) : Value := .agg #[.int .i64 d.fKind, .int .i64 d.fLevel, .int .i64 d.fTable, .int .i64 d.fPlace, .int .i64 d.fFrame, .int .i64 d.fOrder, .int .i64 d.fFirst, .int .i64 d.fBase, .bool d.fWrite, .bool d.fExec, .bool d.fSeen]

theorem bv_split {n : Nat} (x y : BitVec n) : (x &&& y).toNat + (x &&& ~~~y).toNat = x.toNat := by
  have h : (x &&& y) &&& (x &&& ~~~y) = 0#n := by
    ext i hi
    simp
    intro _ h2 _
    exact h2
  have h2 : (x &&& y) ||| (x &&& ~~~y) = x := by
    ext i hi
    simp
    cases x[i] <;> cases y[i] <;> rfl
  rw [← BitVec.toNat_add_of_and_eq_zero h, BitVec.add_eq_or_of_and_eq_zero _ _ h, h2]
theorem i64_wraps (n : Int) (h0 : 0 ≤ n) (h1 : n < 2 ^ 63) : IntKind.i64.wrap n = n := by rw [IntKind.wrap_i64]; omega
theorem and_low_i64 (p : Int) (i : Nat) (hi : i ≤ 62) (h0 : 0 ≤ p) (h1 : p < 4096) : Go.bits .and .i64 p (2 ^ i - 1) = p % 2 ^ i ∧ Go.bits .andNot .i64 p (2 ^ i - 1) = p - p % 2 ^ i := by
  have e := bits_mask .i64 63 (by decide) i64_wraps i (by omega) p h0 (by omega)
  refine ⟨e, ?_⟩
  obtain ⟨p, rfl⟩ := Int.eq_ofNat_of_zero_le h0
  have hs := bv_split (BitVec.ofInt 64 (p : Int)) (BitVec.ofInt 64 ((2 : Int) ^ i - 1))
  have hp : (BitVec.ofInt 64 (p : Int)).toNat = p := by rw [BitVec.ofInt_natCast, BitVec.toNat_ofNat]; exact Nat.mod_eq_of_lt (by omega)
  have e1 : Go.bits .and .i64 (p : Int) (2 ^ i - 1) = IntKind.i64.wrap ((BitVec.ofInt 64 (p : Int) &&& BitVec.ofInt 64 ((2 : Int) ^ i - 1)).toNat : Int) := rfl
  have e2 : Go.bits .andNot .i64 (p : Int) (2 ^ i - 1) = IntKind.i64.wrap ((BitVec.ofInt 64 (p : Int) &&& ~~~(BitVec.ofInt 64 ((2 : Int) ^ i - 1))).toNat : Int) := rfl
  rw [hp] at hs
  generalize (BitVec.ofInt 64 (p : Int) &&& BitVec.ofInt 64 ((2 : Int) ^ i - 1)).toNat = u at *
  generalize (BitVec.ofInt 64 (p : Int) &&& ~~~(BitVec.ofInt 64 ((2 : Int) ^ i - 1))).toNat = v at *
  rw [i64_wraps _ (by omega) (by omega)] at e1 e2
  rw [e2, ← e, e1]
  omega
theorem and7 (p : Int) (h0 : 0 ≤ p) (h1 : p < 4096) : Go.bits .and .i64 p 7 = p % 8 ∧ Go.bits .andNot .i64 p 7 = p - p % 8 := and_low_i64 p 3 (by omega) h0 h1
theorem and3 (p : Int) (h0 : 0 ≤ p) (h1 : p < 4096) : Go.bits .and .i64 p 3 = p % 4 ∧ Go.bits .andNot .i64 p 3 = p - p % 4 := and_low_i64 p 2 (by omega) h0 h1
theorem and0 (p : Int) (h0 : 0 ≤ p) (h1 : p < 4096) : Go.bits .and .i64 p 0 = 0 ∧ Go.bits .andNot .i64 p 0 = p := by
  have h := and_low_i64 p 0 (by omega) h0 h1
  simp at h
  exact h

/-- How many pages something that is found is of, as an order. -/
def orderD (d : Desc) : Int := if d.fKind = 2 then 3 else if d.fFold then 2 else 0
set_option maxHeartbeats 400000 in
theorem walk_order (w : World) (d : Desc) : Calls Try.prog 183 #[d.v] w fun e w' => e = .returned (.int .i64 (orderD d)) ∧ w' = w.alloc (.cells #[.int .i64 d.fKind, .int .i64 d.fFrame, .bool d.fWrite, .bool d.fExec, .bool d.fSeen, .bool d.fFold, .int .i64 d.fSoft] 128) := by
  obtain ⟨k, f, wr, ex, se, fo, so⟩ := d
  by_cases hk : k = 2
  · subst hk
    go_enter Try.func183, Try.ntmps183
    go_wp2_with fail
    go_ret
    exact ⟨rfl, rfl⟩
  · have hk' : (k == 2) = false := by simpa using hk
    have hv : orderD ⟨k, f, wr, ex, se, fo, so⟩ = if fo then 2 else 0 := by simp [orderD, hk]
    have HV := Lib.hid hv
    clear hv hk
    cases fo
    all_goals
      go_enter Try.func183, Try.ntmps183
      go_wp2_with fail
      go_ret
      exact ⟨by rw [HV.out]; rfl, rfl⟩

/-- What a walk of a page finds, where it ends at something. -/
def foundD (d : Desc) (level table place page : Int) : Found :=
  if d.fKind = 2 then ⟨2, level, table, place, d.fFrame + page % 8, 3, page - page % 8, d.fFrame, d.fWrite, d.fExec, d.fSeen⟩
  else if d.fKind = 3 then (if d.fFold then ⟨3, level, table, place, d.fFrame, 2, page - page % 4, d.fFrame - page % 4, d.fWrite, d.fExec, d.fSeen⟩ else ⟨3, level, table, place, d.fFrame, 0, page, d.fFrame, d.fWrite, d.fExec, d.fSeen⟩)
  else ⟨d.fKind, level, table, place, 0, 0, 0, 0, false, false, false⟩

set_option maxHeartbeats 1000000 in
theorem walk_found_none (w : World) (d : Desc) (level table place page : Int) (h2 : d.fKind ≠ 2) (h3 : d.fKind ≠ 3) :
    Calls Try.prog 134 #[d.v, .int .i64 level, .int .i64 table, .int .i64 place, .int .i64 page] w fun e w' => e = .returned (foundD d level table place page).v ∧ w.grownBy w' none := by
  obtain ⟨k, f, wr, ex, se, fo, so⟩ := d
  dsimp only at h2 h3
  have k2 : (k != 2) = true := by simpa using h2
  have k3 : (k != 3) = true := by simpa using h3
  have hv : foundD ⟨k, f, wr, ex, se, fo, so⟩ level table place page = ⟨k, level, table, place, 0, 0, 0, 0, false, false, false⟩ := by simp [foundD, h2, h3]
  have HV := Lib.hid hv
  clear hv h2 h3
  go_enter Try.func134, Try.ntmps134
  go_wp2_with fail
  refine bodyPost_ret (results_cell_row rfl _ _ (w.heap.size + 1) 53 _ (0, 0) _ rfl ?_ Try.underlying53 rfl (by kernel_rfl)) rfl ⟨by rw [HV.out], ?_⟩
  · exact alloc3_1 _ _ _ _
  · repeat (first | exact grow_refl _ _ | refine grow_alloc ?_ _)

set_option maxHeartbeats 2000000 in
theorem walk_found_some (w : World) (d : Desc) (level table place page : Int) (hp0 : 0 ≤ page) (hp1 : page < 4096) (hf0 : 0 ≤ d.fFrame) (hf1 : d.fFrame < 512) (hk : d.fKind = 2 ∨ d.fKind = 3) :
    Calls Try.prog 134 #[d.v, .int .i64 level, .int .i64 table, .int .i64 place, .int .i64 page] w fun e w' => e = .returned (foundD d level table place page).v ∧ w.grownBy w' none := by
  obtain ⟨k, f, wr, ex, se, fo, so⟩ := d
  dsimp only at hk hf0 hf1
  have q7 := and7 page hp0 hp1
  have q3 := and3 page hp0 hp1
  have q0 := and0 page hp0 hp1
  have Q7 := Lib.hid q7
  have Q3 := Lib.hid q3
  have Q0 := Lib.hid q0
  clear q7 q3 q0
  rcases hk with rfl | rfl
  · have hv : orderD ⟨2, f, wr, ex, se, fo, so⟩ = 3 := rfl
    have HV := Lib.hid hv
    clear hv
    go_enter Try.func134, Try.ntmps134
    go_wp2_with fail
    refine (walk_order _ ⟨2, f, wr, ex, se, fo, so⟩).mono ?_
    rintro e w1 ⟨rfl, rfl⟩
    rw [HV.out]
    go_wp2_with fail
    go_region
    go_wp2_with fail
    go_region
    go_wp2_with fail
    refine bodyPost_ret (results_cell_row rfl _ _ (w.heap.size + 1) 53 _ (0, 0) _ rfl (alloc4_1 _ _ _ _ _) Try.underlying53 rfl (by kernel_rfl)) rfl ⟨?_, ?_⟩
    · rw [Q7.out.1, Q7.out.2]
      have e1 : wrap64 (f + page % 8) = f + page % 8 := by unfold wrap64; omega
      have e2 : wrap64 (f + page % 8 - page % 8) = f := by unfold wrap64; omega
      rw [e1, e2]
      rfl
    · repeat (first | exact grow_refl _ _ | refine grow_alloc ?_ _ | refine grow_drewN ?_ _ | refine grow_drew ?_)
  · cases fo
    · have hv : orderD ⟨3, f, wr, ex, se, false, so⟩ = 0 := rfl
      have HV := Lib.hid hv
      clear hv
      go_enter Try.func134, Try.ntmps134
      go_wp2_with fail
      refine (walk_order _ ⟨3, f, wr, ex, se, false, so⟩).mono ?_
      rintro e w1 ⟨rfl, rfl⟩
      rw [HV.out]
      go_wp2_with fail
      go_region
      go_wp2_with fail
      go_region
      go_wp2_with fail
      refine bodyPost_ret (results_cell_row rfl _ _ (w.heap.size + 1) 53 _ (0, 0) _ rfl (alloc4_1 _ _ _ _ _) Try.underlying53 rfl (by kernel_rfl)) rfl ⟨?_, ?_⟩
      · rw [Q0.out.1, Q0.out.2]
        have e1 : wrap64 (f - 0) = f := by unfold wrap64; omega
        rw [e1]
        rfl
      · repeat (first | exact grow_refl _ _ | refine grow_alloc ?_ _ | refine grow_drewN ?_ _ | refine grow_drew ?_)
    · have hv : orderD ⟨3, f, wr, ex, se, true, so⟩ = 2 := rfl
      have HV := Lib.hid hv
      clear hv
      go_enter Try.func134, Try.ntmps134
      go_wp2_with fail
      refine (walk_order _ ⟨3, f, wr, ex, se, true, so⟩).mono ?_
      rintro e w1 ⟨rfl, rfl⟩
      rw [HV.out]
      go_wp2_with fail
      go_region
      go_wp2_with fail
      go_region
      go_wp2_with fail
      refine bodyPost_ret (results_cell_row rfl _ _ (w.heap.size + 1) 53 _ (0, 0) _ rfl (alloc4_1 _ _ _ _ _) Try.underlying53 rfl (by kernel_rfl)) rfl ⟨?_, ?_⟩
      · rw [Q3.out.1, Q3.out.2]
        have e1 : wrap64 (f - page % 4) = f - page % 4 := by unfold wrap64; omega
        rw [e1]
        rfl
      · repeat (first | exact grow_refl _ _ | refine grow_alloc ?_ _ | refine grow_drewN ?_ _ | refine grow_drew ?_)

end Go.Proofs.Ythcdecgecabgaaa
