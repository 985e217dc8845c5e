/- The walk of the law PhysCopies. -/
import Derived.Test.YtmpgkgnbhjnelaaLawa
import Derived.Test.YtmpgkgnbhjnelaaOpen
namespace Go.Proofs.Ytmpgkgnbhjnelaa
open Go.RowKit

/-- Which of n things a raw number speaks of. -/
def pickN (c n : Int) : Int := (if c < 0 then -(c + 1) else c) % n
theorem pickN_lo (c n : Int) (h : 0 < n) : 0 ≤ pickN c n := Int.emod_nonneg _ (by omega)
theorem pickN_hi (c n : Int) (h : 0 < n) : pickN c n < n := Int.emod_lt_of_pos _ h

set_option maxHeartbeats 400000 in
theorem law03_pick (w : World) (c n : Int) (hc : (Lit.int .i64 c).wf = true) (hn : 1 ≤ n) (hn' : n ≤ 1000) :
    Calls Try.prog 19 #[.int .i64 c, .int .i64 n] w fun e w' => e = .returned (.int .i64 (pickN c n)) ∧ w' = w := by
  have h1 := i64_lo hc
  have h2 := i64_hi hc
  clear hc
  unfold pickN
  by_cases h : c < 0
  · have h3 : 0 ≤ -(c + 1) := by omega
    rw [if_pos h, ← Int.tmod_eq_emod_of_nonneg h3, Int.neg_tmod]
    go_enter Try.func19, Try.ntmps19
    go_wp2
    go_ret
    exact ⟨rfl, rfl⟩
  · have h3 : 0 ≤ c := by omega
    rw [if_neg h]
    go_enter Try.func19, Try.ntmps19
    go_wp2
    go_ret
    exact ⟨rfl, rfl⟩

theorem drewN_grow (w : World) (m : Nat) : w.grownBy (w.drewN m) none := grow_drewN (grow_refl _ _) m

theorem copyW_len (ws : List Int) (t f : Nat) : (copyW ws t f).length = ws.length := by simp [copyW]
theorem getD_set (ws : List Int) (i j : Nat) (x : Int) : (ws.set i x).getD j 0 = if i = j ∧ i < ws.length then x else ws.getD j 0 := by
  simp only [List.getD, List.getElem?_set]
  by_cases h : i = j
  · subst h
    by_cases h2 : i < ws.length <;> simp [h2]
  · simp [h]
theorem copyW_in (ws : List Int) (t f i : Nat) (hi : i < 8) (h : t * 8 + 8 ≤ ws.length) : (copyW ws t f).getD (t * 8 + i) 0 = ws.getD (f * 8 + i) 0 := by
  unfold copyW
  simp only [getD_set, List.length_set]
  match i, hi with
  | 0, _ => simp; omega
  | 1, _ => simp; omega
  | 2, _ => simp; omega
  | 3, _ => simp; omega
  | 4, _ => simp; omega
  | 5, _ => simp; omega
  | 6, _ => simp; omega
  | 7, _ => simp; omega
theorem copyW_out (ws : List Int) (t f j : Nat) (h : j < t * 8 ∨ t * 8 + 8 ≤ j) : (copyW ws t f).getD j 0 = ws.getD j 0 := by
  unfold copyW
  repeat (rw [getD_set, if_neg (by omega)])

theorem ext_getD (xs ys : List Int) (hl : xs.length = ys.length) (h : ∀ j, j < xs.length → xs.getD j 0 = ys.getD j 0) : xs = ys := by
  apply List.ext_getElem hl
  intro j h1 h2
  have := h j h1
  simpa [List.getD, List.getElem?_eq_getElem h1, List.getElem?_eq_getElem h2] using this
theorem one_word (A I j : Nat) (v : Int) : ((List.replicate 32 (0 : Int)).set (A * 8 + I) v).getD j 0 = if A * 8 + I = j ∧ A * 8 + I < 32 then v else 0 := by
  rw [getD_set, List.length_replicate, getD_replicate0]
theorem copies_val (A B I : Nat) (v x : Int) (hA : A < 4) (hB : B < 4) (hI : I < 8) (hne : A ≠ B) :
    ((copyW ((List.replicate 32 (0 : Int)).set (A * 8 + I) v) B A).set (A * 8 + I) x).getD (B * 8 + I) 0 = v := by
  rw [getD_set, if_neg (by omega), copyW_in _ _ _ _ hI (by simp; omega), one_word, if_pos (by omega)]
theorem copies_same (A B I : Nat) (v x : Int) (hA : A < 4) (hB : B < 4) (hI : I < 8) :
    (copyW ((List.replicate 32 (0 : Int)).set (A * 8 + I) v) B A).set (A * 8 + I) x = (List.replicate 32 (0 : Int)).set (A * 8 + I) v ↔ v = x ∧ (A = B ∨ v = 0) := by
  constructor
  · intro h
    have h1 := congrArg (fun l => l.getD (A * 8 + I) 0) h
    simp only [getD_set, copyW_len, List.length_set, List.length_replicate, true_and, if_pos (show A * 8 + I < 32 by omega)] at h1
    refine ⟨h1.symm, ?_⟩
    by_cases e : A = B
    · exact .inl e
    · right
      have h2 := congrArg (fun l => l.getD (B * 8 + I) 0) h
      rw [copies_val A B I v x hA hB hI e, one_word, if_neg (by omega)] at h2
      exact h2
  · rintro ⟨rfl, h⟩
    apply ext_getD
    · simp [copyW_len]
    · intro j hj
      have hj : j < 32 := by simpa [copyW_len] using hj
      rw [getD_set, copyW_len, List.length_set, List.length_replicate]
      by_cases hb : B * 8 ≤ j ∧ j < B * 8 + 8
      · obtain ⟨q, hq, rfl⟩ : ∃ q, q < 8 ∧ j = B * 8 + q := ⟨j - B * 8, by omega, by omega⟩
        rw [copyW_in _ _ _ _ hq (by simp; omega), one_word, one_word]
        rcases h with rfl | rfl
        · split <;> simp_all
        · simp
      · rw [copyW_out _ _ _ _ (by omega), one_word]
        split <;> simp_all

set_option maxRecDepth 100000 in
set_option maxHeartbeats 2000000 in
theorem law03_PhysCopies (w : World) (a : Int) (ha : (Lit.int .i64 a).wf = true) (b : Int) (hb : (Lit.int .i64 b).wf = true) (i : Int) (hi : (Lit.int .i64 i).wf = true) (v : Int) (_ : (Lit.int .u64 v).wf = true) (x : Int) (_ : (Lit.int .u64 x).wf = true) :
    Calls Try.prog 6 #[.int .i64 a, .int .i64 b, .int .i64 i, .int .u64 v, .int .u64 x] w fun e w' => e = .returned (.bool true) ∧ w.grownBy w' none := by
  have he := fun w a b => eql_err w a b
  have HA := Lib.hid ha
  have HB := Lib.hid hb
  have HI := Lib.hid hi
  clear ha hb hi
  go_enter Try.func6, Try.ntmps6
  go_wp2_with fail
  refine (law03_up _).mono ?_
  rintro e w0 ⟨rfl, G0⟩
  go_wp2_with fail
  refine (phys_New_int _ 4 (by omega) (by omega)).mono ?_
  rintro e w1 ⟨mb, mg, rfl, hm, hg1, hmb, hmg⟩
  have hm : MemAt w1 mb mg 4 4 (List.replicate 32 0) := hm
  generalize hz : List.replicate 32 (0 : Int) = Z at hm
  have HZ := Lib.hid hz
  clear hz
  have G1 := grow_trans G0 hg1
  have s0 := G0.size
  clear hg1 G0
  go_wp2_with fail
  refine (law03_pick _ a 4 HA.out (by omega) (by omega)).mono ?_
  rintro e w2 ⟨rfl, rfl⟩
  go_wp2_with fail
  refine (law03_pick _ b 4 HB.out (by omega) (by omega)).mono ?_
  rintro e w2 ⟨rfl, rfl⟩
  go_wp2_with fail
  refine (law03_pick _ i 8 HI.out (by omega) (by omega)).mono ?_
  rintro e w2 ⟨rfl, rfl⟩
  have a1 := pickN_lo a 4 (by omega)
  have a2 := pickN_hi a 4 (by omega)
  have b1 := pickN_lo b 4 (by omega)
  have b2 := pickN_hi b 4 (by omega)
  have i1 := pickN_lo i 8 (by omega)
  have i2 := pickN_hi i 8 (by omega)
  generalize pickN a 4 = A at *
  generalize pickN b 4 = B at *
  generalize pickN i 8 = I at *
  clear HA HB HI
  obtain ⟨A, rfl⟩ := Int.eq_ofNat_of_zero_le a1
  obtain ⟨B, rfl⟩ := Int.eq_ofNat_of_zero_le b1
  obtain ⟨I, rfl⟩ := Int.eq_ofNat_of_zero_le i1
  go_wp2_with fail
  refine (phys_Store_yes _ hm A I v (by omega) (by omega)).mono ?_
  rintro e w3 ⟨rfl, hm3, hg3⟩
  generalize hz : Z.set (A * 8 + I) v = Z3 at hm3
  have HZ3 := Lib.hid hz
  clear hz
  have G3 := grow_new G1 hg3 (by omega)
  clear hg3 G1 hm
  go_wp2_with fail
  refine (phys_Clone _ hm3).mono ?_
  rintro e w4 ⟨cb, cg, cc, rfl, hc4, hg4, hcb, hcg⟩
  have hm4 := hm3.kept0 hg4
  have G4 := grow_trans G3 hg4
  have l1 := hm3.ltb
  have l2 := hm3.ltg
  have s3 := G3.size
  clear hg4 G3 hm3
  go_wp2_with fail
  refine (phys_Same _ hm4 hc4).mono ?_
  rintro e w5 ⟨rfl, m5, rfl⟩
  have k5 := drewN_grow w4 m5
  go_wp2_with fail
  refine (phys_Same _ (hc4.kept0 k5) (hm4.kept0 k5)).mono ?_
  rintro e w6 ⟨rfl, m6, rfl⟩
  go_wp2_with fail
  refine (phys_Same_nil _).mono ?_
  rintro e w7 ⟨rfl, m7, rfl⟩
  have k7 := drewN_grow w4 (m5 + m6 + m7)
  have hm7 := hm4.kept0 k7
  have hc7 := hc4.kept0 k7
  have G7 := grow_trans G4 k7
  clear hm4 hc4 G4 k7 k5
  go_wp2_with fail
  refine (phys_Copy_yes _ hm7 B A (by omega) (by omega)).mono ?_
  rintro e w8 ⟨rfl, hm8, hg8⟩
  generalize hz : copyW Z3 B A = Z8 at hm8
  have HZ8 := Lib.hid hz
  clear hz
  have hc8 := hc7.kept hg8 (by simp; omega) (by simp; omega)
  have G8 := grow_new G7 hg8 (by omega)
  clear hm7 hc7 hg8 G7
  go_wp2_with fail
  refine (phys_Store_yes _ hm8 A I x (by omega) (by omega)).mono ?_
  rintro e w9 ⟨rfl, hm9, hg9⟩
  generalize hz : Z8.set (A * 8 + I) x = Z9 at hm9
  have HZ9 := Lib.hid hz
  clear hz
  have hc9 := hc8.kept hg9 (by simp; omega) (by simp; omega)
  have G9 := grow_new G8 hg9 (by omega)
  have n9 := hm8.len
  clear hm8 hc8 hg9 G8
  have hs := copies_same A B I v x (by omega) (by omega) (by omega)
  rw [HZ.out, HZ3.out, HZ8.out, HZ9.out] at hs
  have e1 : Z9.getD (A * 8 + I) 0 = x := by
    rw [← HZ9.out, getD_set, if_pos ⟨rfl, by omega⟩]
  have e3 : Z3.getD (A * 8 + I) 0 = v := by
    rw [← HZ3.out, ← HZ.out, getD_set, if_pos ⟨rfl, by simp; omega⟩]
  have HS := Lib.hid hs
  have E1 := Lib.hid e1
  have E3 := Lib.hid e3
  clear e1 e3 hs
  go_wp2_with fail
  refine (phys_Load_is _ hm9 A I x (by omega) (by omega) (by omega) (by omega) E1.out).mono ?_
  rintro e w10 ⟨rfl, rfl⟩
  have e2 : A = B ∨ Z9.getD (B * 8 + I) 0 = v := by
    by_cases hab : A = B
    · exact .inl hab
    · right
      have := copies_val A B I v x (by omega) (by omega) (by omega) hab
      rw [HZ.out, HZ3.out, HZ8.out, HZ9.out] at this
      exact this
  have E2 := Lib.hid e2
  clear e2
  have hne : ∀ q, Z3 ≠ List.replicate (Int.toNat 3 * 8) q := by
    intro q e
    have := congrArg List.length e
    rw [hc9.len] at this
    simp at this
  have hnd : decide (Z3 = List.replicate (Int.toNat 3 * 8) 0) = false := by simpa using hne 0
  have HN := Lib.hid hnd
  clear hnd hne
  go_wp2_with fail
  obtain ⟨y, hy, hyc⟩ : ∃ y, Z9.getD (B * 8 + I) 0 = y ∧ (A = B ∧ y = x ∨ A ≠ B ∧ y = v) := by
    by_cases hab : A = B
    · exact ⟨x, by subst hab; exact E1.out, .inl ⟨hab, rfl⟩⟩
    · exact ⟨v, E2.out.resolve_left hab, .inr ⟨hab, rfl⟩⟩
  refine (phys_Load_is _ hm9 B I y (by omega) (by omega) (by omega) (by omega) hy).mono ?_
  clear hy
  rintro e w10 ⟨rfl, rfl⟩
  have HY := Lib.hid hyc
  clear hyc
  go_wp2_with fail
  refine (phys_Load_is _ hc9 A I v (by omega) (by omega) (by omega) (by omega) E3.out).mono ?_
  rintro e w10 ⟨rfl, rfl⟩
  by_cases hvx : v = x
  · subst hvx
    have hyv : y = v := by rcases HY.out with ⟨_, h⟩ | ⟨_, h⟩ <;> exact h
    subst hyv
    by_cases hab : A = B
    · have HAB := Lib.hid hab
      have q1 : ((A : Int) == (B : Int)) = true := by simp; omega
      have q2 : ((A : Int) != (B : Int)) = false := by simp; omega
      have q3 : (A == B) = true := by simpa using hab
      clear hab
      have HD := Lib.hid (show decide (Z9 = Z3) = true from by simpa using (HS.out.2 ⟨rfl, .inl HAB.out⟩))
      go_wp2_with fail
      refine (phys_New_int _ 3 (by omega) (by omega)).mono ?_
      rintro e w11 ⟨sb, sg, rfl, hms, hg11, hsb, hsg⟩
      have hmA := hm9.kept0 hg11
      have hcA := hc9.kept0 hg11
      have GA := grow_trans G9 hg11
      clear hm9 hc9 G9 hg11
      go_wp2_with fail
      refine (phys_Same _ hmA hcA).mono ?_
      rintro e w12 ⟨rfl, m12, rfl⟩
      rw [HD.out]
      go_wp2_with fail
      refine (phys_Same _ (hcA.kept0 (drewN_grow _ m12)) (hms.kept0 (drewN_grow _ m12))).mono ?_
      rintro e w13 ⟨rfl, m13, rfl⟩
      rw [HN.out]
      go_wp2_with fail
      go_ret
      exact ⟨rfl, grow_drewN GA _⟩
    · have HAB := Lib.hid hab
      have q1 : ((A : Int) == (B : Int)) = false := by simp; omega
      have q2 : ((A : Int) != (B : Int)) = true := by simp; omega
      have q3 : (A == B) = false := by simpa using hab
      clear hab
      by_cases hv0 : y = 0
      · have v0 : (y == 0) = true := by simpa using hv0
        have HV := Lib.hid hv0
        clear hv0
        have HD := Lib.hid (show decide (Z9 = Z3) = true from by simpa using (HS.out.2 ⟨rfl, .inr HV.out⟩))
        go_wp2_with fail
        refine (phys_New_int _ 3 (by omega) (by omega)).mono ?_
        rintro e w11 ⟨sb, sg, rfl, hms, hg11, hsb, hsg⟩
        have hmA := hm9.kept0 hg11
        have hcA := hc9.kept0 hg11
        have GA := grow_trans G9 hg11
        clear hm9 hc9 G9 hg11
        go_wp2_with fail
        refine (phys_Same _ hmA hcA).mono ?_
        rintro e w12 ⟨rfl, m12, rfl⟩
        rw [HD.out]
        go_wp2_with fail
        refine (phys_Same _ (hcA.kept0 (drewN_grow _ m12)) (hms.kept0 (drewN_grow _ m12))).mono ?_
        rintro e w13 ⟨rfl, m13, rfl⟩
        rw [HN.out]
        go_wp2_with fail
        go_ret
        exact ⟨rfl, grow_drewN GA _⟩
      · have v0 : (y == 0) = false := by simpa using hv0
        have HV := Lib.hid hv0
        clear hv0
        have HD := Lib.hid (show decide (Z9 = Z3) = false from by simpa using (fun h => (HS.out.1 h).2.elim HAB.out HV.out))
        go_wp2_with fail
        refine (phys_New_int _ 3 (by omega) (by omega)).mono ?_
        rintro e w11 ⟨sb, sg, rfl, hms, hg11, hsb, hsg⟩
        have hmA := hm9.kept0 hg11
        have hcA := hc9.kept0 hg11
        have GA := grow_trans G9 hg11
        clear hm9 hc9 G9 hg11
        go_wp2_with fail
        refine (phys_Same _ hmA hcA).mono ?_
        rintro e w12 ⟨rfl, m12, rfl⟩
        rw [HD.out]
        go_wp2_with fail
        refine (phys_Same _ (hcA.kept0 (drewN_grow _ m12)) (hms.kept0 (drewN_grow _ m12))).mono ?_
        rintro e w13 ⟨rfl, m13, rfl⟩
        rw [HN.out]
        go_wp2_with fail
        go_ret
        exact ⟨rfl, grow_drewN GA _⟩
  · have vx : (v == x) = false := by simpa using hvx
    have HV := Lib.hid hvx
    clear hvx
    rcases HY.out with ⟨hab, hy⟩ | ⟨hab, hy⟩
    · subst hy
      have HAB := Lib.hid hab
      have q1 : ((A : Int) == (B : Int)) = true := by simp; omega
      have q2 : ((A : Int) != (B : Int)) = false := by simp; omega
      have q3 : (A == B) = true := by simpa using hab
      clear hab HY
      have HD := Lib.hid (show decide (Z9 = Z3) = false from by simpa using (fun h => HV.out (HS.out.1 h).1))
      go_wp2_with fail
      refine (phys_New_int _ 3 (by omega) (by omega)).mono ?_
      rintro e w11 ⟨sb, sg, rfl, hms, hg11, hsb, hsg⟩
      have hmA := hm9.kept0 hg11
      have hcA := hc9.kept0 hg11
      have GA := grow_trans G9 hg11
      clear hm9 hc9 G9 hg11
      go_wp2_with fail
      refine (phys_Same _ hmA hcA).mono ?_
      rintro e w12 ⟨rfl, m12, rfl⟩
      rw [HD.out]
      go_wp2_with fail
      refine (phys_Same _ (hcA.kept0 (drewN_grow _ m12)) (hms.kept0 (drewN_grow _ m12))).mono ?_
      rintro e w13 ⟨rfl, m13, rfl⟩
      rw [HN.out]
      go_wp2_with fail
      go_ret
      exact ⟨rfl, grow_drewN GA _⟩
    · subst hy
      have HAB := Lib.hid hab
      have q1 : ((A : Int) == (B : Int)) = false := by simp; omega
      have q2 : ((A : Int) != (B : Int)) = true := by simp; omega
      have q3 : (A == B) = false := by simpa using hab
      clear hab HY
      have HD := Lib.hid (show decide (Z9 = Z3) = false from by simpa using (fun h => HV.out (HS.out.1 h).1))
      go_wp2_with fail
      refine (phys_New_int _ 3 (by omega) (by omega)).mono ?_
      rintro e w11 ⟨sb, sg, rfl, hms, hg11, hsb, hsg⟩
      have hmA := hm9.kept0 hg11
      have hcA := hc9.kept0 hg11
      have GA := grow_trans G9 hg11
      clear hm9 hc9 G9 hg11
      go_wp2_with fail
      refine (phys_Same _ hmA hcA).mono ?_
      rintro e w12 ⟨rfl, m12, rfl⟩
      rw [HD.out]
      go_wp2_with fail
      refine (phys_Same _ (hcA.kept0 (drewN_grow _ m12)) (hms.kept0 (drewN_grow _ m12))).mono ?_
      rintro e w13 ⟨rfl, m13, rfl⟩
      rw [HN.out]
      go_wp2_with fail
      go_ret
      exact ⟨rfl, grow_drewN GA _⟩
end Go.Proofs.Ytmpgkgnbhjnelaa
