import Derived.Test.YthcdecgecabgaaaBits
/- The contracts of the Go package pte. -/
namespace Go.Proofs.Ythcdecgecabgaaa
open Go.RowKit
set_option linter.unusedVariables false
set_option linter.unusedSimpArgs false

abbrev Desc.v (d : Desc) : Value := .agg #[.int .i64 d.fKind, .int .i64 d.fFrame, .bool d.fWrite, .bool d.fExec, .bool d.fSeen, .bool d.fFold, .int .i64 d.fSoft]

theorem ret_bool' {a b : Bool} (h : a = b) : Ending.returned (.bool a) = .returned (.bool b) := by rw [h]
set_option maxHeartbeats 1000000 in
theorem pte_may (w : World) (level : Int) (k f : Int) (wr ex se fo : Bool) (so : Int) (hf0 : 0 ≤ f) (hf1 : f < 512) :
    Calls Try.prog 147 #[.int .i64 level, .agg #[.int .i64 k, .int .i64 f, .bool wr, .bool ex, .bool se, .bool fo, .int .i64 so]] w fun e w' => e = .returned (.bool (mayD level ⟨k, f, wr, ex, se, fo, so⟩)) ∧ w.grownBy w' none := by
  by_cases h0 : k = 0
  · subst h0
    go_enter Try.func147, Try.ntmps147
    go_wp2_with fail
    all_goals
      go_ret
      refine ⟨ret_bool' ?_, grow_alloc (grow_refl _ _) _⟩
      simp_all [mayD, noneD, tableD]
      try (intros; omega)
  by_cases h1 : k = 1
  · subst h1
    clear h0
    go_enter Try.func147, Try.ntmps147
    go_wp2_with fail
    all_goals
      go_ret
      refine ⟨ret_bool' ?_, grow_alloc (grow_refl _ _) _⟩
      simp_all [mayD, noneD, tableD]
      try (intros; omega)
  by_cases h2 : k = 2
  · subst h2
    clear h0 h1
    go_enter Try.func147, Try.ntmps147
    go_wp2_with fail
    all_goals
      go_ret
      refine ⟨ret_bool' ?_, grow_alloc (grow_refl _ _) _⟩
      simp_all [mayD, noneD, tableD]
      try (intros; omega)
  by_cases h3 : k = 3
  · subst h3
    clear h0 h1 h2
    go_enter Try.func147, Try.ntmps147
    go_wp2_with fail
    all_goals
      go_ret
      refine ⟨ret_bool' ?_, grow_alloc (grow_refl _ _) _⟩
      simp_all [mayD, noneD, tableD]
      try (intros; omega)
  by_cases h4 : k = 4
  · subst h4
    clear h0 h1 h2 h3
    go_enter Try.func147, Try.ntmps147
    go_wp2_with fail
    all_goals
      go_ret
      refine ⟨ret_bool' ?_, grow_alloc (grow_refl _ _) _⟩
      simp_all [mayD, noneD, tableD]
      try (intros; omega)
  · have b0 : (k == 0) = false := by simpa using h0
    have b1 : (k == 1) = false := by simpa using h1
    have b2 : (k == 2) = false := by simpa using h2
    have b3 : (k == 3) = false := by simpa using h3
    have b4 : (k == 4) = false := by simpa using h4
    have HM : mayD level ⟨k, f, wr, ex, se, fo, so⟩ = false := by simp [mayD, h0, h1, h2, h3, h4]
    have HH := Lib.hid HM
    clear HM h0 h1 h2 h3 h4
    go_enter Try.func147, Try.ntmps147
    go_wp2_with fail
    go_ret
    exact ⟨ret_bool' HH.out.symm, grow_alloc (grow_refl _ _) _⟩

theorem box_kept {w w1 : World} {cs : Array Value} {T : TypeId} (hg : (w.alloc (.cells cs T)).grownBy w1 none) : ∀ j u, cs[j]? = some u → w1.cell? ⟨w.heap.size, j, none⟩ = some u := by
  intro j u hu
  have h : w1.heap[w.heap.size]? = some (.cells cs T) := by rw [hg.block _ (by simp) (by simp)]; exact heap_alloc_new _ _
  rw [cell_of_row w1 _ j _ _ _ h]; exact hu
/-- A word with a bit, if so. -/
def wth (x b : Int) (s : Bool) : Int := if s then Go.bits .or .u64 x b else x
set_option maxHeartbeats 400000 in
theorem pte_with (w : World) (x b : Int) (s : Bool) :
    Calls Try.prog 148 #[.int .u64 x, .int .u64 b, .bool s] w fun e w' => e = .returned (.int .u64 (wth x b s)) ∧ w' = w := by
  cases s
  all_goals
    go_enter Try.func148, Try.ntmps148
    go_wp2
    go_ret
    exact ⟨rfl, rfl⟩

theorem wth_bit (x : Int) (k : Nat) (s : Bool) (b : Int) (hb : b = 2 ^ k) (hk : k < 64) (h0 : 0 ≤ x) (h1 : x < 18446744073709551616) (h : x / 2 ^ k % 2 = 0) : wth x b s = x + (if s then 2 ^ k else 0) := by
  subst hb
  unfold wth
  cases s
  · simp
  · simp only [if_true]; exact or_bit x k hk h0 h1 h

/-- The word of a page, a block, or of what is on the way, out of its parts. -/
theorem enc_val (f so base : Int) (wr ex se fo : Bool) (hf0 : 0 ≤ f) (hf1 : f < 512) (hs0 : 0 ≤ so) (hs1 : so ≤ 7) (hb : base = 67 ∨ base = 65 ∨ base = 10) :
    wth (wth (wth (wth (Go.bits .or .u64 (Go.bits .or .u64 (f * 4096) base) (so * 36028797018963968)) 128 (!wr)) 18014398509481984 (!ex)) 1024 se) 4503599627370496 fo =
      f * 4096 + base + so * 36028797018963968 + (if wr then 0 else 128) + (if ex then 0 else 18014398509481984) + (if se then 1024 else 0) + (if fo then 4503599627370496 else 0) := by
  have e1 : Go.bits .or .u64 (f * 4096) base = f * 4096 + base := by
    obtain ⟨f, rfl⟩ := Int.eq_ofNat_of_zero_le hf0
    have hb0 : 0 ≤ base := by omega
    obtain ⟨b, rfl⟩ := Int.eq_ofNat_of_zero_le hb0
    have e : ((f : Int) * 4096) = ((4096 * f : Nat) : Int) := by simp; omega
    rw [e, bits_or_u64_nat (4096 * f) b (by omega) (by omega)]
    have := Nat.two_pow_add_eq_or_of_lt (i := 12) (b := b) (by omega) f
    rw [show (2 : Nat) ^ 12 = 4096 from rfl] at this
    rw [← this]; simp
  have e2 : Go.bits .or .u64 (f * 4096 + base) (so * 36028797018963968) = f * 4096 + base + so * 36028797018963968 :=
    or_high (f * 4096 + base) so 55 (by omega) (by omega) hs0 (by omega) (by omega)
  rw [e1, e2, wth_bit _ 7 _ 128 (by decide) (by omega) (by omega) (by omega) (by omega)]
  have c1 : (if (!wr) = true then (2 : Int) ^ 7 else 0) = (if wr then 0 else 128) := by cases wr <;> rfl
  rw [c1, wth_bit _ 54 _ 18014398509481984 (by decide) (by omega) (by split <;> omega) (by split <;> omega) (by split <;> omega)]
  have c2 : (if (!ex) = true then (2 : Int) ^ 54 else 0) = (if ex then 0 else 18014398509481984) := by cases ex <;> rfl
  rw [c2, wth_bit _ 10 _ 1024 (by decide) (by omega) (by split <;> split <;> omega) (by split <;> split <;> omega) (by split <;> split <;> omega)]
  have c3 : (if se = true then (2 : Int) ^ 10 else 0) = (if se then 1024 else 0) := by cases se <;> rfl
  rw [c3, wth_bit _ 52 _ 4503599627370496 (by decide) (by omega) (by split <;> split <;> split <;> omega) (by split <;> split <;> split <;> omega) (by split <;> split <;> split <;> omega)]
  have c4 : (if fo = true then (2 : Int) ^ 52 else 0) = (if fo then 4503599627370496 else 0) := by cases fo <;> rfl
  rw [c4]

set_option maxHeartbeats 1000000 in
theorem pte_Encode_no (w : World) (level : Int) (d : Desc) (h : okD level d = false) :
    Calls Try.prog 112 #[.int .i64 level, d.v] w fun e w' => e = .returned (.tuple #[.int .u64 0, errW 1]) ∧ w.grownBy w' none := by
  obtain ⟨k, f, wr, ex, se, fo, so⟩ := d
  by_cases hn : 0 ≤ level ∧ level ≤ 3 ∧ 0 ≤ f ∧ f < 512 ∧ 0 ≤ so ∧ so ≤ 7
  · obtain ⟨h0, h1, h2, h3, h4, h5⟩ := hn
    have hm : mayD level ⟨k, f, wr, ex, se, fo, so⟩ = false := by simpa [okD, h0, h1, h2, h3, h4, h5] using h
    have HM := Lib.hid hm
    clear hm h
    go_enter Try.func112, Try.ntmps112
    go_wp2_with fail
    refine (pte_may _ level k f wr ex se fo so h2 h3).mono ?_
    rintro e w1 ⟨rfl, hg⟩
    rw [HM.out]
    go_wp2_with fail
    go_ret2
    exact ⟨rfl, grow_trans (World.grownBy_alloc _ _ _) hg⟩
  · have HN := Lib.hid hn
    clear h hn
    by_cases h0 : level < 0
    · go_enter Try.func112, Try.ntmps112
      go_wp2_with fail
      go_ret2
      exact ⟨rfl, World.grownBy_alloc _ _ _⟩
    · by_cases h1 : 3 < level
      · go_enter Try.func112, Try.ntmps112
        go_wp2_with fail
        go_ret2
        exact ⟨rfl, World.grownBy_alloc _ _ _⟩
      · by_cases h2 : f < 0
        · go_enter Try.func112, Try.ntmps112
          go_wp2_with fail
          go_ret2
          exact ⟨rfl, World.grownBy_alloc _ _ _⟩
        · by_cases h3 : 512 ≤ f
          · go_enter Try.func112, Try.ntmps112
            go_wp2_with fail
            go_ret2
            exact ⟨rfl, World.grownBy_alloc _ _ _⟩
          · by_cases h4 : so < 0
            · go_enter Try.func112, Try.ntmps112
              go_wp2_with fail
              go_ret2
              exact ⟨rfl, World.grownBy_alloc _ _ _⟩
            · have h5 : 7 < so := by have := HN.out; omega
              go_enter Try.func112, Try.ntmps112
              go_wp2_with fail
              go_ret2
              exact ⟨rfl, World.grownBy_alloc _ _ _⟩

theorem table_val (f : Int) {wr ex se fo : Bool} {so : Int} (hf0 : 0 ≤ f) (hf1 : f < 512) : encW ⟨1, f, wr, ex, se, fo, so⟩ = Go.bits .or .u64 (Go.bits .or .u64 (f * 4096) 1) 2 := by
  have e1 : Go.bits .or .u64 (f * 4096) 1 = f * 4096 + 1 := or_bit (f * 4096) 0 (by omega) (by omega) (by omega) (by omega)
  have e2 : Go.bits .or .u64 (f * 4096 + 1) 2 = f * 4096 + 1 + 2 := or_bit (f * 4096 + 1) 1 (by omega) (by omega) (by omega) (by omega)
  rw [e1, e2]
  simp [encW]
  omega

set_option maxHeartbeats 2000000 in
theorem pte_Encode_yes (w : World) (level : Int) (d : Desc) (h : okD level d = true) :
    Calls Try.prog 112 #[.int .i64 level, d.v] w fun e w' => e = .returned (.tuple #[.int .u64 (encW d), .nilIface]) ∧ w.grownBy w' none := by
  obtain ⟨k, f, wr, ex, se, fo, so⟩ := d
  simp only [okD, Bool.and_eq_true, decide_eq_true_eq] at h
  obtain ⟨⟨⟨⟨⟨⟨h0, h1⟩, h2⟩, h3⟩, h4⟩, h5⟩, hm⟩ := h
  have hk : k = 0 ∨ k = 1 ∨ k = 2 ∨ k = 3 ∨ k = 4 := by
    by_cases a0 : k = 0
    · omega
    by_cases a1 : k = 1
    · omega
    by_cases a2 : k = 2
    · omega
    by_cases a3 : k = 3
    · omega
    by_cases a4 : k = 4
    · omega
    simp [mayD, a0, a1, a2, a3, a4] at hm
  have HM := Lib.hid hm
  clear hm
  rcases hk with rfl | rfl | rfl | rfl | rfl
  · have HV := Lib.hid (show encW ⟨0, f, wr, ex, se, fo, so⟩ = 0 from rfl)
    go_enter Try.func112, Try.ntmps112
    go_wp2_with fail
    refine (pte_may _ level 0 f wr ex se fo so h2 h3).mono ?_
    rintro e w1 ⟨rfl, hg⟩
    rw [HM.out]
    have G := grow_trans (World.grownBy_alloc w _ none) hg
    have x0 := box_kept hg 0 _ rfl
    have x1 := box_kept hg 1 _ rfl
    have x2 := box_kept hg 2 _ rfl
    have x3 := box_kept hg 3 _ rfl
    have x4 := box_kept hg 4 _ rfl
    have x5 := box_kept hg 5 _ rfl
    have x6 := box_kept hg 6 _ rfl
    clear hg
    go_wp2_with fail
    go_ret2
    exact ⟨by rw [HV.out]; rfl, G⟩
  · have HV := Lib.hid (show encW ⟨1, f, wr, ex, se, fo, so⟩ = Go.bits .or .u64 (Go.bits .or .u64 (f * 4096) 1) 2 from table_val f h2 h3)
    go_enter Try.func112, Try.ntmps112
    go_wp2_with fail
    refine (pte_may _ level 1 f wr ex se fo so h2 h3).mono ?_
    rintro e w1 ⟨rfl, hg⟩
    rw [HM.out]
    have G := grow_trans (World.grownBy_alloc w _ none) hg
    have x0 := box_kept hg 0 _ rfl
    have x1 := box_kept hg 1 _ rfl
    have x2 := box_kept hg 2 _ rfl
    have x3 := box_kept hg 3 _ rfl
    have x4 := box_kept hg 4 _ rfl
    have x5 := box_kept hg 5 _ rfl
    have x6 := box_kept hg 6 _ rfl
    clear hg
    go_wp2_with fail
    go_ret2
    refine ⟨?_, G⟩
    rw [HV.out]
    rfl
  · have HV := Lib.hid (show encW ⟨2, f, wr, ex, se, fo, so⟩ = f * 4096 + 65 + so * 36028797018963968 + (if wr then 0 else 128) + (if ex then 0 else 18014398509481984) + (if se then 1024 else 0) + (if fo then 4503599627370496 else 0) from by simp [encW])
    go_enter Try.func112, Try.ntmps112
    go_wp2_with fail
    refine (pte_may _ level 2 f wr ex se fo so h2 h3).mono ?_
    rintro e w1 ⟨rfl, hg⟩
    rw [HM.out]
    have G := grow_trans (World.grownBy_alloc w _ none) hg
    have x0 := box_kept hg 0 _ rfl
    have x1 := box_kept hg 1 _ rfl
    have x2 := box_kept hg 2 _ rfl
    have x3 := box_kept hg 3 _ rfl
    have x4 := box_kept hg 4 _ rfl
    have x5 := box_kept hg 5 _ rfl
    have x6 := box_kept hg 6 _ rfl
    clear hg
    go_wp2_with fail
    go_quiet ((go_at_call 148; exact Calls.quiet_of_same (pte_with _ _ _ _)))
    go_wp2_with fail
    go_quiet ((go_at_call 148; first | exact quiet_add_same (pte_with _ _ _ _) | exact Calls.quiet_of_same (pte_with _ _ _ _)))
    go_wp2_with fail
    go_ret2
    refine ⟨?_, by repeat (first | exact G | refine grow_drewN ?_ _ | refine grow_drew ?_)⟩
    rw [HV.out, ← enc_val f so 65 wr ex se fo h2 h3 h4 h5 (by omega)]
    rfl
  · have HV := Lib.hid (show encW ⟨3, f, wr, ex, se, fo, so⟩ = f * 4096 + 67 + so * 36028797018963968 + (if wr then 0 else 128) + (if ex then 0 else 18014398509481984) + (if se then 1024 else 0) + (if fo then 4503599627370496 else 0) from by simp [encW])
    go_enter Try.func112, Try.ntmps112
    go_wp2_with fail
    refine (pte_may _ level 3 f wr ex se fo so h2 h3).mono ?_
    rintro e w1 ⟨rfl, hg⟩
    rw [HM.out]
    have G := grow_trans (World.grownBy_alloc w _ none) hg
    have x0 := box_kept hg 0 _ rfl
    have x1 := box_kept hg 1 _ rfl
    have x2 := box_kept hg 2 _ rfl
    have x3 := box_kept hg 3 _ rfl
    have x4 := box_kept hg 4 _ rfl
    have x5 := box_kept hg 5 _ rfl
    have x6 := box_kept hg 6 _ rfl
    clear hg
    go_wp2_with fail
    go_quiet ((go_at_call 148; exact Calls.quiet_of_same (pte_with _ _ _ _)))
    go_wp2_with fail
    go_quiet ((go_at_call 148; first | exact quiet_add_same (pte_with _ _ _ _) | exact Calls.quiet_of_same (pte_with _ _ _ _)))
    go_wp2_with fail
    go_ret2
    refine ⟨?_, by repeat (first | exact G | refine grow_drewN ?_ _ | refine grow_drew ?_)⟩
    rw [HV.out, ← enc_val f so 67 wr ex se fo h2 h3 h4 h5 (by omega)]
    rfl
  · have HV := Lib.hid (show encW ⟨4, f, wr, ex, se, fo, so⟩ = f * 4096 + 10 + so * 36028797018963968 + (if wr then 0 else 128) + (if ex then 0 else 18014398509481984) + (if se then 1024 else 0) + (if fo then 4503599627370496 else 0) from by simp [encW])
    go_enter Try.func112, Try.ntmps112
    go_wp2_with fail
    refine (pte_may _ level 4 f wr ex se fo so h2 h3).mono ?_
    rintro e w1 ⟨rfl, hg⟩
    rw [HM.out]
    have G := grow_trans (World.grownBy_alloc w _ none) hg
    have x0 := box_kept hg 0 _ rfl
    have x1 := box_kept hg 1 _ rfl
    have x2 := box_kept hg 2 _ rfl
    have x3 := box_kept hg 3 _ rfl
    have x4 := box_kept hg 4 _ rfl
    have x5 := box_kept hg 5 _ rfl
    have x6 := box_kept hg 6 _ rfl
    clear hg
    go_wp2_with fail
    go_quiet ((go_at_call 148; exact Calls.quiet_of_same (pte_with _ _ _ _)))
    go_wp2_with fail
    go_quiet ((go_at_call 148; first | exact quiet_add_same (pte_with _ _ _ _) | exact Calls.quiet_of_same (pte_with _ _ _ _)))
    go_wp2_with fail
    go_ret2
    refine ⟨?_, by repeat (first | exact G | refine grow_drewN ?_ _ | refine grow_drew ?_)⟩
    rw [HV.out, ← enc_val f so 10 wr ex se fo h2 h3 h4 h5 (by omega)]
    rfl

end Go.Proofs.Ythcdecgecabgaaa
