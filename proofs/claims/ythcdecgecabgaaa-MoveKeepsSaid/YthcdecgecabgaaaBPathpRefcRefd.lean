import Derived.Test.YthcdecgecabgaaaBStepsSamePart
import Derived.Test.YthcdecgecabgaaaTree
import Derived.Test.YthcdecgecabgaaaBRefbFoldpMore
import Derived.Test.YthcdecgecabgaaaBPtdFound
/- Plain laws on the steps that lay tables, and on those that take them away. -/
namespace Go.Proofs.Ythcdecgecabgaaa
open Go.RowKit
set_option linter.unusedVariables false
set_option linter.unusedSimpArgs false

/-- The first page that a place of a level leads to. -/
def firstP (page level : Int) : Int := page - page % spanL level
/-- The steps that lay fresh tables from a slot of a level on, and the slot behind them. -/
def pathS (asid page : Int) : Nat → Int → Int → List Int → List Step × (Int × Int)
  | _, tb, pl, [] => ([], (tb, pl))
  | l, tb, pl, f :: fs => (clearS f :: ⟨1, asid, l, tb, pl, firstP page l, f * 4096 + 3, 0, 0, 0⟩ :: (pathS asid page (l + 1) f (placeN (l + 1) page) fs).1, (pathS asid page (l + 1) f (placeN (l + 1) page) fs).2)
theorem pathS_len (asid page : Int) : ∀ (fs : List Int) (l : Nat) (tb pl : Int), (pathS asid page l tb pl fs).1.length = 2 * fs.length := by
  intro fs
  induction fs with
  | nil => intro l tb pl; rfl
  | cons f fs ih => intro l tb pl; simp only [pathS, List.length_cons, ih]; omega
theorem pathS_snoc (asid page : Int) (f : Int) : ∀ (fs : List Int) (l : Nat) (tb pl : Int), pathS asid page l tb pl (fs ++ [f]) =
    ((pathS asid page l tb pl fs).1 ++ [clearS f, ⟨1, asid, ((l + fs.length : Nat) : Int), (pathS asid page l tb pl fs).2.1, (pathS asid page l tb pl fs).2.2, firstP page ((l + fs.length : Nat) : Int), f * 4096 + 3, 0, 0, 0⟩], (f, placeN ((l + fs.length : Nat) + 1) page)) := by
  intro fs
  induction fs with
  | nil => intro l tb pl; simp [pathS]
  | cons x fs ih =>
    intro l tb pl
    have e : l + 1 + fs.length = l + (fs.length + 1) := by omega
    simp only [List.cons_append, pathS, ih, List.length_cons, e]
/-- Are all words of a table none, but for one? -/
def bareB (ws : List Int) (t but : Int) : Bool := (List.range 8).all fun i => decide ((i : Int) = but) || decide (ws.getD (t.toNat * 8 + i) 0 = 0)
/-- Prune's steps and tables: the way's slots from its end on. -/
def pruneS (ws : List Int) (asid page : Int) (way : List (Int × Int)) : Nat → Int → List Step × List Int
  | 0, _ => ([], [])
  | l + 1, but => if bareB ws (way.getD (l + 1) (0, 0)).1 but then
      (⟨1, asid, l, (way.getD l (0, 0)).1, (way.getD l (0, 0)).2, firstP page l, 0, 0, 0, 0⟩ :: ⟨3, asid, 0, 0, 0, 0, 0, 0, 0, 0⟩ :: ⟨6, 0, 0, (way.getD (l + 1) (0, 0)).1, 0, 0, 0, 0, 0, 0⟩ :: (pruneS ws asid page way l (way.getD l (0, 0)).2).1,
       (way.getD (l + 1) (0, 0)).1 :: (pruneS ws asid page way l (way.getD l (0, 0)).2).2)
    else ([], [])

end Go.Proofs.Ythcdecgecabgaaa

/- The contracts of the document's answers paviorref01 and paviorref02: bits, fields, what a word says. -/
namespace Go.Proofs.Ythcdecgecabgaaa
open Go.RowKit
set_option linter.unusedVariables false
set_option linter.unusedSimpArgs false
attribute [local go_sem] setCell_drewN alloc_drewN lt_moreE le_moreE lt_moreK le_moreK cell_more frozen_more set_more drew_more drewN_more

set_option maxHeartbeats 400000 in
theorem ref01_Bit (w : World) (x i : Nat) (hx : x < 18446744073709551616) (hi : i < 64) :
    Calls Try.prog 115 #[.int .u64 x, .int .i64 i] w fun e w' => e = .returned (.int .u64 ((x / 2 ^ i % 2 : Nat) : Int)) ∧ w' = w := by
  have hq1 : x / 2 ^ i ≤ x := Nat.div_le_self _ _
  have hq2 : ((x / 2 ^ i : Nat) : Int) = (x : Int) / 2 ^ i := by simp
  have hv := and_mask 1 (by omega) ((x : Int) / 2 ^ i) (Int.ediv_nonneg (by omega) (Int.pow_nonneg (by omega))) (by omega)
  have hm : min i 64 = i := Nat.min_eq_left (by omega)
  have HV := Lib.hid hv
  have HM := Lib.hid hm
  clear hv hm hq1 hq2
  go_enter Try.func115, Try.ntmps115
  go_wp2_with fail
  go_ret
  refine ⟨?_, rfl⟩
  have := HV.out
  simp at this ⊢
  exact this
theorem ref01_Bit_is (w : World) (x i : Int) (p k v : Nat) (hxp : x = p) (hik : i = k) (hv : p / 2 ^ k % 2 = v) (hx : p < 18446744073709551616) (hi : k < 64) :
    Calls Try.prog 115 #[.int .u64 x, .int .i64 i] w fun e w' => e = .returned (.int .u64 v) ∧ w' = w := by
  subst hxp hik hv
  exact ref01_Bit w p k hx hi

theorem pow_lt {a b : Nat} (h : a ≤ b) : 2 ^ a ≤ 2 ^ b := Nat.pow_le_pow_right (by omega) h

set_option maxHeartbeats 1000000 in
theorem ref01_Field (w : World) (x a n : Nat) (hx : x < 18446744073709551616) (hn : a + n ≤ 64) :
    Calls Try.prog 114 #[.int .u64 x, .int .i64 a, .int .i64 n] w fun e w' => e = .returned (.int .u64 ((x / 2 ^ a % 2 ^ n : Nat) : Int)) ∧ w' = w := by
  have hn64 : n ≤ 64 := by omega
  have ha64 : a ≤ 64 := by omega
  go_enter Try.func114, Try.ntmps114
  go_wp2_with fail
  go_loop [7, 8] (fun o i => ∃ (q v : Nat) (I : Int), q ≤ n ∧ Hid (I = (q : Int) - 1) ∧ i = .int .i64 I ∧ o = .int .u64 v ∧ Hid (v = x / 2 ^ (a + q) % 2 ^ (n - q))) (fun _ i => (intOf i + 1).toNat)
  case atStart => exact ⟨n, 0, _, by omega, rfl, rfl, rfl, by show _ = _; simp [Nat.mod_one]⟩
  case round =>
    obtain ⟨q, v, I, hj, HI, rfl, rfl, HV⟩ := hrel
    cases q with
    | zero =>
      obtain rfl : I = -1 := by have := HI.out; omega
      go_wp2_with fail
      go_ret
      refine ⟨?_, rfl⟩
      rw [HV.out]; simp
    | succ q =>
      obtain rfl : I = q := by have := HI.out; omega
      have hv : v < 2 ^ 63 := by
        have h1 := HV.out
        have h2 : v < 2 ^ (n - (q + 1)) := by rw [h1]; exact Nat.mod_lt _ (Nat.two_pow_pos _)
        have h3 := pow_lt (show n - (q + 1) ≤ 63 by omega)
        omega
      have hv' : (v : Int) < 9223372036854775808 := by have e : (2 : Nat) ^ 63 = 9223372036854775808 := by decide
                                                       omega
      obtain ⟨bt, hb⟩ : ∃ bt, x / 2 ^ (a + q) % 2 = bt := ⟨_, rfl⟩
      have hb1 : bt < 2 := by rw [← hb]; exact Nat.mod_lt _ (by omega)
      have HB := Lib.hid hb
      have hs : (v * 2 + bt) = x / 2 ^ (a + q) % 2 ^ (n - q) := by
        have := field_step x a n (n - (q + 1)) (by omega)
        rw [show n - 1 - (n - (q + 1)) = q by omega, show n - (n - (q + 1)) = q + 1 by omega, show n - (q + 1) + 1 = n - q by omega, ← HV.out, hb] at this
        exact this.symm
      have HS := Lib.hid hs
      clear hb hs hv
      go_wp2_with (go_at_call 115; refine (ref01_Bit_is _ _ _ x (a + q) bt rfl (by simp) HB.out hx (by omega)).mono ?_; rintro e w' ⟨rfl, rfl⟩)
      go_round
      case rel => exact ⟨q, v * 2 + bt, _, by omega, rfl, rfl, by go_num, HS⟩
      case measure => simp [intOf]

/-- Field a (of n bits) of a word, in which it is 0, is made v. -/
theorem ref01_Put (w : World) (x a n v : Nat) (hx : x < 18446744073709551616) (hn : a + n ≤ 64) (hv : v < 2 ^ n) (hf : x / 2 ^ a % 2 ^ n = 0) (hr : x + v * 2 ^ a < 18446744073709551616) :
    Calls Try.prog 120 #[.int .u64 x, .int .i64 a, .int .i64 n, .int .u64 v] w fun e w' => e = .returned (.int .u64 ((x + v * 2 ^ a : Nat) : Int)) ∧ w' = w := by
  have hv64 : v < 18446744073709551616 := by
    have h3 := pow_lt (show n ≤ 64 by omega)
    have e : (2 : Nat) ^ 64 = 18446744073709551616 := by decide
    omega
  have HB := Lib.hid (fun i => put_bits x a n v hf hv i)
  generalize hP : x + v * 2 ^ a = P at *
  clear hf hv hP
  go_enter Try.func120, Try.ntmps120
  go_wp2_with fail
  go_loop [9, 10, 11] (fun o i bb => ∃ (q z : Nat) (I : Int), q ≤ 64 ∧ Hid (I = (q : Int) - 1) ∧ i = .int .i64 I ∧ o = .int .u64 z ∧ Hid (z = P / 2 ^ q)) (fun _ i _ => (intOf i + 1).toNat)
  case atStart => exact ⟨64, 0, _, by omega, rfl, rfl, rfl, by show _ = _; have e : (2 : Nat) ^ 64 = 18446744073709551616 := by decide
                                                               rw [e]; omega⟩
  case round =>
    obtain ⟨q, z, I, hj, HI, rfl, rfl, HV⟩ := hrel
    cases q with
    | zero =>
      obtain rfl : I = -1 := by have := HI.out; omega
      go_wp2_with fail
      go_ret
      refine ⟨?_, rfl⟩
      rw [HV.out]; simp
    | succ q =>
      obtain rfl : I = q := by have := HI.out; omega
      have hz : P / 2 ^ q = z * 2 + P / 2 ^ q % 2 := by
        rw [HV.out, Nat.pow_succ, ← Nat.div_div_eq_div_mul]; omega
      have hz2 : (z : Int) < 9223372036854775808 := by
        have : P / 2 ^ q ≤ P := Nat.div_le_self _ _
        omega
      obtain ⟨bx, hb⟩ : ∃ bx, x / 2 ^ q % 2 = bx := ⟨_, rfl⟩
      have hb1 : bx < 2 := by rw [← hb]; exact Nat.mod_lt _ (by omega)
      have hP := HB.out q
      have HX := Lib.hid hb
      by_cases hin : a ≤ q ∧ q < a + n
      · obtain ⟨h1, h2⟩ := hin
        obtain ⟨bv, hv⟩ : ∃ bv, v / 2 ^ (q - a) % 2 = bv := ⟨_, rfl⟩
        have hv1 : bv < 2 := by rw [← hv]; exact Nat.mod_lt _ (by omega)
        rw [if_pos ⟨h1, h2⟩, hv] at hP
        rw [hP] at hz
        have HS := Lib.hid hz.symm
        have HW := Lib.hid hv
        have h3 : (q : Int) < (a : Int) + n := by omega
        clear hz hP hv hb
        go_wp2_with fail
        refine (ref01_Bit_is _ _ _ x q bx rfl rfl HX.out hx (by omega)).mono ?_
        rintro e w' ⟨rfl, rfl⟩
        go_wp2_with fail
        refine (ref01_Bit_is _ _ _ v (q - a) bv rfl (by omega) HW.out hv64 (by omega)).mono ?_
        rintro e w' ⟨rfl, rfl⟩
        go_wp2_with fail
        go_round
        case rel => exact ⟨q, z * 2 + bv, _, by omega, rfl, rfl, by go_num, HS⟩
        case measure => simp [intOf]
      · rw [if_neg hin, hb] at hP
        rw [hP] at hz
        have HS := Lib.hid hz.symm
        have h12 : q < a ∨ (a ≤ q ∧ decide ((q : Int) < (a : Int) + n) = false) := by simp; omega
        clear hz hP hb hin
        rcases h12 with h1 | ⟨h1, h2⟩
        · have h3 : decide ((a : Int) ≤ q) = false := by simp; omega
          have h4 : decide (a ≤ q) = false := by simp; omega
          have h5 : (q : Int) < a := by omega
          go_wp2_with fail
          refine (ref01_Bit_is _ _ _ x q bx rfl rfl HX.out hx (by omega)).mono ?_
          rintro e w' ⟨rfl, rfl⟩
          go_wp2_with fail
          go_round
          case rel => exact ⟨q, z * 2 + bx, _, by omega, rfl, rfl, by go_num, HS⟩
          case measure => simp [intOf]
        · go_wp2_with fail
          refine (ref01_Bit_is _ _ _ x q bx rfl rfl HX.out hx (by omega)).mono ?_
          rintro e w' ⟨rfl, rfl⟩
          go_wp2_with fail
          go_round
          case rel => exact ⟨q, z * 2 + bx, _, by omega, rfl, rfl, by go_num, HS⟩
          case measure => simp [intOf]

theorem ref01_Put_is (w : World) (x a n v : Int) (p k m u : Nat) (y : Int) (h1 : x = p) (h2 : a = k) (h3 : n = m) (h4 : v = u) (hy : y = x + v * 2 ^ k) (hn : k + m ≤ 64) (hv : u < 2 ^ m) (hf : p / 2 ^ k % 2 ^ m = 0) (hr : y < 18446744073709551616) :
    Calls Try.prog 120 #[.int .u64 x, .int .i64 a, .int .i64 n, .int .u64 v] w fun e w' => e = .returned (.int .u64 y) ∧ w' = w := by
  subst h1 h2 h3 h4
  have e : ((p + u * 2 ^ k : Nat) : Int) = y := by rw [hy]; simp
  have := ref01_Put w p k m u (by rw [← e] at hr; have := Nat.zero_le (u * 2 ^ k); omega) hn hv hf (by omega)
  rwa [e] at this

/-- A word with a bit that it had not, if so. -/
theorem ref02_set (w : World) (x : Int) (p k : Nat) (a : Int) (b : Bool) (y : Int) (h1 : x = p) (h2 : a = k) (hk : k < 64) (hy : y = x + if b then 2 ^ k else 0) (hf : p / 2 ^ k % 2 = 0) (hr : y < 18446744073709551616) :
    Calls Try.prog 121 #[.int .u64 x, .int .i64 a, .bool b] w fun e w' => e = .returned (.int .u64 y) ∧ w' = w := by
  cases b with
  | false =>
    obtain rfl : y = x := by rw [hy]; simp
    clear hy hr hf
    go_enter Try.func121, Try.ntmps121
    go_wp2_with fail
    go_ret
    exact ⟨rfl, rfl⟩
  | true =>
    have HP := Lib.hid (ref01_Put_is w x a 1 1 p k 1 1 y h1 h2 rfl rfl (by rw [hy]; simp) (by omega) (by decide) (by simpa using hf) hr)
    clear hy hr hf h1 h2
    go_enter Try.func121, Try.ntmps121
    go_wp2_with fail
    refine HP.out.mono ?_
    rintro e w' ⟨rfl, rfl⟩
    go_wp2_with fail
    go_ret
    exact ⟨rfl, rfl⟩

theorem okD_range {level : Int} {d : Desc} (h : 0 ≤ level ∧ level ≤ 3 ∧ 0 ≤ d.fFrame ∧ d.fFrame < 512 ∧ 0 ≤ d.fSoft ∧ d.fSoft ≤ 7) : okD level d = mayD level d := by
  obtain ⟨a, b, c, e, f, g⟩ := h
  simp [okD, a, b, c, e, f, g]

set_option maxRecDepth 100000 in
set_option maxHeartbeats 4000000 in
theorem ref02_May (w : World) (level : Int) (d : Desc) :
    Calls Try.prog 116 #[.int .i64 level, d.v] w fun e w' => Ext w w' ∧ e = .returned (.bool (okD level d)) := by
  by_cases hr : 0 ≤ level ∧ level ≤ 3 ∧ 0 ≤ d.fFrame ∧ d.fFrame < 512 ∧ 0 ≤ d.fSoft ∧ d.fSoft ≤ 7
  · rw [okD_range hr]
    obtain ⟨k, f, wr, ex, se, fo, so⟩ := d
    obtain ⟨a, b, c, e, f', g⟩ := hr
    dsimp only at c e f' g
    have hk : k = 0 ∨ k = 1 ∨ k = 2 ∨ k = 3 ∨ k = 4 ∨ (k ≠ 0 ∧ k ≠ 1 ∧ k ≠ 2 ∧ k ≠ 3 ∧ k ≠ 4) := by omega
    rcases hk with rfl | rfl | rfl | rfl | rfl | ⟨k0, k1, k2, k3, k4⟩
    · go_enter Try.func116, Try.ntmps116
      go_wp2_with fail
      all_goals (go_ret; exact ⟨(by repeat (first | exact Ext.refl _ | apply Ext.more | apply Ext.alloc | apply Ext.drew | apply Ext.drewN)), ret_bool' (by simp_all [mayD, noneD]; try (rw [Bool.eq_iff_iff]; simp))⟩)
    · go_enter Try.func116, Try.ntmps116
      go_wp2_with fail
      all_goals (go_ret; exact ⟨(by repeat (first | exact Ext.refl _ | apply Ext.more | apply Ext.alloc | apply Ext.drew | apply Ext.drewN)), ret_bool' (by simp_all [mayD, tableD]; try (first | omega | (rw [Bool.eq_iff_iff]; simp; try omega)))⟩)
    · go_enter Try.func116, Try.ntmps116
      go_wp2_with fail
      all_goals (go_ret; exact ⟨(by repeat (first | exact Ext.refl _ | apply Ext.more | apply Ext.alloc | apply Ext.drew | apply Ext.drewN)), ret_bool' (by simp_all [mayD]; try omega)⟩)
    · go_enter Try.func116, Try.ntmps116
      go_wp2_with fail
      all_goals (go_ret; exact ⟨(by repeat (first | exact Ext.refl _ | apply Ext.more | apply Ext.alloc | apply Ext.drew | apply Ext.drewN)), ret_bool' (by simp_all [mayD])⟩)
    · go_enter Try.func116, Try.ntmps116
      go_wp2_with fail
      all_goals (go_ret; exact ⟨(by repeat (first | exact Ext.refl _ | apply Ext.more | apply Ext.alloc | apply Ext.drew | apply Ext.drewN)), ret_bool' (by simp_all [mayD])⟩)
    · have q0 : (k == 0) = false := by simpa using k0
      have q1 : (k == 1) = false := by simpa using k1
      have q2 : (k == 2) = false := by simpa using k2
      have q3 : (k == 3) = false := by simpa using k3
      have q4 : (k == 4) = false := by simpa using k4
      have hm : Hid (mayD level ⟨k, f, wr, ex, se, fo, so⟩ = false) := by show _ = _; simp [mayD, k0, k1, k2, k3, k4]
      clear k0 k1 k2 k3 k4
      go_enter Try.func116, Try.ntmps116
      go_wp2_with fail
      all_goals (go_ret; exact ⟨(by repeat (first | exact Ext.refl _ | apply Ext.more | apply Ext.alloc | apply Ext.drew | apply Ext.drewN)), ret_bool' hm.out.symm⟩)
  · have ho : Hid (okD level d = false) := by
      show _ = _
      cases h : okD level d with
      | false => rfl
      | true => exact absurd (by obtain ⟨a, b, c, e, f, g, _⟩ := okD_parts h; exact ⟨a, b, c, e, f, g⟩) hr
    obtain ⟨k, f, wr, ex, se, fo, so⟩ := d
    dsimp only at hr
    have h : level < 0 ∨ 3 < level ∨ f < 0 ∨ 512 ≤ f ∨ so < 0 ∨ 7 < so := by omega
    clear hr
    rcases h with h | h | h | h | h | h
    all_goals
      go_enter Try.func116, Try.ntmps116
      go_wp2_with fail
      all_goals (go_ret; exact ⟨(by repeat (first | exact Ext.refl _ | apply Ext.more | apply Ext.alloc | apply Ext.drew | apply Ext.drewN)), ret_bool' ho.out.symm⟩)

end Go.Proofs.Ythcdecgecabgaaa

/- The contracts of the document's answer paviorref02: Word. -/
namespace Go.Proofs.Ythcdecgecabgaaa
open Go.RowKit
set_option linter.unusedVariables false
set_option linter.unusedSimpArgs false
attribute [local go_sem] setCell_drewN alloc_drewN lt_moreE le_moreE lt_moreK le_moreK cell_more frozen_more set_more drew_more drewN_more

abbrev PutC (x a n v : Int) (y : Int) : Prop := ∀ w : World, Calls Try.prog 120 #[.int .u64 x, .int .i64 a, .int .i64 n, .int .u64 v] w fun e w' => e = .returned (.int .u64 y) ∧ w' = w
abbrev SetC (x a : Int) (b : Bool) (y : Int) : Prop := ∀ w : World, Calls Try.prog 121 #[.int .u64 x, .int .i64 a, .bool b] w fun e w' => e = .returned (.int .u64 y) ∧ w' = w
/-- What Word's calls come to. -/
structure WordP (f so : Nat) (wr ex se fo : Bool) (y1 y2 y3 y4 y5 y6 : Int) : Prop where
  p1 : PutC 0 12 36 f y1
  p2 : PutC y1 55 3 so y2
  p3 : SetC y2 7 (!wr) y3
  p4 : SetC y3 54 (!ex) y4
  p5 : SetC y4 10 se y5
  p6 : SetC y5 52 fo y6
  pt : PutC y1 0 2 3 (y1 + 3)
  pb : PutC y6 0 2 1 (y6 + 1)
  pp : PutC y6 0 2 3 (y6 + 3)
  pm : PutC y6 1 3 5 (y6 + 10)
  qb : SetC (y6 + 1) 6 true (y6 + 65)
  qp : SetC (y6 + 3) 6 true (y6 + 67)
  h1 : y1 = (f : Int) * 4096
  he : ∀ base : Int, (f : Int) * 4096 + base + so * 36028797018963968 + (if wr = true then 0 else 128) + (if ex = true then 0 else 18014398509481984) + (if se = true then 1024 else 0) + (if fo = true then 4503599627370496 else 0) = y6 + base

theorem put_c (x a n v y : Int) (k m : Nat) (hx : 0 ≤ x) (h2 : a = k) (h3 : n = m) (h4 : 0 ≤ v) (hy : y = x + v * 2 ^ k) (hn : k + m ≤ 64) (hv : v.toNat < 2 ^ m) (hf : x.toNat / 2 ^ k % 2 ^ m = 0) (hr : y < 18446744073709551616) : PutC x a n v y :=
  fun w => ref01_Put_is w x a n v x.toNat k m v.toNat y (by omega) h2 h3 (by omega) hy hn hv hf hr
theorem set_c (x a : Int) (b : Bool) (y : Int) (k : Nat) (hx : 0 ≤ x) (h2 : a = k) (hk : k < 64) (hy : y = x + if b then 2 ^ k else 0) (hf : x.toNat / 2 ^ k % 2 = 0) (hr : y < 18446744073709551616) : SetC x a b y :=
  fun w => ref02_set w x x.toNat k a b y (by omega) h2 hk hy hf hr

theorem wordP (f so : Nat) (wr ex se fo : Bool) (hf : f < 512) (hs : so ≤ 7) : ∃ y1 y2 y3 y4 y5 y6, WordP f so wr ex se fo y1 y2 y3 y4 y5 y6 := by
  obtain ⟨y1, hy1⟩ : ∃ y : Int, y = f * 4096 := ⟨_, rfl⟩
  obtain ⟨y2, hy2⟩ : ∃ y : Int, y = y1 + so * 36028797018963968 := ⟨_, rfl⟩
  obtain ⟨y3, hy3⟩ : ∃ y : Int, y = y2 + (if wr then 0 else 128) := ⟨_, rfl⟩
  obtain ⟨y4, hy4⟩ : ∃ y : Int, y = y3 + (if ex then 0 else 18014398509481984) := ⟨_, rfl⟩
  obtain ⟨y5, hy5⟩ : ∃ y : Int, y = y4 + (if se then 1024 else 0) := ⟨_, rfl⟩
  obtain ⟨y6, hy6⟩ : ∃ y : Int, y = y5 + (if fo then 4503599627370496 else 0) := ⟨_, rfl⟩
  refine ⟨y1, y2, y3, y4, y5, y6, ?_⟩
  constructor
  · exact put_c _ _ _ _ _ 12 36 (by omega) rfl rfl (by omega) (by omega) (by omega) (by omega) (by decide) (by omega)
  · exact put_c _ _ _ _ _ 55 3 (by omega) rfl rfl (by omega) (by omega) (by omega) (by omega) (by omega) (by omega)
  · exact set_c _ _ _ _ 7 (by omega) rfl (by omega) (by cases wr <;> simp_all) (by omega) (by split at hy3 <;> omega)
  · exact set_c _ _ _ _ 54 (by split at hy3 <;> omega) rfl (by omega) (by cases ex <;> simp_all) (by split at hy3 <;> omega) (by split at hy3 <;> split at hy4 <;> omega)
  · exact set_c _ _ _ _ 10 (by split at hy3 <;> split at hy4 <;> omega) rfl (by omega) (by cases se <;> simp_all) (by split at hy3 <;> split at hy4 <;> omega) (by split at hy3 <;> split at hy4 <;> split at hy5 <;> omega)
  · exact set_c _ _ _ _ 52 (by split at hy3 <;> split at hy4 <;> split at hy5 <;> omega) rfl (by omega) (by cases fo <;> simp_all) (by split at hy3 <;> split at hy4 <;> split at hy5 <;> omega) (by split at hy3 <;> split at hy4 <;> split at hy5 <;> split at hy6 <;> omega)
  · exact put_c _ _ _ _ _ 0 2 (by omega) rfl rfl (by omega) (by omega) (by omega) (by decide) (by omega) (by omega)
  all_goals have hz : y6 % 16 = 0 ∧ y6 / 64 % 2 = 0 ∧ 0 ≤ y6 ∧ y6 < 18446744073709551000 := by split at hy3 <;> split at hy4 <;> split at hy5 <;> split at hy6 <;> omega
  · clear hy1 hy2 hy3 hy4 hy5 hy6; exact put_c _ _ _ _ _ 0 2 (by omega) rfl rfl (by omega) (by omega) (by omega) (by decide) (by omega) (by omega)
  · clear hy1 hy2 hy3 hy4 hy5 hy6; exact put_c _ _ _ _ _ 0 2 (by omega) rfl rfl (by omega) (by omega) (by omega) (by decide) (by omega) (by omega)
  · clear hy1 hy2 hy3 hy4 hy5 hy6; exact put_c _ _ _ _ _ 1 3 (by omega) rfl rfl (by omega) (by omega) (by omega) (by decide) (by omega) (by omega)
  · clear hy1 hy2 hy3 hy4 hy5 hy6; exact set_c _ _ _ _ 6 (by omega) rfl (by omega) (by simp; omega) (by omega) (by omega)
  · clear hy1 hy2 hy3 hy4 hy5 hy6; exact set_c _ _ _ _ 6 (by omega) rfl (by omega) (by simp; omega) (by omega) (by omega)
  · exact hy1
  · intro base
    rw [hy6, hy5, hy4, hy3, hy2, hy1]
    omega

abbrev WordC (d : Desc) (y : Int) : Prop := ∀ w : World, Calls Try.prog 76 #[d.v] w fun e w' => Ext w w' ∧ e = .returned (.int .u64 y)
section
variable {f so : Nat} {wr ex se fo : Bool} {y1 y2 y3 y4 y5 y6 : Int} (H : WordP f so wr ex se fo y1 y2 y3 y4 y5 y6) (hf2 : IntKind.u64.wrap (f : Int) = f) (hs2 : IntKind.u64.wrap (so : Int) = so)
include H hf2
set_option maxHeartbeats 1000000 in
theorem word_table : WordC ⟨1, f, wr, ex, se, fo, so⟩ (y1 + 3) := by
  intro w
  go_enter Try.func76, Try.ntmps76
  go_wp2_with fail
  refine (H.p1 _).mono ?_
  rintro e w' ⟨rfl, rfl⟩
  go_wp2_with fail
  refine (H.pt _).mono ?_
  rintro e w' ⟨rfl, rfl⟩
  go_wp2_with fail
  go_ret
  exact ⟨(by repeat (first | exact Ext.refl _ | apply Ext.more | apply Ext.alloc | apply Ext.drew | apply Ext.drewN)), rfl⟩
include hs2
set_option maxHeartbeats 1000000 in
theorem word_block : WordC ⟨2, f, wr, ex, se, fo, so⟩ (y6 + 65) := by
  intro w
  go_enter Try.func76, Try.ntmps76
  go_wp2_with fail
  refine (H.p1 _).mono ?_
  rintro e w' ⟨rfl, rfl⟩
  go_wp2_with fail
  refine (H.p2 _).mono ?_
  rintro e w' ⟨rfl, rfl⟩
  go_wp2_with fail
  refine (H.p3 _).mono ?_
  rintro e w' ⟨rfl, rfl⟩
  go_wp2_with fail
  refine (H.p4 _).mono ?_
  rintro e w' ⟨rfl, rfl⟩
  go_wp2_with fail
  refine (H.p5 _).mono ?_
  rintro e w' ⟨rfl, rfl⟩
  go_wp2_with fail
  refine (H.p6 _).mono ?_
  rintro e w' ⟨rfl, rfl⟩
  go_wp2_with fail
  refine (H.pb _).mono ?_
  rintro e w' ⟨rfl, rfl⟩
  go_wp2_with fail
  refine (H.qb _).mono ?_
  rintro e w' ⟨rfl, rfl⟩
  go_wp2_with fail
  go_ret
  exact ⟨(by repeat (first | exact Ext.refl _ | apply Ext.more | apply Ext.alloc | apply Ext.drew | apply Ext.drewN)), rfl⟩
set_option maxHeartbeats 1000000 in
theorem word_page : WordC ⟨3, f, wr, ex, se, fo, so⟩ (y6 + 67) := by
  intro w
  go_enter Try.func76, Try.ntmps76
  go_wp2_with fail
  refine (H.p1 _).mono ?_
  rintro e w' ⟨rfl, rfl⟩
  go_wp2_with fail
  refine (H.p2 _).mono ?_
  rintro e w' ⟨rfl, rfl⟩
  go_wp2_with fail
  refine (H.p3 _).mono ?_
  rintro e w' ⟨rfl, rfl⟩
  go_wp2_with fail
  refine (H.p4 _).mono ?_
  rintro e w' ⟨rfl, rfl⟩
  go_wp2_with fail
  refine (H.p5 _).mono ?_
  rintro e w' ⟨rfl, rfl⟩
  go_wp2_with fail
  refine (H.p6 _).mono ?_
  rintro e w' ⟨rfl, rfl⟩
  go_wp2_with fail
  refine (H.pp _).mono ?_
  rintro e w' ⟨rfl, rfl⟩
  go_wp2_with fail
  refine (H.qp _).mono ?_
  rintro e w' ⟨rfl, rfl⟩
  go_wp2_with fail
  go_ret
  exact ⟨(by repeat (first | exact Ext.refl _ | apply Ext.more | apply Ext.alloc | apply Ext.drew | apply Ext.drewN)), rfl⟩
set_option maxHeartbeats 1000000 in
theorem word_moving : WordC ⟨4, f, wr, ex, se, fo, so⟩ (y6 + 10) := by
  intro w
  go_enter Try.func76, Try.ntmps76
  go_wp2_with fail
  refine (H.p1 _).mono ?_
  rintro e w' ⟨rfl, rfl⟩
  go_wp2_with fail
  refine (H.p2 _).mono ?_
  rintro e w' ⟨rfl, rfl⟩
  go_wp2_with fail
  refine (H.p3 _).mono ?_
  rintro e w' ⟨rfl, rfl⟩
  go_wp2_with fail
  refine (H.p4 _).mono ?_
  rintro e w' ⟨rfl, rfl⟩
  go_wp2_with fail
  refine (H.p5 _).mono ?_
  rintro e w' ⟨rfl, rfl⟩
  go_wp2_with fail
  refine (H.p6 _).mono ?_
  rintro e w' ⟨rfl, rfl⟩
  go_wp2_with fail
  refine (H.pm _).mono ?_
  rintro e w' ⟨rfl, rfl⟩
  go_wp2_with fail
  go_ret
  exact ⟨(by repeat (first | exact Ext.refl _ | apply Ext.more | apply Ext.alloc | apply Ext.drew | apply Ext.drewN)), rfl⟩
end
set_option maxHeartbeats 1000000 in
theorem word_none {d : Desc} (h : d = noneD) : WordC d 0 := by
  intro w
  subst h
  go_enter Try.func76, Try.ntmps76
  go_wp2_with fail
  go_ret
  exact ⟨(by repeat (first | exact Ext.refl _ | apply Ext.more | apply Ext.alloc | apply Ext.drew | apply Ext.drewN)), rfl⟩
theorem WordC.to {d : Desc} {y z : Int} (h : WordC d y) (e : y = z) : WordC d z := e ▸ h

theorem ref02_Word (w : World) (level : Int) (d : Desc) (hok : okD level d = true) :
    Calls Try.prog 76 #[d.v] w fun e w' => Ext w w' ∧ e = .returned (.int .u64 (encW d)) := by
  obtain ⟨l0, l1, f0, f1, s0, s1, hm⟩ := okD_parts hok
  have hkind := mayD_kind hm
  clear hok hm l0 l1
  revert w
  show WordC d (encW d)
  rcases hkind with h | hkind
  · exact (word_none h).to (by rw [h]; rfl)
  obtain ⟨k, f, wr, ex, se, fo, so⟩ := d
  dsimp only at f0 f1 s0 s1 hkind
  obtain ⟨f, rfl⟩ := Int.eq_ofNat_of_zero_le f0
  obtain ⟨so, rfl⟩ := Int.eq_ofNat_of_zero_le s0
  have hf2 : IntKind.u64.wrap (f : Int) = f := u64_wraps _ (by omega) (by omega)
  have hs2 : IntKind.u64.wrap (so : Int) = so := u64_wraps _ (by omega) (by omega)
  obtain ⟨y1, y2, y3, y4, y5, y6, H⟩ := wordP f so wr ex se fo (by omega) (by omega)
  have h1 := H.h1
  have he := H.he
  rcases hkind with ⟨_, h⟩ | ⟨_, h, _⟩ | ⟨_, h⟩ | ⟨h, _⟩
  · have hk : k = 1 := by rw [tableD, Desc.mk.injEq] at h; exact h.1
    subst hk
    exact (word_table H hf2).to (by simp [encW]; omega)
  · subst h
    exact (word_block H hf2 hs2).to (by have := he 65; simp [encW] at this ⊢; omega)
  · subst h
    exact (word_page H hf2 hs2).to (by have := he 67; simp [encW] at this ⊢; omega)
  · subst h
    exact (word_moving H hf2 hs2).to (by have := he 10; simp [encW] at this ⊢; omega)

end Go.Proofs.Ythcdecgecabgaaa
