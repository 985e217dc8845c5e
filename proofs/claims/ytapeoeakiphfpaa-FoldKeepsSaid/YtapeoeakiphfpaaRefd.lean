import Derived.Test.YtapeoeakiphfpaaRefc
/- The contracts of the document's answer paviorref02: Word. -/
namespace Go.Proofs.Ytapeoeakiphfpaa
open Go.RowKit
set_option linter.unusedVariables false
set_option linter.unusedSimpArgs false
attribute [local go_sem] setCell_drewN alloc_drewN lt_moreE le_moreE lt_moreK le_moreK cell_more frozen_more set_more drew_more drewN_more

abbrev PutC (x a n v : Int) (y : Int) : Prop := ∀ w : World, Calls Try.prog 146 #[.int .u64 x, .int .i64 a, .int .i64 n, .int .u64 v] w fun e w' => e = .returned (.int .u64 y) ∧ w' = w
abbrev SetC (x a : Int) (b : Bool) (y : Int) : Prop := ∀ w : World, Calls Try.prog 147 #[.int .u64 x, .int .i64 a, .bool b] w fun e w' => e = .returned (.int .u64 y) ∧ w' = w
/-- What Word's calls come to. -/
structure WordP (f so : Nat) (wr ex se fo : Bool) (y1 y2 y3 y4 y5 y6 : Int) : Prop where
  p1 : PutC 0 12 36 f y1
  p2 : PutC y1 55 3 so y2
  p3 : SetC y2 7 (!wr) y3
  p4 : SetC y3 54 (!ex) y4
  p5 : SetC y4 10 se y5
  p6 : SetC y5 52 fo y6
  pt : PutC y1 0 2 3 (y1 + 3)
  pb : PutC y6 0 2 1 (y6 + 1)
  pp : PutC y6 0 2 3 (y6 + 3)
  pm : PutC y6 1 3 5 (y6 + 10)
  qb : SetC (y6 + 1) 6 true (y6 + 65)
  qp : SetC (y6 + 3) 6 true (y6 + 67)
  h1 : y1 = (f : Int) * 4096
  he : ∀ base : Int, (f : Int) * 4096 + base + so * 36028797018963968 + (if wr = true then 0 else 128) + (if ex = true then 0 else 18014398509481984) + (if se = true then 1024 else 0) + (if fo = true then 4503599627370496 else 0) = y6 + base

theorem put_c (x a n v y : Int) (k m : Nat) (hx : 0 ≤ x) (h2 : a = k) (h3 : n = m) (h4 : 0 ≤ v) (hy : y = x + v * 2 ^ k) (hn : k + m ≤ 64) (hv : v.toNat < 2 ^ m) (hf : x.toNat / 2 ^ k % 2 ^ m = 0) (hr : y < 18446744073709551616) : PutC x a n v y :=
  fun w => ref01_Put_is w x a n v x.toNat k m v.toNat y (by omega) h2 h3 (by omega) hy hn hv hf hr
theorem set_c (x a : Int) (b : Bool) (y : Int) (k : Nat) (hx : 0 ≤ x) (h2 : a = k) (hk : k < 64) (hy : y = x + if b then 2 ^ k else 0) (hf : x.toNat / 2 ^ k % 2 = 0) (hr : y < 18446744073709551616) : SetC x a b y :=
  fun w => ref02_set w x x.toNat k a b y (by omega) h2 hk hy hf hr

theorem wordP (f so : Nat) (wr ex se fo : Bool) (hf : f < 512) (hs : so ≤ 7) : ∃ y1 y2 y3 y4 y5 y6, WordP f so wr ex se fo y1 y2 y3 y4 y5 y6 := by
  obtain ⟨y1, hy1⟩ : ∃ y : Int, y = f * 4096 := ⟨_, rfl⟩
  obtain ⟨y2, hy2⟩ : ∃ y : Int, y = y1 + so * 36028797018963968 := ⟨_, rfl⟩
  obtain ⟨y3, hy3⟩ : ∃ y : Int, y = y2 + (if wr then 0 else 128) := ⟨_, rfl⟩
  obtain ⟨y4, hy4⟩ : ∃ y : Int, y = y3 + (if ex then 0 else 18014398509481984) := ⟨_, rfl⟩
  obtain ⟨y5, hy5⟩ : ∃ y : Int, y = y4 + (if se then 1024 else 0) := ⟨_, rfl⟩
  obtain ⟨y6, hy6⟩ : ∃ y : Int, y = y5 + (if fo then 4503599627370496 else 0) := ⟨_, rfl⟩
  refine ⟨y1, y2, y3, y4, y5, y6, ?_⟩
  constructor
  · exact put_c _ _ _ _ _ 12 36 (by omega) rfl rfl (by omega) (by omega) (by omega) (by omega) (by decide) (by omega)
  · exact put_c _ _ _ _ _ 55 3 (by omega) rfl rfl (by omega) (by omega) (by omega) (by omega) (by omega) (by omega)
  · exact set_c _ _ _ _ 7 (by omega) rfl (by omega) (by cases wr <;> simp_all) (by omega) (by split at hy3 <;> omega)
  · exact set_c _ _ _ _ 54 (by split at hy3 <;> omega) rfl (by omega) (by cases ex <;> simp_all) (by split at hy3 <;> omega) (by split at hy3 <;> split at hy4 <;> omega)
  · exact set_c _ _ _ _ 10 (by split at hy3 <;> split at hy4 <;> omega) rfl (by omega) (by cases se <;> simp_all) (by split at hy3 <;> split at hy4 <;> omega) (by split at hy3 <;> split at hy4 <;> split at hy5 <;> omega)
  · exact set_c _ _ _ _ 52 (by split at hy3 <;> split at hy4 <;> split at hy5 <;> omega) rfl (by omega) (by cases fo <;> simp_all) (by split at hy3 <;> split at hy4 <;> split at hy5 <;> omega) (by split at hy3 <;> split at hy4 <;> split at hy5 <;> split at hy6 <;> omega)
  · exact put_c _ _ _ _ _ 0 2 (by omega) rfl rfl (by omega) (by omega) (by omega) (by decide) (by omega) (by omega)
  all_goals have hz : y6 % 16 = 0 ∧ y6 / 64 % 2 = 0 ∧ 0 ≤ y6 ∧ y6 < 18446744073709551000 := by split at hy3 <;> split at hy4 <;> split at hy5 <;> split at hy6 <;> omega
  · clear hy1 hy2 hy3 hy4 hy5 hy6; exact put_c _ _ _ _ _ 0 2 (by omega) rfl rfl (by omega) (by omega) (by omega) (by decide) (by omega) (by omega)
  · clear hy1 hy2 hy3 hy4 hy5 hy6; exact put_c _ _ _ _ _ 0 2 (by omega) rfl rfl (by omega) (by omega) (by omega) (by decide) (by omega) (by omega)
  · clear hy1 hy2 hy3 hy4 hy5 hy6; exact put_c _ _ _ _ _ 1 3 (by omega) rfl rfl (by omega) (by omega) (by omega) (by decide) (by omega) (by omega)
  · clear hy1 hy2 hy3 hy4 hy5 hy6; exact set_c _ _ _ _ 6 (by omega) rfl (by omega) (by simp; omega) (by omega) (by omega)
  · clear hy1 hy2 hy3 hy4 hy5 hy6; exact set_c _ _ _ _ 6 (by omega) rfl (by omega) (by simp; omega) (by omega) (by omega)
  · exact hy1
  · intro base
    rw [hy6, hy5, hy4, hy3, hy2, hy1]
    omega

abbrev WordC (d : Desc) (y : Int) : Prop := ∀ w : World, Calls Try.prog 122 #[d.v] w fun e w' => Ext w w' ∧ e = .returned (.int .u64 y)
section
variable {f so : Nat} {wr ex se fo : Bool} {y1 y2 y3 y4 y5 y6 : Int} (H : WordP f so wr ex se fo y1 y2 y3 y4 y5 y6) (hf2 : IntKind.u64.wrap (f : Int) = f) (hs2 : IntKind.u64.wrap (so : Int) = so)
include H hf2
set_option maxHeartbeats 1000000 in
theorem word_table : WordC ⟨1, f, wr, ex, se, fo, so⟩ (y1 + 3) := by
  intro w
  go_enter Try.func122, Try.ntmps122
  go_wp2_with fail
  refine (H.p1 _).mono ?_
  rintro e w' ⟨rfl, rfl⟩
  go_wp2_with fail
  refine (H.pt _).mono ?_
  rintro e w' ⟨rfl, rfl⟩
  go_wp2_with fail
  go_ret
  exact ⟨(by repeat (first | exact Ext.refl _ | apply Ext.more | apply Ext.alloc | apply Ext.drew | apply Ext.drewN)), rfl⟩
include hs2
set_option maxHeartbeats 1000000 in
theorem word_block : WordC ⟨2, f, wr, ex, se, fo, so⟩ (y6 + 65) := by
  intro w
  go_enter Try.func122, Try.ntmps122
  go_wp2_with fail
  refine (H.p1 _).mono ?_
  rintro e w' ⟨rfl, rfl⟩
  go_wp2_with fail
  refine (H.p2 _).mono ?_
  rintro e w' ⟨rfl, rfl⟩
  go_wp2_with fail
  refine (H.p3 _).mono ?_
  rintro e w' ⟨rfl, rfl⟩
  go_wp2_with fail
  refine (H.p4 _).mono ?_
  rintro e w' ⟨rfl, rfl⟩
  go_wp2_with fail
  refine (H.p5 _).mono ?_
  rintro e w' ⟨rfl, rfl⟩
  go_wp2_with fail
  refine (H.p6 _).mono ?_
  rintro e w' ⟨rfl, rfl⟩
  go_wp2_with fail
  refine (H.pb _).mono ?_
  rintro e w' ⟨rfl, rfl⟩
  go_wp2_with fail
  refine (H.qb _).mono ?_
  rintro e w' ⟨rfl, rfl⟩
  go_wp2_with fail
  go_ret
  exact ⟨(by repeat (first | exact Ext.refl _ | apply Ext.more | apply Ext.alloc | apply Ext.drew | apply Ext.drewN)), rfl⟩
set_option maxHeartbeats 1000000 in
theorem word_page : WordC ⟨3, f, wr, ex, se, fo, so⟩ (y6 + 67) := by
  intro w
  go_enter Try.func122, Try.ntmps122
  go_wp2_with fail
  refine (H.p1 _).mono ?_
  rintro e w' ⟨rfl, rfl⟩
  go_wp2_with fail
  refine (H.p2 _).mono ?_
  rintro e w' ⟨rfl, rfl⟩
  go_wp2_with fail
  refine (H.p3 _).mono ?_
  rintro e w' ⟨rfl, rfl⟩
  go_wp2_with fail
  refine (H.p4 _).mono ?_
  rintro e w' ⟨rfl, rfl⟩
  go_wp2_with fail
  refine (H.p5 _).mono ?_
  rintro e w' ⟨rfl, rfl⟩
  go_wp2_with fail
  refine (H.p6 _).mono ?_
  rintro e w' ⟨rfl, rfl⟩
  go_wp2_with fail
  refine (H.pp _).mono ?_
  rintro e w' ⟨rfl, rfl⟩
  go_wp2_with fail
  refine (H.qp _).mono ?_
  rintro e w' ⟨rfl, rfl⟩
  go_wp2_with fail
  go_ret
  exact ⟨(by repeat (first | exact Ext.refl _ | apply Ext.more | apply Ext.alloc | apply Ext.drew | apply Ext.drewN)), rfl⟩
set_option maxHeartbeats 1000000 in
theorem word_moving : WordC ⟨4, f, wr, ex, se, fo, so⟩ (y6 + 10) := by
  intro w
  go_enter Try.func122, Try.ntmps122
  go_wp2_with fail
  refine (H.p1 _).mono ?_
  rintro e w' ⟨rfl, rfl⟩
  go_wp2_with fail
  refine (H.p2 _).mono ?_
  rintro e w' ⟨rfl, rfl⟩
  go_wp2_with fail
  refine (H.p3 _).mono ?_
  rintro e w' ⟨rfl, rfl⟩
  go_wp2_with fail
  refine (H.p4 _).mono ?_
  rintro e w' ⟨rfl, rfl⟩
  go_wp2_with fail
  refine (H.p5 _).mono ?_
  rintro e w' ⟨rfl, rfl⟩
  go_wp2_with fail
  refine (H.p6 _).mono ?_
  rintro e w' ⟨rfl, rfl⟩
  go_wp2_with fail
  refine (H.pm _).mono ?_
  rintro e w' ⟨rfl, rfl⟩
  go_wp2_with fail
  go_ret
  exact ⟨(by repeat (first | exact Ext.refl _ | apply Ext.more | apply Ext.alloc | apply Ext.drew | apply Ext.drewN)), rfl⟩
end
set_option maxHeartbeats 1000000 in
theorem word_none {d : Desc} (h : d = noneD) : WordC d 0 := by
  intro w
  subst h
  go_enter Try.func122, Try.ntmps122
  go_wp2_with fail
  go_ret
  exact ⟨(by repeat (first | exact Ext.refl _ | apply Ext.more | apply Ext.alloc | apply Ext.drew | apply Ext.drewN)), rfl⟩
theorem WordC.to {d : Desc} {y z : Int} (h : WordC d y) (e : y = z) : WordC d z := e ▸ h

theorem ref02_Word (w : World) (level : Int) (d : Desc) (hok : okD level d = true) :
    Calls Try.prog 122 #[d.v] w fun e w' => Ext w w' ∧ e = .returned (.int .u64 (encW d)) := by
  obtain ⟨l0, l1, f0, f1, s0, s1, hm⟩ := okD_parts hok
  have hkind := mayD_kind hm
  clear hok hm l0 l1
  revert w
  show WordC d (encW d)
  rcases hkind with h | hkind
  · exact (word_none h).to (by rw [h]; rfl)
  obtain ⟨k, f, wr, ex, se, fo, so⟩ := d
  dsimp only at f0 f1 s0 s1 hkind
  obtain ⟨f, rfl⟩ := Int.eq_ofNat_of_zero_le f0
  obtain ⟨so, rfl⟩ := Int.eq_ofNat_of_zero_le s0
  have hf2 : IntKind.u64.wrap (f : Int) = f := u64_wraps _ (by omega) (by omega)
  have hs2 : IntKind.u64.wrap (so : Int) = so := u64_wraps _ (by omega) (by omega)
  obtain ⟨y1, y2, y3, y4, y5, y6, H⟩ := wordP f so wr ex se fo (by omega) (by omega)
  have h1 := H.h1
  have he := H.he
  rcases hkind with ⟨_, h⟩ | ⟨_, h, _⟩ | ⟨_, h⟩ | ⟨h, _⟩
  · have hk : k = 1 := by rw [tableD, Desc.mk.injEq] at h; exact h.1
    subst hk
    exact (word_table H hf2).to (by simp [encW]; omega)
  · subst h
    exact (word_block H hf2 hs2).to (by have := he 65; simp [encW] at this ⊢; omega)
  · subst h
    exact (word_page H hf2 hs2).to (by have := he 67; simp [encW] at this ⊢; omega)
  · subst h
    exact (word_moving H hf2 hs2).to (by have := he 10; simp [encW] at this ⊢; omega)

end Go.Proofs.Ytapeoeakiphfpaa
