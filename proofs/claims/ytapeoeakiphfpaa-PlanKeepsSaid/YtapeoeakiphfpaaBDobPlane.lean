import Derived.Test.YtapeoeakiphfpaaDo
import Derived.Test.YtapeoeakiphfpaaBPlancPland
import Derived.Test.YtapeoeakiphfpaaBSemwPathrPathtWipe
import Derived.Test.YtapeoeakiphfpaaBCodeLawgLawhLawe
/- The contract of paviorref12.Do at steps that write and tell alone: it turns its own rows of words alone. -/
namespace Go.Proofs.Ytapeoeakiphfpaa
open Go.RowKit
set_option linter.unusedVariables false
set_option linter.unusedSimpArgs false
attribute [local go_sem] setCell_drewN alloc_drewN lt_moreE le_moreE lt_moreK le_moreK cell_more frozen_more set_more drew_more drewN_more

/-- All blocks but a memory's rows are kept. -/
def KeepB (n : Nat) (gb : Nat → Nat) (w w' : World) : Prop := ∀ (k : Nat) (ob : Obj), w.heap[k]? = some ob → (∀ i, i < n → k ≠ gb i) → w'.heap[k]? = some ob
theorem KeepB.refl (n : Nat) (gb : Nat → Nat) (w : World) : KeepB n gb w w := fun _ _ h _ => h
theorem KeepB.ext {n : Nat} {gb : Nat → Nat} {w0 w w' : World} (h : KeepB n gb w0 w) (hE : Ext w w') : KeepB n gb w0 w' := fun k ob hk hn => by
  have := h k ob hk hn
  exact (hE.grow.block k (Array.getElem?_eq_some_iff.1 this).1 (by simp)).trans this
theorem RefAt.keepB {w w' : World} {h hc n : Nat} {gb gc : Nat → Nat} {us : List Int} (r : RefAt w h hc n gb gc us) {n' : Nat} {gb' : Nat → Nat} (k : KeepB n' gb' w w') (hh : ∀ i, i < n' → h ≠ gb' i) (hg : ∀ j, j < n → ∀ i, i < n' → gb j ≠ gb' i) : RefAt w' h hc n gb gc us :=
  { r with
    head := by
      obtain ⟨cur, h1, h2⟩ := r.head
      exact ⟨cur, k _ _ h1 hh, h2⟩
    row := fun i hi => by
      obtain ⟨cur, h1, h2⟩ := r.row i hi
      exact ⟨cur, k _ _ h1 (hg i hi), h2⟩ }
def DoRelB (W w0 wr : World) (h hc n : Nat) (gb gc : Nat → Nat) (us : List Int) : Prop := Ext W wr ∧ KeepW w0 wr ∧ KeepB n gb w0 wr ∧ RefAt wr h hc n gb gc us
theorem DoRelB.put {W w0 wr : World} {h hc n : Nat} {gb gc : Nat → Nat} {us : List Int} (hd : DoRelB W w0 wr h hc n gb gc us) (hg : ∀ i, i < n → W.heap.size ≤ gb i) (i j : Nat) (x : Int) (hi : i < n) (hj : j < 8) :
    DoRelB W w0 (wr.setCell ⟨gb i, j, none⟩ (.int .u64 x)) h hc n gb gc (us.set (i * 8 + j) x) := by
  obtain ⟨hE, hk, hb, r⟩ := hd
  refine ⟨ext_set hE (hg i hi) _ _, hk.trans (KeepW.put r i j hi _), fun q ob hq hn => ?_, r.put i j x hi hj⟩
  rw [heap_setCell_other _ _ _ _ (hn i hi)]
  exact hb q ob hq hn
theorem DoRelB.drew {W w0 wr : World} {h hc n : Nat} {gb gc : Nat → Nat} {us : List Int} (hd : DoRelB W w0 wr h hc n gb gc us) : DoRelB W w0 wr.drew h hc n gb gc us := by
  obtain ⟨a, b, c, r⟩ := hd
  exact ⟨a.drew, b.trans (KeepW.ext ((Ext.refl _).drew)), c.ext ((Ext.refl _).drew), r.drew⟩

set_option maxRecDepth 100000 in
set_option maxHeartbeats 8000000 in
theorem ref12_DoB (W w : World) (hE : Ext W w) {h hc n : Nat} {gb gc : Nat → Nat} {us : List Int} (hr : RefAt w h hc n gb gc us) (hgb : ∀ i, i < n → W.heap.size ≤ gb i)
    {B cap : Nat} {a : Option Addr} {l : List Step} (HO0 : OwnS w B (.slice a l.length cap) l) (hl : l.length ≤ 1000000) (hk12 : ∀ s ∈ l, s.fKind = 1 ∨ s.fKind = 2) :
    Calls Try.prog 37 #[.slice (some ⟨h, 0, none⟩) n hc, .slice a l.length cap] w fun e w' => e = .returned (.tuple #[]) ∧ DoRelB W w w' h hc n gb gc (doW n us l) := by
  have HR := Lib.hid (show DoRelB W w w h hc n gb gc us from ⟨hE, KeepW.refl _, KeepB.refl _ _ _, hr⟩)
  have HO := Lib.hid HO0
  have HG := Lib.hid hgb
  have HK12 := Lib.hid hk12
  have hcap := own_cap HO0
  have hcap1 := hcap.2.1
  clear hE hr hgb HO0 hcap hk12
  go_enter Try.func37, Try.ntmps37
  go_wp2_with fail
  go_loopw [4] (fun i wr => ∃ k : Nat, k ≤ l.length ∧ i = .int .i64 k ∧ Hid (DoRelB W w wr h hc n gb gc (doW n us (l.take k)))) (fun i _ => l.length - (intOf i).toNat)
  case atStart => exact ⟨0, Nat.zero_le _, rfl, HR⟩
  case round =>
    obtain ⟨k, hk, rfl, HD⟩ := hrel
    by_cases hlt : k < l.length
    · have HS := Lib.hid (show doW n us (l.take (k + 1)) = stepW n (doW n us (l.take k)) l[k] from foldl_take_succ (stepW n) us l k hlt)
      have hz : l[k]? = some l[k] := List.getElem?_eq_getElem hlt
      have hks := HK12.out _ (List.getElem_mem hlt)
      generalize l[k] = s at *
      obtain ⟨hE, hK, hB, hr⟩ := HD.out
      have HOr := own_keepW hK HO.out (by decide) (by decide)
      obtain ⟨g, rfl, _, hgs, _, hcl, _⟩ := own_at HOr (by omega)
      obtain ⟨x0, x1, x2, x3, x4, x5, x6, x7, x8, x9⟩ := step_at hcl k s hz
      have HE4 := Lib.hid (hE.alloc (.cells #[.int .i64 s.fKind, .int .i64 s.fAsid, .int .i64 s.fLevel, .int .i64 s.fTable, .int .i64 s.fPlace, .int .i64 s.fFirst, .int .u64 s.fValue, .int .i64 s.fTo, .int .i64 s.fFrom, .int .i64 s.fI] 73))
      have HK4 := Lib.hid (hK.trans (KeepW.ext ((Ext.refl wr).alloc (.cells #[.int .i64 s.fKind, .int .i64 s.fAsid, .int .i64 s.fLevel, .int .i64 s.fTable, .int .i64 s.fPlace, .int .i64 s.fFirst, .int .u64 s.fValue, .int .i64 s.fTo, .int .i64 s.fFrom, .int .i64 s.fI] 73))))
      have HR4 := Lib.hid (hr.alloc (.cells #[.int .i64 s.fKind, .int .i64 s.fAsid, .int .i64 s.fLevel, .int .i64 s.fTable, .int .i64 s.fPlace, .int .i64 s.fFirst, .int .u64 s.fValue, .int .i64 s.fTo, .int .i64 s.fFrom, .int .i64 s.fI] 73))
      have HB5 := Lib.hid (hB.ext ((Ext.refl wr).alloc (.cells #[.int .i64 s.fKind, .int .i64 s.fAsid, .int .i64 s.fLevel, .int .i64 s.fTable, .int .i64 s.fPlace, .int .i64 s.fFirst, .int .u64 s.fValue, .int .i64 s.fTo, .int .i64 s.fFrom, .int .i64 s.fI] 73)))
      have hB4 := cells10 (heap_alloc_new wr (.cells #[.int .i64 s.fKind, .int .i64 s.fAsid, .int .i64 s.fLevel, .int .i64 s.fTable, .int .i64 s.fPlace, .int .i64 s.fFirst, .int .u64 s.fValue, .int .i64 s.fTo, .int .i64 s.fFrom, .int .i64 s.fI] 73))
      have HB4 := Lib.hid hB4
      have HSz := Lib.hid (show wr.heap.size < (wr.alloc (.cells #[.int .i64 s.fKind, .int .i64 s.fAsid, .int .i64 s.fLevel, .int .i64 s.fTable, .int .i64 s.fPlace, .int .i64 s.fFirst, .int .u64 s.fValue, .int .i64 s.fTo, .int .i64 s.fFrom, .int .i64 s.fI] 73)).heap.size by simp)
      have HLt := Lib.hid (show ∀ i, i < n → gb i < wr.heap.size from hr.ltg)
      have HLh := Lib.hid hr.lth
      obtain ⟨kd, asd, lv, tb, pl, fi, va, tt, fr, ii⟩ := s
      dsimp only at *
      clear hcl hz hE hK hB hr HOr HD HR hB4
      generalize hvs : doW n us (l.take k) = vs at *
      clear hvs
      have hlen := HR4.out.len
      have hkd : kd = 1 ∨ (kd ≠ 1 ∧ kd ≠ 4 ∧ kd ≠ 5) := by omega
      have z2 := HLh.out
      have z0 := HSz.out
      have hnc := HR4.out.nc
      clear hks
      rcases hkd with rfl | ⟨k1, k4, k5⟩
      · by_cases hb : 0 ≤ tb ∧ tb < n ∧ 0 ≤ pl ∧ pl < 8
        · obtain ⟨b1, b2, b3, b4⟩ := hb
          obtain ⟨T, rfl⟩ := Int.eq_ofNat_of_zero_le b1
          obtain ⟨P, rfl⟩ := Int.eq_ofNat_of_zero_le b3
          have HHas := Lib.hid (hasB_of (n := n) ⟨b1, b2, b3, b4⟩)
          have HV := Lib.hid (show stepW n vs ⟨1, asd, lv, T, P, fi, va, tt, fr, ii⟩ = vs.set (T * 8 + P) va from stepW_write rfl ⟨b1, b2, b3, b4⟩)
          have hTn : T < n := by omega
          have hP8 : P < 8 := by omega
          have hcc := HR4.out.cc T hTn
          have z1 := HLt.out T hTn
          go_wp2_with (go_at_call 21; first | ((with_reducible refine (ref03_HasB _ _ _ _ _ _ _ HHas.out).mono ?_); rintro e w' ⟨rfl, rfl⟩))
          obtain ⟨q0, q1, q2, q3, q4, q5, q6, q7, q8, q9, qf⟩ := HB4.out
          have y0 := HR4.out.hcell T hTn
          have y1 := HR4.out.cell T P hTn hP8
          have y2 := HR4.out.free T P hTn
          generalize (wr.alloc (.cells #[.int .i64 1, .int .i64 asd, .int .i64 lv, .int .i64 T, .int .i64 P, .int .i64 fi, .int .u64 va, .int .i64 tt, .int .i64 fr, .int .i64 ii] 73)) = W4 at *
          generalize wr.heap.size = xb at *
          have z3 : gb T < W4.heap.size := by omega
          have z4 : h < W4.heap.size := by omega
          have z6 : (gb T = xb) = False := by simp; omega
          have z7 : (xb = gb T) = False := by simp; omega
          clear HB4
          go_region
          all_goals
            go_wp2_with fail
            go_roundw
            case rel => exact ⟨k + 1, by omega, by go_num, show DoRelB _ _ _ _ _ _ _ _ _ from by rw [HS.out, HV.out]; exact (DoRelB.put ⟨HE4.out, HK4.out, HB5.out, HR4.out⟩ HG.out T P va hTn hP8).drew⟩
            case measure => simp [intOf]; omega
        · have HHas := Lib.hid (hasB_no hb)
          have HV := Lib.hid (show stepW n vs ⟨1, asd, lv, tb, pl, fi, va, tt, fr, ii⟩ = vs from by unfold stepW; rw [if_pos rfl, if_neg (by rw [hasB_no hb]; simp)])
          clear hb HB4
          go_wp2_with (go_at_call 21; first | ((with_reducible refine (ref03_HasB _ _ _ _ _ _ _ HHas.out).mono ?_); rintro e w' ⟨rfl, rfl⟩))
          go_roundw
          case rel => exact ⟨k + 1, by omega, by go_num, show DoRelB _ _ _ _ _ _ _ _ _ from by rw [HS.out, HV.out]; exact ⟨HE4.out, HK4.out, HB5.out, HR4.out⟩⟩
          case measure => simp [intOf]; omega
      · have e1 : (kd == 1) = false := by simpa using k1
        have e4 : (kd == 4) = false := by simpa using k4
        have e5 : (kd == 5) = false := by simpa using k5
        have HV := Lib.hid (show stepW n vs ⟨kd, asd, lv, tb, pl, fi, va, tt, fr, ii⟩ = vs from by unfold stepW; rw [if_neg k1, if_neg k4, if_neg k5])
        clear k1 k4 k5 HB4
        go_wp2_with fail
        go_roundw
        case rel => exact ⟨k + 1, by omega, by go_num, show DoRelB _ _ _ _ _ _ _ _ _ from by rw [HS.out, HV.out]; exact ⟨HE4.out, HK4.out, HB5.out, HR4.out⟩⟩
        case measure => simp [intOf]; omega
    · have : k = l.length := by omega
      subst this
      rw [List.take_of_length_le (Nat.le_refl _)] at HD
      go_wp2_with fail
      go_end0
      exact ⟨rfl, HD.out⟩

end Go.Proofs.Ytapeoeakiphfpaa

/- The head of layer 13's laws; the law paviorlaw13.PlanStays. -/
namespace Go.Proofs.Ytapeoeakiphfpaa
open Go.RowKit
set_option linter.unusedVariables false
set_option linter.unusedSimpArgs false
attribute [local go_sem] setCell_drewN alloc_drewN lt_moreE le_moreE lt_moreK le_moreK cell_more frozen_more set_more drew_more drewN_more

set_option maxHeartbeats 1000000 in
theorem walk_Whole_nil (w : World) (root : Int) :
    Calls Try.prog 99 #[.pointer none, .int .i64 root] w fun e w' => Ext w w' ∧ e = .returned (.tuple #[.slice none 0 0, errW 1]) := by
  have HF := Lib.hid (fun w => extC (walk_Walk_nil w root 0))
  go_enter Try.func99, Try.ntmps99
  go_wp2_with fail
  go_loopw [6, 7] (fun v p wr => v = .slice none 0 0 ∧ p = .int .i64 0 ∧ w = wr) (fun _ _ _ => 0)
  case atStart => exact ⟨rfl, rfl, rfl⟩
  case round =>
    obtain ⟨rfl, rfl, rfl⟩ := hrel
    go_wp2_with fail
    refine (HF.out _).mono ?_
    rintro e w' ⟨⟨ex1, rfl⟩, rfl⟩
    go_wp2_with fail
    go_ret2
    exact ⟨(by repeat (first | exact Ext.refl _ | apply Ext.more | apply Ext.alloc | apply Ext.drew | apply Ext.drewN)), rfl⟩
set_option maxHeartbeats 1000000 in
theorem plan_Leaves_nil (w : World) :
    Calls Try.prog 49 #[.pointer none, .int .i64 0, .int .i64 0, .int .i64 1] w fun e w' => Ext w w' ∧ e = .returned (.tuple #[.slice none 0 0, errW 1]) := by
  go_enter Try.func49, Try.ntmps49
  go_wp2_with fail
  refine (walk_Whole_nil _ 0).mono ?_
  rintro e w' ⟨⟨ex1, rfl⟩, rfl⟩
  go_wp2_with fail
  go_ret2
  exact ⟨(by repeat (first | exact Ext.refl _ | apply Ext.more | apply Ext.alloc | apply Ext.drew | apply Ext.drewN)), rfl⟩
theorem up13 : wholeRes 1 0 4096 (leavesRes (List.replicate 8 0) 1 0 0 4096) = .yes [] := by
  have h : wholeAt (List.replicate 8 0) 1 0 4097 0 = some [] := by decide +kernel
  have h2 : leavesRes (List.replicate 8 0) 1 0 0 4096 = .yes [] := by
    unfold leavesRes
    rw [if_neg (by omega), if_neg (by simp)]
    rw [show ((1 : Nat) : Int) = 1 from rfl, h]
    rfl
  rw [h2]
  rfl

set_option maxRecDepth 100000 in
set_option maxHeartbeats 1000000 in
theorem law13_up (w : World) : Calls Try.prog 46 #[] w fun e w' => Ext w w' ∧ e = .returned (.bool true) := by
  have hU := up13
  have heq := fun (w : World) => eql_err w 1 1
  have hzw : WOk (List.replicate 8 (0 : Int)) := fun x hx => by rw [List.eq_of_mem_replicate hx]; omega
  generalize hZ : List.replicate 8 (0 : Int) = Z at *
  have HU := Lib.hid hU
  have HZ := Lib.hid hZ
  clear hU hZ
  go_enter Try.func46, Try.ntmps46
  go_wp2_with fail
  refine (phys_New_yes _ 1 (by omega) (by omega)).mono ?_
  rintro e w1 ⟨b, g, rfl, hm, hgr, _, _⟩
  rw [show 1 * 8 = 8 from rfl, HZ.out] at hm
  have HM := Lib.hid hm
  obtain ⟨ex0, rfl⟩ := more_of_grow hgr
  have HF := Lib.hid (fun w (hm : MemAt w b g 1 1 Z) => plan_Clear w hm hzw 0 1 0 4096 (by decide) _ HU.out)
  clear hgr hm
  go_wp2_with fail
  refine (HF.out _ (by repeat (first | exact HM.out | apply MemAt.more | apply MemAt.alloc | apply MemAt.drew | apply MemAt.drewN))).mono ?_
  rintro e w' ⟨⟨ex1, rfl⟩, a, cap, rfl, _⟩
  rw [show (awayL 1 []).length = 0 from rfl]
  go_wp2_with fail
  refine (plan_Leaves_nil _).mono ?_
  rintro e w' ⟨⟨ex2, rfl⟩, rfl⟩
  go_wp2_with fail
  go_ret
  exact ⟨(by repeat (first | exact Ext.refl _ | apply Ext.more | apply Ext.alloc | apply Ext.drew | apply Ext.drewN)), rfl⟩

theorem first_clear (asid : Int) (Q : LeavesR) (h : LeavesOk Q) : FirstK 1 (clearRes asid Q) := by
  intro s hs
  cases Q with
  | no k => cases hs
  | yes l =>
    cases hs
    have := tellA_len asid l
    obtain ⟨hl, _⟩ := h l rfl
    refine ⟨by simp [awayL]; omega, fun x hx => ?_⟩
    cases l with
    | nil => simp [awayL, tellA] at hx
    | cons f t => simp [awayL] at hx; rw [← hx]; rfl
/-- What was told of leaves. -/
def ToldF (n : Nat) (ev : Value) (B : Nat) (w' : World) (e : Ending) : Prop := ∃ a cap, e = .returned (.tuple #[.slice a n cap, ev]) ∧ Row w' B 80 11 (.slice a n cap) n ∧ n ≤ cap ∧ cap ≤ maxLen
theorem plan_Clear_any (n : Nat) (ws : List Int) (hw : WOk ws) (root asid a b : Int) (hb : (Lit.int .i64 b).wf = true) : ∃ k ev, k ≤ 900000 ∧ (ev = .nilIface ∨ ∃ k : Nat, ev = errW k) ∧ ∀ w bb g c, MemAt w bb g n c ws → Calls Try.prog 48 #[.pointer (some ⟨bb, 0, none⟩), .int .i64 root, .int .i64 asid, .int .i64 a, .int .i64 b] w fun e w' => Ext w w' ∧ Told 1 k ev w.heap.size w' e :=
  told_any (args := #[.int .i64 root, .int .i64 asid, .int .i64 a, .int .i64 b]) (first_clear asid _ (whole_ok2 (leaves_ok ws n root a b) rfl)) fun w bb g c hm => plan_Clear w hm hw root asid a b hb _ rfl
theorem plan_Leaves_any (n : Nat) (ws : List Int) (hw : WOk ws) (root a b : Int) (hb : (Lit.int .i64 b).wf = true) : ∃ k ev, k ≤ 900000 ∧ (ev = .nilIface ∨ ∃ k : Nat, ev = errW k) ∧ ∀ w bb g c, MemAt w bb g n c ws → Calls Try.prog 49 #[.pointer (some ⟨bb, 0, none⟩), .int .i64 root, .int .i64 a, .int .i64 b] w fun e w' => Ext w w' ∧ ToldF k ev w.heap.size w' e := by
  have hok := leaves_ok ws n root a b
  cases hR : leavesRes ws n root a b with
  | no k => exact ⟨0, _, by omega, .inr ⟨k, rfl⟩, fun w bb g c hm => (plan_Leaves w hm hw root a b hb _ hR).mono fun e w' ⟨h1, h2⟩ => ⟨h1, none, 0, h2, Row.nil _ _ _ _, Nat.le_refl _, by simp⟩⟩
  | yes l =>
    obtain ⟨hl, _⟩ := hok l hR
    refine ⟨l.length, _, by omega, .inl rfl, fun w bb g c hm => (plan_Leaves w hm hw root a b hb _ hR).mono fun e w' ⟨h1, h2⟩ => ?_⟩
    obtain ⟨a, cap, he, ho⟩ := h2
    have hc := own_cap ho
    exact ⟨h1, a, cap, he, .of ho, hc.2.1, hc.2.2⟩
/-- A row's cells at the q-th element of eleven. -/
theorem row_eleven {w : World} {g n : Nat} (h : ∀ j, j < n * 11 → ∃ u, w.cell? ⟨g, j, none⟩ = some u) (q : Nat) (hq : q < n) : ∃ u0 u1 u2 u3 u4 u5 u6 u7 u8 u9 u10, w.cell? ⟨g, q * 11, none⟩ = some u0 ∧ w.cell? ⟨g, q * 11 + 1, none⟩ = some u1 ∧ w.cell? ⟨g, q * 11 + 2, none⟩ = some u2 ∧ w.cell? ⟨g, q * 11 + 3, none⟩ = some u3 ∧ w.cell? ⟨g, q * 11 + 4, none⟩ = some u4 ∧ w.cell? ⟨g, q * 11 + 5, none⟩ = some u5 ∧ w.cell? ⟨g, q * 11 + 6, none⟩ = some u6 ∧ w.cell? ⟨g, q * 11 + 7, none⟩ = some u7 ∧ w.cell? ⟨g, q * 11 + 8, none⟩ = some u8 ∧ w.cell? ⟨g, q * 11 + 9, none⟩ = some u9 ∧ w.cell? ⟨g, q * 11 + 10, none⟩ = some u10 := by
  obtain ⟨u0, h0⟩ := h (q * 11) (by omega)
  obtain ⟨u1, h1⟩ := h (q * 11 + 1) (by omega)
  obtain ⟨u2, h2⟩ := h (q * 11 + 2) (by omega)
  obtain ⟨u3, h3⟩ := h (q * 11 + 3) (by omega)
  obtain ⟨u4, h4⟩ := h (q * 11 + 4) (by omega)
  obtain ⟨u5, h5⟩ := h (q * 11 + 5) (by omega)
  obtain ⟨u6, h6⟩ := h (q * 11 + 6) (by omega)
  obtain ⟨u7, h7⟩ := h (q * 11 + 7) (by omega)
  obtain ⟨u8, h8⟩ := h (q * 11 + 8) (by omega)
  obtain ⟨u9, h9⟩ := h (q * 11 + 9) (by omega)
  obtain ⟨u10, h10⟩ := h (q * 11 + 10) (by omega)
  exact ⟨u0, u1, u2, u3, u4, u5, u6, u7, u8, u9, u10, h0, h1, h2, h3, h4, h5, h6, h7, h8, h9, h10⟩

theorem Row.other {w : World} {B sz n g : Nat} {T : TypeId} {v : Value} (h : Row w B T sz v n) (hg : g < B) (j : Nat) (u : Value) : Row (w.setCell ⟨g, j, none⟩ u) B T sz v n := ⟨_, ownsRow_setCell_below h.choose_spec (a := ⟨g, j, none⟩) hg u⟩

end Go.Proofs.Ytapeoeakiphfpaa
