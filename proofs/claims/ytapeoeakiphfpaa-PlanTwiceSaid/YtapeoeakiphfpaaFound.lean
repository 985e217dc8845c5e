import Derived.Test.YtapeoeakiphfpaaPtd
import Derived.BigRegion
/- The contracts of the Go package walk: order and found. -/
namespace Go.Proofs.Ytapeoeakiphfpaa
open Go.RowKit
set_option linter.unusedVariables false
set_option linter.unusedSimpArgs false
attribute [local go_sem] setCell_drewN alloc_drewN

theorem set11 {w : World} {g : Nat} {T : TypeId} {a0 a1 a2 a3 a4 a5 a6 a7 a8 a9 a10 : Value} (h : w.heap[g]? = some (.cells #[a0, a1, a2, a3, a4, a5, a6, a7, a8, a9, a10] T (0, 0))) (v0 v1 v2 v3 v4 v5 v6 v7 v8 v9 v10 : Value) :
    (((((((((((w.setCell ⟨g, 0, none⟩ v0).setCell ⟨g, 1, none⟩ v1).setCell ⟨g, 2, none⟩ v2).setCell ⟨g, 3, none⟩ v3).setCell ⟨g, 4, none⟩ v4).setCell ⟨g, 5, none⟩ v5).setCell ⟨g, 6, none⟩ v6).setCell ⟨g, 7, none⟩ v7).setCell ⟨g, 8, none⟩ v8).setCell ⟨g, 9, none⟩ v9).setCell ⟨g, 10, none⟩ v10).heap[g]? = some (.cells #[v0, v1, v2, v3, v4, v5, v6, v7, v8, v9, v10] T (0, 0)) := by
  have h0 : (w.setCell ⟨g, 0, none⟩ v0).heap[g]? = some (.cells #[v0, a1, a2, a3, a4, a5, a6, a7, a8, a9, a10] T (0, 0)) := heap_setCell_same _ g 0 _ _ v0 h
  have h1 : ((w.setCell ⟨g, 0, none⟩ v0).setCell ⟨g, 1, none⟩ v1).heap[g]? = some (.cells #[v0, v1, a2, a3, a4, a5, a6, a7, a8, a9, a10] T (0, 0)) := heap_setCell_same _ g 1 _ _ v1 h0
  have h2 : (((w.setCell ⟨g, 0, none⟩ v0).setCell ⟨g, 1, none⟩ v1).setCell ⟨g, 2, none⟩ v2).heap[g]? = some (.cells #[v0, v1, v2, a3, a4, a5, a6, a7, a8, a9, a10] T (0, 0)) := heap_setCell_same _ g 2 _ _ v2 h1
  have h3 : ((((w.setCell ⟨g, 0, none⟩ v0).setCell ⟨g, 1, none⟩ v1).setCell ⟨g, 2, none⟩ v2).setCell ⟨g, 3, none⟩ v3).heap[g]? = some (.cells #[v0, v1, v2, v3, a4, a5, a6, a7, a8, a9, a10] T (0, 0)) := heap_setCell_same _ g 3 _ _ v3 h2
  have h4 : (((((w.setCell ⟨g, 0, none⟩ v0).setCell ⟨g, 1, none⟩ v1).setCell ⟨g, 2, none⟩ v2).setCell ⟨g, 3, none⟩ v3).setCell ⟨g, 4, none⟩ v4).heap[g]? = some (.cells #[v0, v1, v2, v3, v4, a5, a6, a7, a8, a9, a10] T (0, 0)) := heap_setCell_same _ g 4 _ _ v4 h3
  have h5 : ((((((w.setCell ⟨g, 0, none⟩ v0).setCell ⟨g, 1, none⟩ v1).setCell ⟨g, 2, none⟩ v2).setCell ⟨g, 3, none⟩ v3).setCell ⟨g, 4, none⟩ v4).setCell ⟨g, 5, none⟩ v5).heap[g]? = some (.cells #[v0, v1, v2, v3, v4, v5, a6, a7, a8, a9, a10] T (0, 0)) := heap_setCell_same _ g 5 _ _ v5 h4
  have h6 : (((((((w.setCell ⟨g, 0, none⟩ v0).setCell ⟨g, 1, none⟩ v1).setCell ⟨g, 2, none⟩ v2).setCell ⟨g, 3, none⟩ v3).setCell ⟨g, 4, none⟩ v4).setCell ⟨g, 5, none⟩ v5).setCell ⟨g, 6, none⟩ v6).heap[g]? = some (.cells #[v0, v1, v2, v3, v4, v5, v6, a7, a8, a9, a10] T (0, 0)) := heap_setCell_same _ g 6 _ _ v6 h5
  have h7 : ((((((((w.setCell ⟨g, 0, none⟩ v0).setCell ⟨g, 1, none⟩ v1).setCell ⟨g, 2, none⟩ v2).setCell ⟨g, 3, none⟩ v3).setCell ⟨g, 4, none⟩ v4).setCell ⟨g, 5, none⟩ v5).setCell ⟨g, 6, none⟩ v6).setCell ⟨g, 7, none⟩ v7).heap[g]? = some (.cells #[v0, v1, v2, v3, v4, v5, v6, v7, a8, a9, a10] T (0, 0)) := heap_setCell_same _ g 7 _ _ v7 h6
  have h8 : (((((((((w.setCell ⟨g, 0, none⟩ v0).setCell ⟨g, 1, none⟩ v1).setCell ⟨g, 2, none⟩ v2).setCell ⟨g, 3, none⟩ v3).setCell ⟨g, 4, none⟩ v4).setCell ⟨g, 5, none⟩ v5).setCell ⟨g, 6, none⟩ v6).setCell ⟨g, 7, none⟩ v7).setCell ⟨g, 8, none⟩ v8).heap[g]? = some (.cells #[v0, v1, v2, v3, v4, v5, v6, v7, v8, a9, a10] T (0, 0)) := heap_setCell_same _ g 8 _ _ v8 h7
  have h9 : ((((((((((w.setCell ⟨g, 0, none⟩ v0).setCell ⟨g, 1, none⟩ v1).setCell ⟨g, 2, none⟩ v2).setCell ⟨g, 3, none⟩ v3).setCell ⟨g, 4, none⟩ v4).setCell ⟨g, 5, none⟩ v5).setCell ⟨g, 6, none⟩ v6).setCell ⟨g, 7, none⟩ v7).setCell ⟨g, 8, none⟩ v8).setCell ⟨g, 9, none⟩ v9).heap[g]? = some (.cells #[v0, v1, v2, v3, v4, v5, v6, v7, v8, v9, a10] T (0, 0)) := heap_setCell_same _ g 9 _ _ v9 h8
  have h10 : (((((((((((w.setCell ⟨g, 0, none⟩ v0).setCell ⟨g, 1, none⟩ v1).setCell ⟨g, 2, none⟩ v2).setCell ⟨g, 3, none⟩ v3).setCell ⟨g, 4, none⟩ v4).setCell ⟨g, 5, none⟩ v5).setCell ⟨g, 6, none⟩ v6).setCell ⟨g, 7, none⟩ v7).setCell ⟨g, 8, none⟩ v8).setCell ⟨g, 9, none⟩ v9).setCell ⟨g, 10, none⟩ v10).heap[g]? = some (.cells #[v0, v1, v2, v3, v4, v5, v6, v7, v8, v9, v10] T (0, 0)) := heap_setCell_same _ g 10 _ _ v10 h9
  exact h10
theorem grow_set11 (w : World) (g : Nat) (v0 v1 v2 v3 v4 v5 v6 v7 v8 v9 v10 : Value) : w.grownBy (((((((((((w.setCell ⟨g, 0, none⟩ v0).setCell ⟨g, 1, none⟩ v1).setCell ⟨g, 2, none⟩ v2).setCell ⟨g, 3, none⟩ v3).setCell ⟨g, 4, none⟩ v4).setCell ⟨g, 5, none⟩ v5).setCell ⟨g, 6, none⟩ v6).setCell ⟨g, 7, none⟩ v7).setCell ⟨g, 8, none⟩ v8).setCell ⟨g, 9, none⟩ v9).setCell ⟨g, 10, none⟩ v10) (some g) := by
  repeat (refine grow_setCell ?_ _ _ (.inr rfl))
  exact grow_refl _ _
theorem cells11 {w : World} {g : Nat} {T : TypeId} {a0 a1 a2 a3 a4 a5 a6 a7 a8 a9 a10 : Value} (h : w.heap[g]? = some (.cells #[a0, a1, a2, a3, a4, a5, a6, a7, a8, a9, a10] T (0, 0))) :
    w.cell? ⟨g, 0, none⟩ = some a0 ∧ w.cell? ⟨g, 1, none⟩ = some a1 ∧ w.cell? ⟨g, 2, none⟩ = some a2 ∧ w.cell? ⟨g, 3, none⟩ = some a3 ∧ w.cell? ⟨g, 4, none⟩ = some a4 ∧ w.cell? ⟨g, 5, none⟩ = some a5 ∧ w.cell? ⟨g, 6, none⟩ = some a6 ∧ w.cell? ⟨g, 7, none⟩ = some a7 ∧ w.cell? ⟨g, 8, none⟩ = some a8 ∧ w.cell? ⟨g, 9, none⟩ = some a9 ∧ w.cell? ⟨g, 10, none⟩ = some a10 ∧ ∀ i, w.frozen? ⟨g, i, none⟩ = false := by
  refine ⟨?_, ?_, ?_, ?_, ?_, ?_, ?_, ?_, ?_, ?_, ?_, fun i => frozen_of_row _ _ _ _ _ h⟩
  all_goals (rw [cell_of_row _ _ _ _ _ _ h]; rfl)


theorem alloc3_0 (w : World) (a b c : Obj) : (((w.alloc a).alloc b).alloc c).heap[w.heap.size]? = some a := by
  rw [heap_alloc_if, if_neg (by simp; omega), heap_alloc_if, if_neg (by simp), heap_alloc_if, if_pos rfl]
theorem alloc3_1 (w : World) (a b c : Obj) : (((w.alloc a).alloc b).alloc c).heap[w.heap.size + 1]? = some b := by
  rw [heap_alloc_if, if_neg (by simp), heap_alloc_if, if_pos (by simp)]
theorem alloc3_2 (w : World) (a b c : Obj) : (((w.alloc a).alloc b).alloc c).heap[w.heap.size + 2]? = some c := by
  rw [heap_alloc_if, if_pos (by simp)]
theorem alloc4_1 (w : World) (a b c d : Obj) : ((((w.alloc a).alloc b).alloc c).alloc d).heap[w.heap.size + 1]? = some b := by
  rw [heap_alloc_if, if_neg (by simp), alloc3_1]
abbrev Found.v (d : Found) : Value := .agg #[.int .i64 d.fKind, .int .i64 d.fLevel, .int .i64 d.fTable, .int .i64 d.fPlace, .int .i64 d.fFrame, .int .i64 d.fOrder, .int .i64 d.fFirst, .int .i64 d.fBase, .bool d.fWrite, .bool d.fExec, .bool d.fSeen]

theorem bv_split {n : Nat} (x y : BitVec n) : (x &&& y).toNat + (x &&& ~~~y).toNat = x.toNat := by
  have h : (x &&& y) &&& (x &&& ~~~y) = 0#n := by
    ext i hi
    simp
    intro _ h2 _
    exact h2
  have h2 : (x &&& y) ||| (x &&& ~~~y) = x := by
    ext i hi
    simp
    cases x[i] <;> cases y[i] <;> rfl
  rw [← BitVec.toNat_add_of_and_eq_zero h, BitVec.add_eq_or_of_and_eq_zero _ _ h, h2]
theorem i64_wraps (n : Int) (h0 : 0 ≤ n) (h1 : n < 2 ^ 63) : IntKind.i64.wrap n = n := by rw [IntKind.wrap_i64]; omega
theorem and_low_i64 (p : Int) (i : Nat) (hi : i ≤ 62) (h0 : 0 ≤ p) (h1 : p < 4096) : Go.bits .and .i64 p (2 ^ i - 1) = p % 2 ^ i ∧ Go.bits .andNot .i64 p (2 ^ i - 1) = p - p % 2 ^ i := by
  have e := bits_mask .i64 63 (by decide) i64_wraps i (by omega) p h0 (by omega)
  refine ⟨e, ?_⟩
  obtain ⟨p, rfl⟩ := Int.eq_ofNat_of_zero_le h0
  have hs := bv_split (BitVec.ofInt 64 (p : Int)) (BitVec.ofInt 64 ((2 : Int) ^ i - 1))
  have hp : (BitVec.ofInt 64 (p : Int)).toNat = p := by rw [BitVec.ofInt_natCast, BitVec.toNat_ofNat]; exact Nat.mod_eq_of_lt (by omega)
  have e1 : Go.bits .and .i64 (p : Int) (2 ^ i - 1) = IntKind.i64.wrap ((BitVec.ofInt 64 (p : Int) &&& BitVec.ofInt 64 ((2 : Int) ^ i - 1)).toNat : Int) := rfl
  have e2 : Go.bits .andNot .i64 (p : Int) (2 ^ i - 1) = IntKind.i64.wrap ((BitVec.ofInt 64 (p : Int) &&& ~~~(BitVec.ofInt 64 ((2 : Int) ^ i - 1))).toNat : Int) := rfl
  rw [hp] at hs
  generalize (BitVec.ofInt 64 (p : Int) &&& BitVec.ofInt 64 ((2 : Int) ^ i - 1)).toNat = u at *
  generalize (BitVec.ofInt 64 (p : Int) &&& ~~~(BitVec.ofInt 64 ((2 : Int) ^ i - 1))).toNat = v at *
  rw [i64_wraps _ (by omega) (by omega)] at e1 e2
  rw [e2, ← e, e1]
  omega
theorem and7 (p : Int) (h0 : 0 ≤ p) (h1 : p < 4096) : Go.bits .and .i64 p 7 = p % 8 ∧ Go.bits .andNot .i64 p 7 = p - p % 8 := and_low_i64 p 3 (by omega) h0 h1
theorem and3 (p : Int) (h0 : 0 ≤ p) (h1 : p < 4096) : Go.bits .and .i64 p 3 = p % 4 ∧ Go.bits .andNot .i64 p 3 = p - p % 4 := and_low_i64 p 2 (by omega) h0 h1
theorem and0 (p : Int) (h0 : 0 ≤ p) (h1 : p < 4096) : Go.bits .and .i64 p 0 = 0 ∧ Go.bits .andNot .i64 p 0 = p := by
  have h := and_low_i64 p 0 (by omega) h0 h1
  simp at h
  exact h

/-- How many pages something that is found is of, as an order. -/
def orderD (d : Desc) : Int := if d.fKind = 2 then 3 else if d.fFold then 2 else 0
set_option maxHeartbeats 400000 in
theorem walk_order (w : World) (d : Desc) : Calls Try.prog 152 #[d.v] w fun e w' => e = .returned (.int .i64 (orderD d)) ∧ w' = w.alloc (.cells #[.int .i64 d.fKind, .int .i64 d.fFrame, .bool d.fWrite, .bool d.fExec, .bool d.fSeen, .bool d.fFold, .int .i64 d.fSoft] 107) := by
  obtain ⟨k, f, wr, ex, se, fo, so⟩ := d
  by_cases hk : k = 2
  · subst hk
    go_enter Try.func152, Try.ntmps152
    go_wp2_with fail
    go_ret
    exact ⟨rfl, rfl⟩
  · have hk' : (k == 2) = false := by simpa using hk
    have hv : orderD ⟨k, f, wr, ex, se, fo, so⟩ = if fo then 2 else 0 := by simp [orderD, hk]
    have HV := Lib.hid hv
    clear hv hk
    cases fo
    all_goals
      go_enter Try.func152, Try.ntmps152
      go_wp2_with fail
      go_ret
      exact ⟨by rw [HV.out]; rfl, rfl⟩

/-- What a walk of a page finds, where it ends at something. -/
def foundD (d : Desc) (level table place page : Int) : Found :=
  if d.fKind = 2 then ⟨2, level, table, place, d.fFrame + page % 8, 3, page - page % 8, d.fFrame, d.fWrite, d.fExec, d.fSeen⟩
  else if d.fKind = 3 then (if d.fFold then ⟨3, level, table, place, d.fFrame, 2, page - page % 4, d.fFrame - page % 4, d.fWrite, d.fExec, d.fSeen⟩ else ⟨3, level, table, place, d.fFrame, 0, page, d.fFrame, d.fWrite, d.fExec, d.fSeen⟩)
  else ⟨d.fKind, level, table, place, 0, 0, 0, 0, false, false, false⟩

set_option maxHeartbeats 1000000 in
theorem walk_found_none (w : World) (d : Desc) (level table place page : Int) (h2 : d.fKind ≠ 2) (h3 : d.fKind ≠ 3) :
    Calls Try.prog 133 #[d.v, .int .i64 level, .int .i64 table, .int .i64 place, .int .i64 page] w fun e w' => e = .returned (foundD d level table place page).v ∧ w.grownBy w' none := by
  obtain ⟨k, f, wr, ex, se, fo, so⟩ := d
  dsimp only at h2 h3
  have k2 : (k != 2) = true := by simpa using h2
  have k3 : (k != 3) = true := by simpa using h3
  have hv : foundD ⟨k, f, wr, ex, se, fo, so⟩ level table place page = ⟨k, level, table, place, 0, 0, 0, 0, false, false, false⟩ := by simp [foundD, h2, h3]
  have HV := Lib.hid hv
  clear hv h2 h3
  go_enter Try.func133, Try.ntmps133
  go_wp2_with fail
  refine bodyPost_ret (results_cell_row rfl _ _ (w.heap.size + 1) 80 _ (0, 0) _ rfl ?_ Try.underlying80 rfl (by kernel_rfl)) rfl ⟨by rw [HV.out], ?_⟩
  · exact alloc3_1 _ _ _ _
  · repeat (first | exact grow_refl _ _ | refine grow_alloc ?_ _)

set_option maxHeartbeats 2000000 in
theorem walk_found_some (w : World) (d : Desc) (level table place page : Int) (hp0 : 0 ≤ page) (hp1 : page < 4096) (hf0 : 0 ≤ d.fFrame) (hf1 : d.fFrame < 512) (hk : d.fKind = 2 ∨ d.fKind = 3) :
    Calls Try.prog 133 #[d.v, .int .i64 level, .int .i64 table, .int .i64 place, .int .i64 page] w fun e w' => e = .returned (foundD d level table place page).v ∧ w.grownBy w' none := by
  obtain ⟨k, f, wr, ex, se, fo, so⟩ := d
  dsimp only at hk hf0 hf1
  have q7 := and7 page hp0 hp1
  have q3 := and3 page hp0 hp1
  have q0 := and0 page hp0 hp1
  have Q7 := Lib.hid q7
  have Q3 := Lib.hid q3
  have Q0 := Lib.hid q0
  clear q7 q3 q0
  rcases hk with rfl | rfl
  · have hv : orderD ⟨2, f, wr, ex, se, fo, so⟩ = 3 := rfl
    have HV := Lib.hid hv
    clear hv
    go_enter Try.func133, Try.ntmps133
    go_wp2_with fail
    refine (walk_order _ ⟨2, f, wr, ex, se, fo, so⟩).mono ?_
    rintro e w1 ⟨rfl, rfl⟩
    rw [HV.out]
    go_wp2_with fail
    go_region
    go_wp2_with fail
    go_region
    go_wp2_with fail
    refine bodyPost_ret (results_cell_row rfl _ _ (w.heap.size + 1) 80 _ (0, 0) _ rfl (alloc4_1 _ _ _ _ _) Try.underlying80 rfl (by kernel_rfl)) rfl ⟨?_, ?_⟩
    · rw [Q7.out.1, Q7.out.2]
      have e1 : wrap64 (f + page % 8) = f + page % 8 := by unfold wrap64; omega
      have e2 : wrap64 (f + page % 8 - page % 8) = f := by unfold wrap64; omega
      rw [e1, e2]
      rfl
    · repeat (first | exact grow_refl _ _ | refine grow_alloc ?_ _ | refine grow_drewN ?_ _ | refine grow_drew ?_)
  · cases fo
    · have hv : orderD ⟨3, f, wr, ex, se, false, so⟩ = 0 := rfl
      have HV := Lib.hid hv
      clear hv
      go_enter Try.func133, Try.ntmps133
      go_wp2_with fail
      refine (walk_order _ ⟨3, f, wr, ex, se, false, so⟩).mono ?_
      rintro e w1 ⟨rfl, rfl⟩
      rw [HV.out]
      go_wp2_with fail
      go_region
      go_wp2_with fail
      go_region
      go_wp2_with fail
      refine bodyPost_ret (results_cell_row rfl _ _ (w.heap.size + 1) 80 _ (0, 0) _ rfl (alloc4_1 _ _ _ _ _) Try.underlying80 rfl (by kernel_rfl)) rfl ⟨?_, ?_⟩
      · rw [Q0.out.1, Q0.out.2]
        have e1 : wrap64 (f - 0) = f := by unfold wrap64; omega
        rw [e1]
        rfl
      · repeat (first | exact grow_refl _ _ | refine grow_alloc ?_ _ | refine grow_drewN ?_ _ | refine grow_drew ?_)
    · have hv : orderD ⟨3, f, wr, ex, se, true, so⟩ = 2 := rfl
      have HV := Lib.hid hv
      clear hv
      go_enter Try.func133, Try.ntmps133
      go_wp2_with fail
      refine (walk_order _ ⟨3, f, wr, ex, se, true, so⟩).mono ?_
      rintro e w1 ⟨rfl, rfl⟩
      rw [HV.out]
      go_wp2_with fail
      go_region
      go_wp2_with fail
      go_region
      go_wp2_with fail
      refine bodyPost_ret (results_cell_row rfl _ _ (w.heap.size + 1) 80 _ (0, 0) _ rfl (alloc4_1 _ _ _ _ _) Try.underlying80 rfl (by kernel_rfl)) rfl ⟨?_, ?_⟩
      · rw [Q3.out.1, Q3.out.2]
        have e1 : wrap64 (f - page % 4) = f - page % 4 := by unfold wrap64; omega
        rw [e1]
        rfl
      · repeat (first | exact grow_refl _ _ | refine grow_alloc ?_ _ | refine grow_drewN ?_ _ | refine grow_drew ?_)

end Go.Proofs.Ytapeoeakiphfpaa
