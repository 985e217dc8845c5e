import Derived.Test.YthcdecgecabgaaaRows
import Derived.WalkKit
import Derived.WalkSpells
import Derived.WalkLawsBesides
import Derived.Deep.QuietTactic
import Derived.BigQuiet
import Derived.Lib.Hide
/- Base words: a memory of frames (the Go type phys.Memory) as a flat list of words, errors, and what a call leaves as it was. -/
namespace Go.Proofs.Ythcdecgecabgaaa
open Go.RowKit
set_option linter.unusedVariables false
set_option linter.unusedSimpArgs false

/-- An error of the Go type api.Code, as a value. -/
abbrev errW (n : Int) : Value := .iface 59 (.int .i64 n)

theorem run_equalIn_iface_int {P : Program} (w : World) (d : Nat) {ti tn : TypeId} {ms : Array (String × TypeId)} {i : TypeInfo} {k : IntKind} (a b : Int)
    (hi : P.underlying ti = some (.interface ms)) (hn : P.underlying tn = some (.int k)) (hinfo : P.info? tn = some i) (hcomp : i.comparable = true) :
    (Op.equalIn (d + 2) ti (.iface tn (.int k a)) (.iface tn (.int k b))).run P w = .ok (a == b) w := by
  simp [Op.equalIn, run_underlying hi, run_underlying hn, typeInfo, hinfo, hcomp]
theorem code_info : ∃ i, Try.prog.info? 59 = some i ∧ i.comparable = true := by
  have h : (Try.prog.info? 59).map (·.comparable) = some true := by kernel_rfl
  obtain ⟨i, hi, hc⟩ := Option.map_eq_some_iff.1 h
  exact ⟨i, hi, hc⟩
/-- Two errors of the Go type api.Code are the same if their numbers are. -/
theorem eql_err (w : World) (a b : Int) : (binOp .eql 33 (errW a) (errW b)).run Try.prog w = .ok (.bool (a == b)) w := by
  obtain ⟨i, hi, hc⟩ := code_info
  simp only [binOp]
  simp [Op.equal, Op.maxDepth, run_equalIn_iface_int w 9998 a b Try.underlying33 Try.underlying59 hi hc]
theorem neq_err (w : World) (a b : Int) : (binOp .neq 33 (errW a) (errW b)).run Try.prog w = .ok (.bool (!(a == b))) w := by
  obtain ⟨i, hi, hc⟩ := code_info
  simp only [binOp]
  simp [Op.equal, Op.maxDepth, run_equalIn_iface_int w 9998 a b Try.underlying33 Try.underlying59 hi hc]

theorem quiet_add {P : Program} {f : FuncId} {args : Array Value} {w : World} {a n : Nat} {v : Value}
    (h : Calls P f args (w.drewN (a + n)) fun e w' => e = .returned v ∧ ∃ m, w' = (w.drewN (a + n)).drewN m) :
    Calls P f args (w.drewN (a + n)) fun e w'' => e = .returned v ∧ ∃ m, w'' = w.drewN (a + m) :=
  h.mono fun _ _ ⟨he, m, hm⟩ => ⟨he, n + m, by rw [hm, World.drewN_drewN, Nat.add_assoc]⟩
theorem quiet_add_same {P : Program} {f : FuncId} {args : Array Value} {w : World} {a n : Nat} {v : Value}
    (h : Calls P f args (w.drewN (a + n)) fun e w' => e = .returned v ∧ w' = w.drewN (a + n)) :
    Calls P f args (w.drewN (a + n)) fun e w'' => e = .returned v ∧ ∃ m, w'' = w.drewN (a + m) :=
  h.mono fun _ _ ⟨he, hm⟩ => ⟨he, n, hm⟩

theorem setCell_drewN (w : World) (n : Nat) (a : Addr) (v : Value) : (w.drewN n).setCell a v = (w.setCell a v).drewN n := rfl
theorem alloc_drewN (w : World) (n : Nat) (o : Obj) : (w.drewN n).alloc o = (w.alloc o).drewN n := rfl

theorem heap_alloc_if (w : World) (o : Obj) (k : Nat) : (w.alloc o).heap[k]? = if k = w.heap.size then some o else w.heap[k]? := by
  split
  · rename_i h; subst h; exact heap_alloc_new w o
  · rename_i h
    show (w.heap.push o)[k]? = w.heap[k]?
    rw [Array.getElem?_push, if_neg h]

/-- The world w' is w with new blocks, and perhaps a turned block `row`. -/
theorem grow_refl (w : World) (row : Option Nat) : w.grownBy w row := ⟨rfl, rfl, rfl, Nat.le_refl _, fun _ _ _ => rfl⟩
theorem grow_trans {a b c : World} {row : Option Nat} (h : a.grownBy b row) (k : b.grownBy c row) : a.grownBy c row :=
  ⟨k.os.trans h.os, k.tape.trans h.tape, k.output.trans h.output, Nat.le_trans h.size k.size, fun i hi hr => (k.block i (Nat.lt_of_lt_of_le hi h.size) hr).trans (h.block i hi hr)⟩
theorem grow_of_none {a b : World} {row : Option Nat} (h : a.grownBy b none) : a.grownBy b row := ⟨h.os, h.tape, h.output, h.size, fun i hi _ => h.block i hi (by simp)⟩
/-- A block made since then may be turned. -/
theorem grow_new {a b c : World} {row : Option Nat} {g : Nat} (h : a.grownBy b row) (k : b.grownBy c (some g)) (hg : a.heap.size ≤ g) : a.grownBy c row :=
  ⟨k.os.trans h.os, k.tape.trans h.tape, k.output.trans h.output, Nat.le_trans h.size k.size, fun i hi hr => (k.block i (Nat.lt_of_lt_of_le hi h.size) (by simp; omega)).trans (h.block i hi hr)⟩
theorem grow_alloc {a w : World} {row : Option Nat} (h : a.grownBy w row) (o : Obj) : a.grownBy (w.alloc o) row := grow_trans h (World.grownBy_alloc w o row)
theorem grow_drew {a w : World} {row : Option Nat} (h : a.grownBy w row) : a.grownBy w.drew row := ⟨h.os, h.tape, h.output, h.size, h.block⟩
theorem grow_drewN {a w : World} {row : Option Nat} (h : a.grownBy w row) (n : Nat) : a.grownBy (w.drewN n) row := by
  induction n with
  | zero => exact h
  | succ n ih => exact ⟨ih.os, ih.tape, ih.output, ih.size, ih.block⟩
theorem grow_setCell {a w : World} {row : Option Nat} (h : a.grownBy w row) (p : Addr) (v : Value) (hp : a.heap.size ≤ p.block ∨ some p.block = row) : a.grownBy (w.setCell p v) row :=
  ⟨h.os, h.tape, h.output, by simpa using h.size, fun i hi hr => by
    rw [Below.heap_setCell]
    · exact h.block i hi hr
    · rcases hp with hp | hp
      · omega
      · intro e; subst e; exact hr hp⟩
theorem grow_below {B : Nat} {a b : World} {row : Option Nat} (h : a.grownBy b row) (hB : B ≤ a.heap.size) (hr : ∀ k, row = some k → B ≤ k) : Below B a b :=
  (Below.refl B a).grown h hB hr

/-- At block b lies a memory's header, at block g its n frames (of 8 words), room for c; ws: all words, one behind another. -/
structure MemAt (w : World) (b g n c : Nat) (ws : List Int) : Prop where
  hdr : w.heap[b]? = some (.cells #[.slice (some ⟨g, 0, none⟩) n c] 162 (0, 0))
  row : ∃ cur, w.heap[g]? = some (.cells cur 185 (0, 0)) ∧ cur.size = c * 8 ∧ cur.toList.take (n * 8) = ws.map (Value.int .u64)
  len : ws.length = n * 8
  pos : 1 ≤ n
  le : n ≤ 512
  nc : n ≤ c
  cm : c ≤ maxLen

theorem MemAt.ltb {w : World} {b g n c : Nat} {ws : List Int} (h : MemAt w b g n c ws) : b < w.heap.size := (Array.getElem?_eq_some_iff.1 h.hdr).1
theorem MemAt.ltg {w : World} {b g n c : Nat} {ws : List Int} (h : MemAt w b g n c ws) : g < w.heap.size := by
  obtain ⟨cur, hg, _⟩ := h.row
  exact (Array.getElem?_eq_some_iff.1 hg).1
theorem MemAt.ne {w : World} {b g n c : Nat} {ws : List Int} (h : MemAt w b g n c ws) : b ≠ g := by
  intro e; subst e
  obtain ⟨cur, hg, _⟩ := h.row
  rw [h.hdr] at hg
  simp at hg
theorem MemAt.kept {w w' : World} {b g n c : Nat} {ws : List Int} {row : Option Nat} (h : MemAt w b g n c ws) (k : w.grownBy w' row) (hb : some b ≠ row) (hg : some g ≠ row) : MemAt w' b g n c ws :=
  { h with hdr := by rw [k.block b h.ltb hb]; exact h.hdr, row := by rw [k.block g h.ltg hg]; exact h.row }
theorem MemAt.kept0 {w w' : World} {b g n c : Nat} {ws : List Int} (h : MemAt w b g n c ws) (k : w.grownBy w' none) : MemAt w' b g n c ws := h.kept k (by simp) (by simp)
theorem MemAt.cell0 {w : World} {b g n c : Nat} {ws : List Int} (h : MemAt w b g n c ws) : w.cell? ⟨b, 0, none⟩ = some (.slice (some ⟨g, 0, none⟩) n c) := by
  rw [cell_of_row w b 0 _ _ _ h.hdr]; rfl
theorem MemAt.cell {w : World} {b g n c : Nat} {ws : List Int} (h : MemAt w b g n c ws) (i : Nat) (hi : i < n * 8) : w.cell? ⟨g, i, none⟩ = some (.int .u64 (ws.getD i 0)) := by
  obtain ⟨cur, hg, hs, ht⟩ := h.row
  rw [cell_of_row w g i _ _ _ hg]
  have h1 : (cur.toList.take (n * 8))[i]? = (ws.map (Value.int .u64))[i]? := by rw [ht]
  rw [List.getElem?_take, if_pos hi, List.getElem?_map] at h1
  have hl := h.len
  have : ws[i]? = some (ws.getD i 0) := by rw [List.getElem?_eq_getElem (by omega)]; simp [List.getD, List.getElem?_eq_getElem (show i < ws.length by omega)]
  rw [this] at h1
  simpa using h1
theorem MemAt.free {w : World} {b g n c : Nat} {ws : List Int} (h : MemAt w b g n c ws) (i : Nat) : w.frozen? ⟨g, i, none⟩ = false := by
  obtain ⟨cur, hg, hs, ht⟩ := h.row
  exact frozen_of_row w g i _ _ hg
/-- One word is stored. -/
theorem MemAt.put {w : World} {b g n c : Nat} {ws : List Int} (h : MemAt w b g n c ws) (i : Nat) (x : Int) (hi : i < n * 8) : MemAt (w.setCell ⟨g, i, none⟩ (.int .u64 x)) b g n c (ws.set i x) := by
  obtain ⟨cur, hg, hs, ht⟩ := h.row
  refine { h with hdr := ?_, row := ?_, len := ?_ }
  · rw [heap_setCell_other _ _ _ _ h.ne]; exact h.hdr
  · refine ⟨_, heap_setCell_same w g i cur _ _ hg, by simpa using hs, ?_⟩
    rw [Array.toList_setIfInBounds, List.take_set, ht, List.map_set]
  · rw [List.length_set]; exact h.len

end Go.Proofs.Ythcdecgecabgaaa

/- The contracts of the Go packages word (fields) and walk.Place. -/
namespace Go.Proofs.Ythcdecgecabgaaa
open Go.RowKit
set_option linter.unusedVariables false
set_option linter.unusedSimpArgs false

theorem u64_wraps (n : Int) (h0 : 0 ≤ n) (h1 : n < 2 ^ 64) : IntKind.u64.wrap n = n := by rw [IntKind.wrap_u64]; omega
theorem and_mask (i : Nat) (hi : i ≤ 64) (x : Int) (h0 : 0 ≤ x) (h1 : x < 18446744073709551616) : Go.bits .and .u64 x (2 ^ i - 1) = x % 2 ^ i :=
  bits_mask .u64 64 (by decide) u64_wraps i hi x h0 (by simpa using h1)

set_option maxHeartbeats 400000 in
theorem word_field_yes (w : World) (a n : Int) (h0 : 0 ≤ a) (h1 : 1 ≤ n) (h2 : a + n ≤ 64) :
    Calls Try.prog 201 #[.int .i64 a, .int .i64 n] w fun e w' => e = .returned (.bool true) ∧ w' = w := by
  have h3 : a < 64 := by omega
  have h4 : n ≤ 64 := by omega
  go_enter Try.func201, Try.ntmps201
  go_wp2
  go_ret
  exact ⟨by simp, rfl⟩

theorem mask_val (n : Nat) (h : n ≤ 64) : IntKind.u64.wrap (IntKind.u64.wrap (2 ^ n) - 1) = 2 ^ n - 1 := by
  by_cases e : n = 64
  · subst e; decide
  · have h1 : (2 : Nat) ^ n ≤ 2 ^ 63 := Nat.pow_le_pow_right (by omega) (by omega)
    have h2 : (1 : Nat) ≤ 2 ^ n := Nat.one_le_two_pow
    have h3 : ((2 : Int) ^ n) = ((2 ^ n : Nat) : Int) := by simp
    rw [h3]
    generalize 2 ^ n = q at *
    rw [u64_wraps q (by omega) (by omega), u64_wraps _ (by omega) (by omega)]

set_option maxHeartbeats 400000 in
theorem word_mask (w : World) (n : Int) (h1 : 1 ≤ n) (h2 : n ≤ 64) :
    Calls Try.prog 202 #[.int .i64 n] w fun e w' => e = .returned (.int .u64 (2 ^ n.toNat - 1)) ∧ w' = w := by
  have h0 : 0 ≤ n := by omega
  have hv := mask_val n.toNat (by omega)
  have HV := Lib.hid hv
  clear hv
  go_enter Try.func202, Try.ntmps202
  go_wp2
  go_ret
  refine ⟨?_, rfl⟩
  have := HV.out
  simp at this ⊢
  exact this

set_option maxHeartbeats 400000 in
theorem word_Field (w : World) (x a n : Int) (hx : 0 ≤ x) (hx' : x < 18446744073709551616) (h0 : 0 ≤ a) (h1 : 1 ≤ n) (h2 : a + n ≤ 64) :
    Calls Try.prog 182 #[.int .u64 x, .int .i64 a, .int .i64 n] w fun e w' => e = .returned (.tuple #[.int .u64 (x / 2 ^ a.toNat % 2 ^ n.toNat), .nilIface]) ∧ ∃ m, w' = w.drewN m := by
  have hq0 : 0 ≤ x / 2 ^ a.toNat := Int.ediv_nonneg hx (Int.pow_nonneg (by omega))
  have hq1 : x / 2 ^ a.toNat < 18446744073709551616 := by
    have : x / 2 ^ a.toNat ≤ x := Int.ediv_le_self _ hx
    omega
  have hv := and_mask n.toNat (by omega) _ hq0 hq1
  have hm : min a.toNat 64 = a.toNat := Nat.min_eq_left (by omega)
  have HV := Lib.hid hv
  have HM := Lib.hid hm
  clear hv hm hq0 hq1
  have HF := Lib.hid (word_field_yes w a n h0 h1 h2)
  go_enter Try.func182, Try.ntmps182
  go_wp2_with fail
  refine HF.out.mono ?_
  rintro e w1 ⟨rfl, rfl⟩
  go_wp2_with fail
  go_quiet ((go_at_call 202; exact Calls.quiet_of_same (word_mask _ _ (by omega) (by omega))))
  go_wp2_with fail
  go_ret2
  refine ⟨?_, _, rfl⟩
  have := HV.out
  simp at this ⊢
  exact this

/-- A page's place at a level. -/
def placeN (level page : Int) : Int := page / 2 ^ ((3 - level) * 3).toNat % 8
theorem placeN_lo (level page : Int) : 0 ≤ placeN level page := Int.emod_nonneg _ (by omega)
theorem placeN_hi (level page : Int) : placeN level page < 8 := Int.emod_lt_of_pos _ (by omega)

set_option maxHeartbeats 400000 in
theorem walk_Place_no (w : World) (level page : Int) (h : ¬ (0 ≤ level ∧ level < 4 ∧ 0 ≤ page ∧ page < 4096)) :
    Calls Try.prog 133 #[.int .i64 level, .int .i64 page] w fun e w' => e = .returned (.tuple #[.int .i64 0, errW 1]) ∧ w' = w := by
  by_cases h1 : level < 0
  · clear h
    go_enter Try.func133, Try.ntmps133
    go_wp2_with fail
    go_ret2
    exact ⟨rfl, rfl⟩
  · by_cases h2 : 4 ≤ level
    · clear h
      go_enter Try.func133, Try.ntmps133
      go_wp2_with fail
      go_ret2
      exact ⟨rfl, rfl⟩
    · by_cases h3 : page < 0
      · clear h
        go_enter Try.func133, Try.ntmps133
        go_wp2_with fail
        go_ret2
        exact ⟨rfl, rfl⟩
      · have h4 : 4096 ≤ page := by omega
        clear h
        go_enter Try.func133, Try.ntmps133
        go_wp2_with fail
        go_ret2
        exact ⟨rfl, rfl⟩

set_option maxHeartbeats 400000 in
theorem walk_Place (w : World) (level page : Int) (h0 : 0 ≤ level) (h1 : level < 4) (h2 : 0 ≤ page) (h3 : page < 4096) :
    Calls Try.prog 133 #[.int .i64 level, .int .i64 page] w fun e w' => e = .returned (.tuple #[.int .i64 (placeN level page), .nilIface]) ∧ ∃ m, w' = w.drewN m := by
  go_enter Try.func133, Try.ntmps133
  go_wp2_with fail
  refine (word_Field _ _ _ _ (by omega) (by omega) (by omega) (by omega) (by omega)).mono ?_
  rintro e w1 ⟨rfl, m, rfl⟩
  go_wp2_with fail
  go_ret2
  exact ⟨rfl, m, rfl⟩

end Go.Proofs.Ythcdecgecabgaaa
