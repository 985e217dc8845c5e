import Derived.Test.YthcdecgecabgaaaPhys
import Derived.Deep.DeepMust
import Derived.ChangeKeysEq
import Derived.Test.YthcdecgecabgaaaBPtdFound
/- The contracts of the Go package phys, second part: Clone and Same. -/
namespace Go.Proofs.Ythcdecgecabgaaa
open Go.RowKit
set_option linter.unusedVariables false
set_option linter.unusedSimpArgs false

/-- The frames of a memory lie in block g: n of them, room for c. -/
def FramesAt (w : World) (g n c : Nat) (ws : List Int) : Prop :=
  ∃ cur, w.heap[g]? = some (.cells cur 185 (0, 0)) ∧ cur.size = c * 8 ∧ cur.toList.take (n * 8) = ws.map (Value.int .u64)

set_option maxHeartbeats 400000 in
theorem slices_Clone (w : World) {g n c : Nat} {ws : List Int} (hr : FramesAt w g n c ws) (hl : ws.length = n * 8) (hp : 1 ≤ n) (hn : n ≤ 512) (hnc : n ≤ c) :
    Calls Try.prog 101 #[.slice (some ⟨g, 0, none⟩) n c] w fun e w' => ∃ g' c', e = .returned (.slice (some ⟨g', 0, none⟩) n c') ∧ FramesAt w' g' n c' ws ∧ n ≤ c' ∧ c' ≤ maxLen ∧ w.grownBy w' none ∧ w.heap.size ≤ g' := by
  obtain ⟨i, hi, hz, hs, hb⟩ := info_parts info_frame
  have hnews : ∀ j u, (ws.map (Value.int .u64))[j]? = some u → (w.alloc (.cells #[] 185)).cell? ((⟨g, 0, none⟩ : Addr).add j) = some u := by
    obtain ⟨cur, hg, hs, ht⟩ := hr
    intro j u hu
    have hadd : (⟨g, 0, none⟩ : Addr).add j = ⟨g, j, none⟩ := by unfold Addr.add; split <;> simp_all
    rw [hadd, cell_of_row _ g j cur _ (0, 0) ((heap_alloc_old _ _ (Array.getElem?_eq_some_iff.1 hg).1).trans hg)]
    rw [← ht, List.getElem?_take] at hu
    split at hu
    · simpa using hu
    · cases hu
  have hown : (w.alloc (.cells #[] 185)).ownsRow w.heap.size 185 8 (.slice (some ⟨w.heap.size, 0, none⟩) 0 0) 0 [] := World.ownsRow_made w #[] 0 (Nat.le_refl _) (by unfold maxLen; omega) rfl
  have HL := Lib.hid hl
  clear hl hr
  have HI := Lib.hid hi
  have HZ := Lib.hid hz
  have HS := Lib.hid hs
  have HB := Lib.hid hb
  have HN := Lib.hid hnews
  have HO := Lib.hid hown
  clear hi hz hs hb hnews hown
  have hnl := fun w => Lib.run_eql_slice_nil (P := Try.prog) w 160 185 (some ⟨g, 0, none⟩) n c 0 0 Try.underlying160
  go_enter Try.func101, Try.ntmps101
  go_wp2_with (at_builtin; go_must (refine wpList_append_own _ rfl _ _ 160 rfl w.heap.size 185 i _ 8 64 Try.underlying160 HI.out HZ.out HS.out HB.out rfl (by decide) _ 0 [] rfl HO.out ⟨g, 0, none⟩ n c (ws.map (Value.int .u64)) rfl (by simp [HL.out]) HN.out (by intro u hu; obtain ⟨x, _, rfl⟩ := List.mem_map.1 hu; rfl) (by unfold maxLen; omega) (by omega) (by simp) ?_); intro v' w1 hown' hgrow hnil)
  go_ret
  rcases hown'.2 with ⟨rfl, h0⟩ | ⟨g', c', cur, rfl, hb, hg, hnc', hcm, hcs, htk⟩
  · omega
  · refine ⟨g', c', by simp, ⟨cur, hg, hcs, by simpa using htk⟩, by simpa using hnc', hcm, ?_, hb⟩
    exact grow_new (grow_alloc (grow_refl _ _) _) hgrow (Nat.le_refl _)


theorem FramesAt.kept {w w' : World} {g n c : Nat} {ws : List Int} {row : Option Nat} (h : FramesAt w g n c ws) (k : w.grownBy w' row) (hg : some g ≠ row) : FramesAt w' g n c ws := by
  obtain ⟨cur, hc, r⟩ := h
  exact ⟨cur, by rw [k.block g (Array.getElem?_eq_some_iff.1 hc).1 hg]; exact hc, r⟩
theorem FramesAt.cell {w : World} {g n c : Nat} {ws : List Int} (h : FramesAt w g n c ws) (hl : ws.length = n * 8) (i : Nat) (hi : i < n * 8) : w.cell? ⟨g, i, none⟩ = some (.int .u64 (ws.getD i 0)) := by
  obtain ⟨cur, hg, hs, ht⟩ := h
  rw [cell_of_row w g i _ _ _ hg]
  have h1 : (cur.toList.take (n * 8))[i]? = (ws.map (Value.int .u64))[i]? := by rw [ht]
  rw [List.getElem?_take, if_pos hi, List.getElem?_map] at h1
  have : ws[i]? = some (ws.getD i 0) := by rw [List.getElem?_eq_getElem (by omega)]; simp [List.getD, List.getElem?_eq_getElem (show i < ws.length by omega)]
  rw [this] at h1
  simpa using h1

/-- Are the frames from j on the same? -/
def sameFrom (ws us : List Int) (n j : Nat) : Bool := (List.range (n * 8)).all fun i => decide (j * 8 ≤ i → ws.getD i 0 = us.getD i 0)
theorem sameFrom_end (ws us : List Int) (n : Nat) : sameFrom ws us n n = true := by
  simp only [sameFrom, List.all_eq_true, List.mem_range, decide_eq_true_eq]
  intro i hi h; omega
theorem sameFrom_zero (ws us : List Int) (n : Nat) (h1 : ws.length = n * 8) (h2 : us.length = n * 8) : sameFrom ws us n 0 = decide (ws = us) := by
  rw [Bool.eq_iff_iff]
  simp only [sameFrom, List.all_eq_true, List.mem_range, decide_eq_true_eq]
  constructor
  · intro h
    apply List.ext_getElem (by omega)
    intro i h3 h4
    have := h i (by omega) (by omega)
    simpa [List.getD, List.getElem?_eq_getElem h3, List.getElem?_eq_getElem h4] using this
  · rintro rfl i _ _; rfl
theorem sameFrom_step (ws us : List Int) (n j : Nat) (hj : j < n) (h0 : ws.getD (j * 8) 0 = us.getD (j * 8) 0) (h1 : ws.getD (j * 8 + 1) 0 = us.getD (j * 8 + 1) 0) (h2 : ws.getD (j * 8 + 2) 0 = us.getD (j * 8 + 2) 0) (h3 : ws.getD (j * 8 + 3) 0 = us.getD (j * 8 + 3) 0) (h4 : ws.getD (j * 8 + 4) 0 = us.getD (j * 8 + 4) 0) (h5 : ws.getD (j * 8 + 5) 0 = us.getD (j * 8 + 5) 0) (h6 : ws.getD (j * 8 + 6) 0 = us.getD (j * 8 + 6) 0) (h7 : ws.getD (j * 8 + 7) 0 = us.getD (j * 8 + 7) 0) :
    sameFrom ws us n j = sameFrom ws us n (j + 1) := by
  rw [Bool.eq_iff_iff]
  simp only [sameFrom, List.all_eq_true, List.mem_range, decide_eq_true_eq]
  constructor
  · intro h i hi hji; exact h i hi (by omega)
  · intro h i hi hji
    by_cases hk : (j + 1) * 8 ≤ i
    · exact h i hi hk
    · obtain ⟨q, hq, rfl⟩ : ∃ q, q < 8 ∧ i = j * 8 + q := ⟨i - j * 8, by omega, by omega⟩
      match q, hq with
      | 0, _ => exact h0
      | 1, _ => exact h1
      | 2, _ => exact h2
      | 3, _ => exact h3
      | 4, _ => exact h4
      | 5, _ => exact h5
      | 6, _ => exact h6
      | 7, _ => exact h7
theorem sameFrom_not (ws us : List Int) (n j i : Nat) (hi : i < n * 8) (hji : j * 8 ≤ i) (h : ws.getD i 0 ≠ us.getD i 0) : sameFrom ws us n j = false := by
  rw [Bool.eq_false_iff]
  simp only [sameFrom, ne_eq, List.all_eq_true, List.mem_range, decide_eq_true_eq]
  intro hh; exact h (hh i hi hji)

set_option maxHeartbeats 400000 in
theorem slices_Equal_ne (w : World) {g n c g' n' c' : Nat} (h : n ≠ n') :
    Calls Try.prog 103 #[.slice (some ⟨g, 0, none⟩) n c, .slice (some ⟨g', 0, none⟩) n' c'] w fun e w' => e = .returned (.bool false) ∧ w' = w := by
  have h1 : (n == n') = false := by simpa using h
  have h2 : (((n : Int) == (n' : Int)) = false) := by simp; omega
  clear h
  go_enter Try.func103, Try.ntmps103
  go_wp2
  go_ret
  exact ⟨rfl, rfl⟩

theorem eqItems_cons (w : World) (d i : Nat) (is : List Nat) (xs ys : Array Value) (x y : Int) (r : Bool) (hx : xs[i]? = some (.int .u64 x)) (hy : ys[i]? = some (.int .u64 y))
    (h : (Op.eqItems (d + 1) 44 1 xs ys is).run Try.prog w = .ok r w) : (Op.eqItems (d + 1) 44 1 xs ys (i :: is)).run Try.prog w = .ok (x == y && r) w := by
  have hp : ∀ (zs : Array Value) (z : Int), zs[i]? = some (.int .u64 z) → (part 44 zs (i * 1)).run Try.prog w = .ok (.int .u64 z) w := by
    intro zs z hz
    simp [part, isAgg, run_underlying Try.underlying44, hz]
  simp only [Op.eqItems, Sem.run_bind, hp xs x hx, hp ys y hy, Result.andThen_ok, run_equalIn_int w d 44 .u64 .u64 _ _ Try.underlying44]
  cases hb : (x == y)
  · simp
  · simpa using h
set_option maxHeartbeats 400000 in
theorem eq_frames (w : World) (x0 x1 x2 x3 x4 x5 x6 x7 y0 y1 y2 y3 y4 y5 y6 y7 : Int) :
    (Op.equalIn 10000 185 (.agg #[.int .u64 x0, .int .u64 x1, .int .u64 x2, .int .u64 x3, .int .u64 x4, .int .u64 x5, .int .u64 x6, .int .u64 x7]) (.agg #[.int .u64 y0, .int .u64 y1, .int .u64 y2, .int .u64 y3, .int .u64 y4, .int .u64 y5, .int .u64 y6, .int .u64 y7])).run Try.prog w =
      .ok (x0 == y0 && (x1 == y1 && (x2 == y2 && (x3 == y3 && (x4 == y4 && (x5 == y5 && (x6 == y6 && (x7 == y7 && true)))))))) w := by
  obtain ⟨i, hi, _⟩ : ∃ i, Try.prog.info? 44 = some i ∧ True := by
    have h : (Try.prog.info? 44).isSome = true := by kernel_rfl
    obtain ⟨i, hi⟩ := Option.isSome_iff_exists.1 h
    exact ⟨i, hi, trivial⟩
  rw [run_equalIn_array w 9999 _ _ Try.underlying185 hi, show Try.prog.cellsOf 44 = 1 from by kernel_rfl, show List.range 8 = [0, 1, 2, 3, 4, 5, 6, 7] from rfl]
  refine eqItems_cons w 9998 _ _ _ _ _ _ _ rfl rfl ?_
  refine eqItems_cons w 9998 _ _ _ _ _ _ _ rfl rfl ?_
  refine eqItems_cons w 9998 _ _ _ _ _ _ _ rfl rfl ?_
  refine eqItems_cons w 9998 _ _ _ _ _ _ _ rfl rfl ?_
  refine eqItems_cons w 9998 _ _ _ _ _ _ _ rfl rfl ?_
  refine eqItems_cons w 9998 _ _ _ _ _ _ _ rfl rfl ?_
  refine eqItems_cons w 9998 _ _ _ _ _ _ _ rfl rfl ?_
  refine eqItems_cons w 9998 _ _ _ _ _ _ _ rfl rfl ?_
  rfl

set_option maxHeartbeats 1000000 in
theorem slices_Equal (w : World) {g n c g' c' : Nat} {ws us : List Int} (hr : FramesAt w g n c ws) (hl : ws.length = n * 8) (hr' : FramesAt w g' n c' us) (hl' : us.length = n * 8) (hn : n ≤ 512) (hnc : n ≤ c) (hnc' : n ≤ c') :
    Calls Try.prog 103 #[.slice (some ⟨g, 0, none⟩) n c, .slice (some ⟨g', 0, none⟩) n c'] w fun e w' => e = .returned (.bool (sameFrom ws us n 0)) ∧ ∃ m, w' = w.drewN m := by
  have HR := Lib.hid hr
  have HR' := Lib.hid hr'
  have HL := Lib.hid hl
  have HL' := Lib.hid hl'
  clear hr hr' hl hl'
  go_enter Try.func103, Try.ntmps103
  go_wp2
  go_loopw [13] (fun i wr => ∃ k : Nat, k ≤ n ∧ i = .int .i64 k ∧ sameFrom ws us n 0 = sameFrom ws us n k ∧ ∃ m, wr = w.drewN m) (fun i _ => n - (intOf i).toNat)
  case atStart => exact ⟨0, Nat.zero_le _, rfl, rfl, 0, rfl⟩
  case round =>
    obtain ⟨k, hk, rfl, hs, m, rfl⟩ := hrel
    by_cases hlt : k < n
    · have HS := Lib.hid hs
      clear hs
      have KR := HR.out
      have KR' := HR'.out
      have hx0 := KR.cell HL.out (k * 8) (by omega)
      have hx1 := KR.cell HL.out (k * 8 + 1) (by omega)
      have hx2 := KR.cell HL.out (k * 8 + 2) (by omega)
      have hx3 := KR.cell HL.out (k * 8 + 3) (by omega)
      have hx4 := KR.cell HL.out (k * 8 + 4) (by omega)
      have hx5 := KR.cell HL.out (k * 8 + 5) (by omega)
      have hx6 := KR.cell HL.out (k * 8 + 6) (by omega)
      have hx7 := KR.cell HL.out (k * 8 + 7) (by omega)
      have hy0 := KR'.cell HL'.out (k * 8) (by omega)
      have hy1 := KR'.cell HL'.out (k * 8 + 1) (by omega)
      have hy2 := KR'.cell HL'.out (k * 8 + 2) (by omega)
      have hy3 := KR'.cell HL'.out (k * 8 + 3) (by omega)
      have hy4 := KR'.cell HL'.out (k * 8 + 4) (by omega)
      have hy5 := KR'.cell HL'.out (k * 8 + 5) (by omega)
      have hy6 := KR'.cell HL'.out (k * 8 + 6) (by omega)
      have hy7 := KR'.cell HL'.out (k * 8 + 7) (by omega)
      clear KR KR'
      have heq := fun w => eq_frames w
      go_wp2
      go_region
      all_goals go_wp2
      · rename_i h
        go_ret
        refine ⟨ret_bool ?_, m + 1, rfl⟩
        rw [HS.out]
        rcases h with h | h | h | h | h | h | h | h
        · exact (sameFrom_not ws us n k (k * 8) (by omega) (by omega) (by simpa using h)).symm
        · exact (sameFrom_not ws us n k (k * 8 + 1) (by omega) (by omega) (by simpa using h)).symm
        · exact (sameFrom_not ws us n k (k * 8 + 2) (by omega) (by omega) (by simpa using h)).symm
        · exact (sameFrom_not ws us n k (k * 8 + 3) (by omega) (by omega) (by simpa using h)).symm
        · exact (sameFrom_not ws us n k (k * 8 + 4) (by omega) (by omega) (by simpa using h)).symm
        · exact (sameFrom_not ws us n k (k * 8 + 5) (by omega) (by omega) (by simpa using h)).symm
        · exact (sameFrom_not ws us n k (k * 8 + 6) (by omega) (by omega) (by simpa using h)).symm
        · exact (sameFrom_not ws us n k (k * 8 + 7) (by omega) (by omega) (by simpa using h)).symm
      · rename_i h
        go_roundw
        case rel =>
          refine ⟨k + 1, by omega, by go_num, ?_, m + 1, rfl⟩
          rw [HS.out]
          simp at h
          obtain ⟨a0, a1, a2, a3, a4, a5, a6, a7⟩ := h
          exact sameFrom_step ws us n k hlt (by simpa using a0) (by simpa using a1) (by simpa using a2) (by simpa using a3) (by simpa using a4) (by simpa using a5) (by simpa using a6) (by simpa using a7)
        case measure => simp [intOf]; omega
    · have : k = n := by omega
      subst this
      go_wp2
      go_ret
      exact ⟨ret_bool (by rw [hs, sameFrom_end]), m, rfl⟩

theorem MemAt.frames {w : World} {b g n c : Nat} {ws : List Int} (h : MemAt w b g n c ws) : FramesAt w g n c ws := h.row

set_option maxHeartbeats 400000 in
/-- A clone: it tells what the memory did, and lies apart. -/
theorem phys_Clone (w : World) {b g n c : Nat} {ws : List Int} (hm : MemAt w b g n c ws) :
    Calls Try.prog 56 #[.pointer (some ⟨b, 0, none⟩)] w fun e w' => ∃ b' g' c', e = .returned (.pointer (some ⟨b', 0, none⟩)) ∧ MemAt w' b' g' n c' ws ∧ w.grownBy w' none ∧ w.heap.size ≤ b' ∧ w.heap.size ≤ g' := by
  have h0 := hm.cell0
  have hc := slices_Clone w hm.frames hm.len hm.pos hm.le hm.nc
  have H := Lib.hid hc
  have HM := Lib.hid hm
  clear hc hm
  go_enter Try.func56, Try.ntmps56
  go_wp2_with fail
  refine H.out.mono ?_
  rintro e w1 ⟨g', c', rfl, hf, hn, hcm, hgr, hg⟩
  have HF := Lib.hid hf
  have HG := Lib.hid hgr
  clear hf hgr
  go_wp2
  go_ret
  obtain ⟨cur, hcur, hcs⟩ := HF.out
  refine ⟨w1.heap.size, g', c', rfl, ?_, grow_alloc HG.out _, HG.out.size, hg⟩
  exact { hdr := heap_alloc_new _ _, row := ⟨cur, (heap_alloc_old _ _ (Array.getElem?_eq_some_iff.1 hcur).1).trans hcur, hcs⟩, len := HM.out.len, pos := HM.out.pos, le := HM.out.le, nc := hn, cm := hcm }

set_option maxHeartbeats 400000 in
theorem phys_Same_nil (w : World) {b : Nat} :
    Calls Try.prog 59 #[.pointer (some ⟨b, 0, none⟩), .pointer none] w fun e w' => e = .returned (.bool false) ∧ ∃ m, w' = w.drewN m := by
  go_enter Try.func59, Try.ntmps59
  go_wp2
  go_quiet (fail)
  go_wp2
  go_ret
  exact ⟨rfl, _, rfl⟩

theorem slices_Equal_both (w : World) {b g n c b' g' n' c' : Nat} {ws us : List Int} (hm : MemAt w b g n c ws) (hm' : MemAt w b' g' n' c' us) (k : Nat) :
    Calls Try.prog 103 #[.slice (some ⟨g, 0, none⟩) n c, .slice (some ⟨g', 0, none⟩) n' c'] (w.drewN k) fun e w' => e = .returned (.bool (decide (ws = us))) ∧ ∃ m, w' = (w.drewN k).drewN m := by
  by_cases hn : n = n'
  · subst hn
    refine (slices_Equal (w.drewN k) hm.frames hm.len hm'.frames hm'.len hm.le hm.nc hm'.nc).mono ?_
    rintro e w' ⟨rfl, hg⟩
    exact ⟨ret_bool (sameFrom_zero ws us n hm.len hm'.len), hg⟩
  · refine (slices_Equal_ne (w.drewN k) hn).mono ?_
    rintro e w' ⟨rfl, rfl⟩
    refine ⟨ret_bool ?_, 0, rfl⟩
    have h1 := hm.len
    have h2 := hm'.len
    symm
    rw [decide_eq_false_iff_not]
    rintro rfl
    omega

set_option maxHeartbeats 1000000 in
theorem phys_Same (w : World) {b g n c b' g' n' c' : Nat} {ws us : List Int} (hm : MemAt w b g n c ws) (hm' : MemAt w b' g' n' c' us) :
    Calls Try.prog 59 #[.pointer (some ⟨b, 0, none⟩), .pointer (some ⟨b', 0, none⟩)] w fun e w' => e = .returned (.bool (decide (ws = us))) ∧ ∃ m, w' = w.drewN m := by
  have h0 := hm.cell0
  have h0' := hm'.cell0
  have H := Lib.hid (slices_Equal_both w hm hm')
  clear hm hm'
  go_enter Try.func59, Try.ntmps59
  go_wp2
  go_quiet ((go_at_call 103; exact Calls.quiet_of (H.out _)))
  go_wp2
  go_ret
  exact ⟨rfl, _, rfl⟩

end Go.Proofs.Ythcdecgecabgaaa

/- The contract of walk.Walk. -/
namespace Go.Proofs.Ythcdecgecabgaaa
open Go.RowKit
set_option linter.unusedVariables false
set_option linter.unusedSimpArgs false
attribute [local go_sem] setCell_drewN alloc_drewN

/-- All words are words of 64 bits. -/
def WOk (ws : List Int) : Prop := ∀ x ∈ ws, 0 ≤ x ∧ x < 18446744073709551616
theorem WOk.getD {ws : List Int} (h : WOk ws) (i : Nat) : 0 ≤ ws.getD i 0 ∧ ws.getD i 0 < 18446744073709551616 := by
  simp only [List.getD]
  cases hi : ws[i]? with
  | none => simp
  | some x => simpa using h x (List.mem_of_getElem? hi)
theorem decD_frame (level x : Int) : 0 ≤ (decD level x).fFrame ∧ (decD level x).fFrame < 512 := by
  unfold decD
  split
  · rename_i h
    simp only [okD, Bool.and_eq_true, decide_eq_true_eq] at h
    exact ⟨h.1.1.1.1.1.2, h.1.1.1.1.2⟩
  · exact ⟨by decide, by decide⟩
theorem decD_last (x : Int) : (decD 3 x).fKind ≠ 1 := by
  unfold decD
  split
  · rename_i h
    simp only [okD, Bool.and_eq_true, decide_eq_true_eq] at h
    intro e
    have h2 := h.1.2
    simp [mayD, e] at h2
  · decide

/-- What a walk finds from a table of a level on; none: something isn't there. -/
def walkAt (ws : List Int) (n : Int) (page : Int) : Nat → Int → Int → Option Found
  | 0, _, _ => none
  | k + 1, level, table =>
    if 0 ≤ table ∧ table < n then
      (if (decD level (ws.getD (table.toNat * 8 + (placeN level page).toNat) 0)).fKind = 1 then walkAt ws n page k (level + 1) (decD level (ws.getD (table.toNat * 8 + (placeN level page).toNat) 0)).fFrame
      else some (foundD (decD level (ws.getD (table.toNat * 8 + (placeN level page).toNat) 0)) level table (placeN level page) page))
    else none
def zeroF : Found := ⟨0, 0, 0, 0, 0, 0, 0, 0, false, false, false⟩
/-- What Walk answers, where root and page are there. -/
def walkV (r : Option Found) : Value := match r with
  | some f => .tuple #[f.v, .nilIface]
  | none => .tuple #[zeroF.v, errW 2]

theorem walk_found (w : World) (d : Desc) (level table place page : Int) (hp0 : 0 ≤ page) (hp1 : page < 4096) (hf0 : 0 ≤ d.fFrame) (hf1 : d.fFrame < 512) :
    Calls Try.prog 134 #[d.v, .int .i64 level, .int .i64 table, .int .i64 place, .int .i64 page] w fun e w' => e = .returned (foundD d level table place page).v ∧ w.grownBy w' none := by
  by_cases h2 : d.fKind = 2
  · exact walk_found_some w d level table place page hp0 hp1 hf0 hf1 (.inl h2)
  · by_cases h3 : d.fKind = 3
    · exact walk_found_some w d level table place page hp0 hp1 hf0 hf1 (.inr h3)
    · exact walk_found_none w d level table place page h2 h3

set_option maxHeartbeats 400000 in
theorem walk_Walk_nil (w : World) (root page : Int) :
    Calls Try.prog 97 #[.pointer none, .int .i64 root, .int .i64 page] w fun e w' => e = .returned (.tuple #[zeroF.v, errW 1]) ∧ w.grownBy w' none := by
  go_enter Try.func97, Try.ntmps97
  go_wp2_with fail
  exact bodyPost_ret (results_cell_tmp rfl _ _ w.heap.size 53 _ (0, 0) _ rfl (heap_alloc_new _ _) Try.underlying53 rfl (by kernel_rfl)) rfl ⟨rfl, World.grownBy_alloc _ _ _⟩

set_option maxHeartbeats 1000000 in
theorem walk_Walk_no (w : World) {b g n c : Nat} {ws : List Int} (hm : MemAt w b g n c ws) (root page : Int) (h : ¬ (0 ≤ root ∧ root < n ∧ 0 ≤ page ∧ page < 4096)) :
    Calls Try.prog 97 #[.pointer (some ⟨b, 0, none⟩), .int .i64 root, .int .i64 page] w fun e w' => e = .returned (.tuple #[zeroF.v, errW 1]) ∧ w.grownBy w' none := by
  have hk := hm.kept0 (World.grownBy_alloc w (.cells #[.int .i64 0, .int .i64 0, .int .i64 0, .int .i64 0, .int .i64 0, .int .i64 0, .int .i64 0, .int .i64 0, .bool false, .bool false, .bool false] 53) none)
  have HF := Lib.hid (phys_Frames _ hk)
  clear hk
  by_cases h1 : root < 0
  · clear h
    go_enter Try.func97, Try.ntmps97
    go_wp2_with fail
    exact bodyPost_ret (results_cell_tmp rfl _ _ w.heap.size 53 _ (0, 0) _ rfl (heap_alloc_new _ _) Try.underlying53 rfl (by kernel_rfl)) rfl ⟨rfl, World.grownBy_alloc _ _ _⟩
  · by_cases h2 : (n : Int) ≤ root
    · clear h
      go_enter Try.func97, Try.ntmps97
      go_wp2_with fail
      refine HF.out.mono ?_
      rintro e w1 ⟨rfl, rfl⟩
      go_wp2_with fail
      exact bodyPost_ret (results_cell_tmp rfl _ _ w.heap.size 53 _ (0, 0) _ rfl (heap_alloc_new _ _) Try.underlying53 rfl (by kernel_rfl)) rfl ⟨rfl, World.grownBy_alloc _ _ _⟩
    · by_cases h3 : page < 0
      · clear h
        go_enter Try.func97, Try.ntmps97
        go_wp2_with fail
        refine HF.out.mono ?_
        rintro e w1 ⟨rfl, rfl⟩
        go_wp2_with fail
        exact bodyPost_ret (results_cell_tmp rfl _ _ w.heap.size 53 _ (0, 0) _ rfl (heap_alloc_new _ _) Try.underlying53 rfl (by kernel_rfl)) rfl ⟨rfl, World.grownBy_alloc _ _ _⟩
      · have h4 : 4096 ≤ page := by omega
        clear h
        go_enter Try.func97, Try.ntmps97
        go_wp2_with fail
        refine HF.out.mono ?_
        rintro e w1 ⟨rfl, rfl⟩
        go_wp2_with fail
        exact bodyPost_ret (results_cell_tmp rfl _ _ w.heap.size 53 _ (0, 0) _ rfl (heap_alloc_new _ _) Try.underlying53 rfl (by kernel_rfl)) rfl ⟨rfl, World.grownBy_alloc _ _ _⟩

set_option maxRecDepth 100000 in
set_option maxHeartbeats 2000000 in
theorem walk_Walk (w : World) {b g n c : Nat} {ws : List Int} (hm : MemAt w b g n c ws) (hw : WOk ws) (root page : Int) (h0 : 0 ≤ root) (h1 : root < n) (h2 : 0 ≤ page) (h3 : page < 4096) :
    Calls Try.prog 97 #[.pointer (some ⟨b, 0, none⟩), .int .i64 root, .int .i64 page] w fun e w' => e = .returned (walkV (walkAt ws n page 4 0 root)) ∧ w.grownBy w' none := by
  have hk := hm.kept0 (World.grownBy_alloc w (.cells #[.int .i64 0, .int .i64 0, .int .i64 0, .int .i64 0, .int .i64 0, .int .i64 0, .int .i64 0, .int .i64 0, .bool false, .bool false, .bool false] 53) none)
  have HF := Lib.hid (phys_Frames _ hk)
  have HW := Lib.hid hw
  clear hw hm
  go_enter Try.func97, Try.ntmps97
  go_wp2_with fail
  refine HF.out.mono ?_
  rintro e w1 ⟨rfl, rfl⟩
  go_wp2_with fail
  go_loopw [8, 9] (fun t l wr => ∃ (lv : Nat) (tb : Int), lv ≤ 3 ∧ t = .int .i64 tb ∧ l = .int .i64 lv ∧ Hid (walkAt ws n page 4 0 root = walkAt ws n page (4 - lv) lv tb) ∧ MemAt wr b g n c ws ∧ w.grownBy wr none ∧
      Hid (wr.heap[w.heap.size]? = some (.cells #[.int .i64 0, .int .i64 0, .int .i64 0, .int .i64 0, .int .i64 0, .int .i64 0, .int .i64 0, .int .i64 0, .bool false, .bool false, .bool false] 53 (0, 0)))) (fun _ l _ => 4 - (intOf l).toNat)
  case atStart => exact ⟨0, root, by omega, rfl, rfl, rfl, hk, World.grownBy_alloc _ _ _, heap_alloc_new _ _⟩
  case round =>
    obtain ⟨lv, tb, hlv, rfl, rfl, HE, hmr, GR, HB⟩ := hrel
    have p0 := placeN_lo lv page
    have p1 := placeN_hi lv page
    have sz := GR.size
    have hlt : w.heap.size < wr.heap.size := (Array.getElem?_eq_some_iff.1 HB.out).1
    go_wp2_with fail
    refine (walk_Place _ lv page (by omega) (by omega) h2 h3).mono ?_
    rintro e w2 ⟨rfl, m, rfl⟩
    generalize hpl : placeN lv page = pl at *
    have HPL := Lib.hid hpl
    clear hpl
    have G2 := grow_drewN GR m
    have hm2 := hmr.kept0 (grow_drewN (grow_refl wr none) m)
    have hB2 : (wr.drewN m).heap[w.heap.size]? = _ := HB.out
    have hlt2 : w.heap.size < (wr.drewN m).heap.size := hlt
    generalize wr.drewN m = wa at *
    have HB2 := Lib.hid hB2
    clear hB2 HB GR hmr
    by_cases htb : 0 ≤ tb ∧ tb < n
    · obtain ⟨t0, t1⟩ := htb
      go_wp2_with fail
      obtain ⟨x, hx⟩ : ∃ x, ws.getD (tb.toNat * 8 + pl.toNat) 0 = x := ⟨_, rfl⟩
      refine (phys_Load_is _ hm2 tb pl x t0 t1 p0 p1 hx).mono ?_
      rintro e w3 ⟨rfl, rfl⟩
      have hxw := HW.out.getD (tb.toNat * 8 + pl.toNat)
      rw [hx] at hxw
      obtain ⟨x0, x1⟩ := hxw
      have HX := Lib.hid hx
      clear hx
      go_wp2_with fail
      refine (pte_Decode _ lv x (by omega) (by omega) x0 x1).mono ?_
      rintro e w4 ⟨rfl, hg4⟩
      have hm4 := hm2.kept0 hg4
      have G4 := grow_trans G2 hg4
      have hB4 : w4.heap[w.heap.size]? = _ := (hg4.block _ hlt2 (by simp)).trans HB2.out
      have HB4 := Lib.hid hB4
      have hlt4 : w.heap.size < w4.heap.size := by have := hg4.size; omega
      have hdf := decD_frame lv x
      have hd3 : lv = 3 → (decD lv x).fKind ≠ 1 := by rintro rfl; exact decD_last x
      generalize hd : decD lv x = d at *
      have HD := Lib.hid hd
      clear hd hg4 hm2 G2 HB2 hB4
      obtain ⟨k, f, wr', ex, se, fo, so⟩ := d
      dsimp only at hdf hd3
      obtain ⟨f0, f1⟩ := hdf
      by_cases hk1 : k = 1
      · subst hk1
        have hl2 : lv ≤ 2 := by
          rcases Nat.lt_or_ge lv 3 with h | h
          · omega
          · exact absurd rfl (hd3 (by omega))
        have HN : Hid (walkAt ws n page 4 0 root = walkAt ws n page (4 - (lv + 1)) ((lv + 1 : Nat) : Int) f) := by
          show _ = _
          rw [HE.out, show 4 - lv = (4 - (lv + 1)) + 1 from by omega]
          conv => lhs; unfold walkAt
          rw [if_pos ⟨t0, t1⟩, HPL.out, HX.out, HD.out, if_pos rfl]
          rfl
        clear hd3 HE HX HD HPL
        go_wp2_with fail
        go_roundw
        case rel =>
          refine ⟨lv + 1, f, by omega, rfl, by go_num, HN, hm4.kept0 (World.grownBy_alloc _ _ _), grow_alloc G4 _, ?_⟩
          exact (heap_alloc_old _ _ hlt4).trans HB4.out
        case measure => simp [intOf]; omega
      · have hkb : (k != 1) = true := by simpa using hk1
        have hv : walkAt ws n page 4 0 root = some (foundD ⟨k, f, wr', ex, se, fo, so⟩ lv tb pl page) := by
          rw [HE.out, show 4 - lv = (3 - lv) + 1 from by omega]
          unfold walkAt
          rw [if_pos ⟨t0, t1⟩, HPL.out, HX.out, HD.out, if_neg hk1]
        have HV := Lib.hid hv
        clear hd3 HE HX HD HPL hk1 hv
        go_wp2_with fail
        refine (walk_found _ ⟨k, f, wr', ex, se, fo, so⟩ lv tb pl page h2 h3 f0 f1).mono ?_
        rintro e w5 ⟨rfl, hg5⟩
        have hB5 : w5.heap[w.heap.size]? = _ := (hg5.block _ (by simp; omega) (by simp)).trans ((heap_alloc_old _ _ hlt4).trans HB4.out)
        have G5 := grow_trans (grow_alloc G4 _) hg5
        obtain ⟨y0, y1, y2, y3, y4, y5, y6, y7, y8, y9, y10, yf⟩ := cells11 hB5
        have HB5 := Lib.hid hB5
        clear hB5 hg5 G4 hm4 HB4
        generalize foundD ⟨k, f, wr', ex, se, fo, so⟩ lv tb pl page = F at *
        obtain ⟨F0, F1, F2, F3, F4, F5, F6, F7, F8, F9, F10⟩ := F
        go_wp2_with fail
        refine bodyPost_ret (results_cell_tmp rfl _ _ w.heap.size 53 _ (0, 0) _ rfl (set11 HB5.out _ _ _ _ _ _ _ _ _ _ _) Try.underlying53 rfl (by kernel_rfl)) rfl ⟨by rw [HV.out]; rfl, grow_new G5 (grow_set11 _ _ _ _ _ _ _ _ _ _ _ _ _) (Nat.le_refl _)⟩
    · have hv : walkAt ws n page 4 0 root = none := by
        rw [HE.out, show 4 - lv = (3 - lv) + 1 from by omega]
        unfold walkAt
        rw [if_neg htb]
      have HV := Lib.hid hv
      have HT := Lib.hid htb
      clear HE hv htb
      obtain ⟨y0, y1, y2, y3, y4, y5, y6, y7, y8, y9, y10, yf⟩ := cells11 HB2.out
      go_wp2_with fail
      refine (phys_Load_no _ hm2 tb pl (by have := HT.out; omega)).mono ?_
      rintro e w3 ⟨rfl, rfl⟩
      go_wp2_with fail
      refine bodyPost_ret (results_cell_tmp rfl _ _ w.heap.size 53 _ (0, 0) _ rfl (set11 HB2.out _ _ _ _ _ _ _ _ _ _ _) Try.underlying53 rfl (by kernel_rfl)) rfl ⟨by rw [HV.out]; rfl, grow_new G2 (grow_set11 _ _ _ _ _ _ _ _ _ _ _ _ _) (Nat.le_refl _)⟩

end Go.Proofs.Ythcdecgecabgaaa
