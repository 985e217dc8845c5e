import Derived.Test.YthcdecgecabgaaaBPhytWalk
import Derived.Deep.DeepMust
import Derived.Deep.OwnRows
/- The walks of the law WalkPlaces and of the head of the laws of layer 4. -/
namespace Go.Proofs.Ythcdecgecabgaaa
open Go.RowKit
set_option linter.unusedVariables false
set_option linter.unusedSimpArgs false
attribute [local go_sem] setCell_drewN alloc_drewN

theorem walkAt_up : walkAt (List.replicate 8 0) 1 5 4 0 0 = some zeroF := by decide +kernel

/-- The document's place: a page divided by 8, level by level. -/
def refPlace : Nat → Int → Int
  | 0, p => p % 8
  | k + 1, p => refPlace k (p / 8)
theorem refPlace_eq (k : Nat) : ∀ p : Int, refPlace k p = p / 8 ^ k % 8 := by
  induction k with
  | zero => intro p; simp [refPlace]
  | succ k ih =>
    intro p
    rw [refPlace, ih, Int.ediv_ediv_of_nonneg (by omega), Int.pow_succ, Int.mul_comm]
theorem placeN_ref (level : Nat) (h : level ≤ 3) (p : Int) : placeN level p = refPlace (3 - level) p := by
  rw [refPlace_eq, placeN]
  congr 2
  rw [show ((3 - (level : Int)) * 3).toNat = 3 * (3 - level) from by omega, Int.pow_mul]
  rfl

set_option maxHeartbeats 400000 in
theorem ref04_Place (w : World) (level page : Int) (h0 : 0 ≤ level) (h1 : level ≤ 3) (h2 : 0 ≤ page) (h3 : page < 4096) :
    Calls Try.prog 119 #[.int .i64 level, .int .i64 page] w fun e w' => e = .returned (.int .i64 (placeN level page)) ∧ w' = w := by
  obtain ⟨level, rfl⟩ := Int.eq_ofNat_of_zero_le h0
  have h1' : level ≤ 3 := by omega
  have hv := placeN_ref level h1' page
  have HV := Lib.hid hv
  clear hv
  go_enter Try.func119, Try.ntmps119
  go_wp2_with fail
  go_loop [1, 5] (fun p i => ∃ (k : Nat) (q : Int), level ≤ k ∧ k ≤ 3 ∧ i = .int .i64 k ∧ p = .int .i64 q ∧ 0 ≤ q ∧ q < 4096 ∧ Hid (placeN level page = refPlace (3 - k) q)) (fun _ i => 3 - (intOf i).toNat)
  case atStart => exact ⟨level, page, Nat.le_refl _, h1', rfl, rfl, h2, h3, HV⟩
  case round =>
    obtain ⟨k, q, hk0, hk, rfl, rfl, q0, q1, HQ⟩ := hrel
    by_cases hlt : k < 3
    · go_wp2
      go_round
      case rel =>
        refine ⟨k + 1, q / 8, by omega, by omega, by go_num, rfl, by omega, by omega, ?_⟩
        show _ = _
        rw [HQ.out, show 3 - k = (3 - (k + 1)) + 1 from by omega, refPlace]
      case measure => simp [intOf]; omega
    · have : k = 3 := by omega
      subst this
      go_wp2
      go_ret
      exact ⟨by rw [HQ.out]; rfl, rfl⟩

end Go.Proofs.Ythcdecgecabgaaa

/- The document's answer's memory (paviorref03.Memory, a slice of slices): its words; New and Has. -/
namespace Go.Proofs.Ythcdecgecabgaaa
open Go.RowKit
set_option linter.unusedVariables false
set_option linter.unusedSimpArgs false

/-- At block h lies a list of n rows of 8 words (room for hc); row i lies in block gb i (room for gc i); us: all words. -/
structure RefAt (w : World) (h hc n : Nat) (gb gc : Nat → Nat) (us : List Int) : Prop where
  head : ∃ cur, w.heap[h]? = some (.cells cur 49 (0, 0)) ∧ ∀ i, i < n → cur[i]? = some (.slice (some ⟨gb i, 0, none⟩) 8 (gc i))
  row : ∀ i, i < n → ∃ cur, w.heap[gb i]? = some (.cells cur 44 (0, 0)) ∧ ∀ j, j < 8 → cur[j]? = some (.int .u64 (us.getD (i * 8 + j) 0))
  inj : ∀ i j, i < n → j < n → gb i = gb j → i = j
  len : us.length = n * 8
  nc : n ≤ hc
  cc : ∀ i, i < n → 8 ≤ gc i

section
variable {w w' : World} {h hc n : Nat} {gb gc : Nat → Nat} {us : List Int}
theorem RefAt.lth (r : RefAt w h hc n gb gc us) : h < w.heap.size := by
  obtain ⟨cur, hg, _⟩ := r.head
  exact (Array.getElem?_eq_some_iff.1 hg).1
theorem RefAt.ltg (r : RefAt w h hc n gb gc us) (i : Nat) (hi : i < n) : gb i < w.heap.size := by
  obtain ⟨cur, hg, _⟩ := r.row i hi
  exact (Array.getElem?_eq_some_iff.1 hg).1
theorem RefAt.ne (r : RefAt w h hc n gb gc us) (i : Nat) (hi : i < n) : gb i ≠ h := by
  intro e
  obtain ⟨cur, hg, _⟩ := r.row i hi
  obtain ⟨cur', hg', _⟩ := r.head
  rw [e, hg'] at hg
  simp at hg
theorem RefAt.kept {row : Option Nat} (r : RefAt w h hc n gb gc us) (k : w.grownBy w' row) (hh : some h ≠ row) (hg : ∀ i, i < n → some (gb i) ≠ row) : RefAt w' h hc n gb gc us :=
  { r with
    head := by
      obtain ⟨cur, h1, h2⟩ := r.head
      exact ⟨cur, by rw [k.block h r.lth hh]; exact h1, h2⟩
    row := fun i hi => by
      obtain ⟨cur, h1, h2⟩ := r.row i hi
      exact ⟨cur, by rw [k.block (gb i) (r.ltg i hi) (hg i hi)]; exact h1, h2⟩ }
theorem RefAt.kept0 (r : RefAt w h hc n gb gc us) (k : w.grownBy w' none) : RefAt w' h hc n gb gc us := r.kept k (by simp) (by simp)
/-- A memory's blocks are none of these. -/
theorem RefAt.mem_ne {b g c m : Nat} {ws : List Int} (r : RefAt w h hc n gb gc us) (hm : MemAt w b g m c ws) : h ≠ g ∧ (∀ i, i < n → gb i ≠ g) ∧ (∀ i, i < n → gb i ≠ b) ∧ h ≠ b := by
  obtain ⟨cur, hg, _⟩ := hm.row
  obtain ⟨cur', hg', _⟩ := r.head
  refine ⟨?_, ?_, ?_, ?_⟩
  · intro e; rw [e, hg] at hg'; simp at hg'
  · intro i hi e
    obtain ⟨cur2, h2, _⟩ := r.row i hi
    rw [e, hg] at h2; simp at h2
  · intro i hi e
    obtain ⟨cur2, h2, _⟩ := r.row i hi
    rw [e, hm.hdr] at h2; simp at h2
  · intro e; rw [e, hm.hdr] at hg'; simp at hg'
theorem RefAt.hcell (r : RefAt w h hc n gb gc us) (i : Nat) (hi : i < n) : w.cell? ⟨h, i, none⟩ = some (.slice (some ⟨gb i, 0, none⟩) 8 (gc i)) := by
  obtain ⟨cur, hg, hc⟩ := r.head
  rw [cell_of_row w h i _ _ _ hg]; exact hc i hi
theorem RefAt.cell (r : RefAt w h hc n gb gc us) (i j : Nat) (hi : i < n) (hj : j < 8) : w.cell? ⟨gb i, j, none⟩ = some (.int .u64 (us.getD (i * 8 + j) 0)) := by
  obtain ⟨cur, hg, hc⟩ := r.row i hi
  rw [cell_of_row w _ j _ _ _ hg]; exact hc j hj
theorem RefAt.free (r : RefAt w h hc n gb gc us) (i j : Nat) (hi : i < n) : w.frozen? ⟨gb i, j, none⟩ = false := by
  obtain ⟨cur, hg, hc⟩ := r.row i hi
  exact frozen_of_row w _ j _ _ hg
theorem RefAt.hfree (r : RefAt w h hc n gb gc us) (j : Nat) : w.frozen? ⟨h, j, none⟩ = false := by
  obtain ⟨cur, hg, hc⟩ := r.head
  exact frozen_of_row w _ j _ _ hg
/-- One word is stored. -/
theorem RefAt.put (r : RefAt w h hc n gb gc us) (i j : Nat) (x : Int) (hi : i < n) (hj : j < 8) : RefAt (w.setCell ⟨gb i, j, none⟩ (.int .u64 x)) h hc n gb gc (us.set (i * 8 + j) x) := by
  have hl := r.len
  refine { r with head := ?_, row := ?_, len := by rw [List.length_set]; exact r.len }
  · obtain ⟨cur, h1, h2⟩ := r.head
    exact ⟨cur, by rw [heap_setCell_other _ _ _ _ (Ne.symm (r.ne i hi))]; exact h1, h2⟩
  · intro i' hi'
    obtain ⟨cur, h1, h2⟩ := r.row i' hi'
    by_cases e : i' = i
    · subst e
      refine ⟨_, heap_setCell_same w _ j cur _ _ h1, fun j' hj' => ?_⟩
      have hs : j < cur.size := by have := h2 j hj; exact (Array.getElem?_eq_some_iff.1 this).1
      rw [Array.getElem?_setIfInBounds]
      by_cases e2 : j = j'
      · subst e2
        simp [hs, List.getElem?_set, show i' * 8 + j < us.length by omega]
      · rw [if_neg e2, h2 j' hj']
        simp [List.getD, List.getElem?_set, show ¬ (i' * 8 + j = i' * 8 + j') by omega, e2]
    · refine ⟨cur, by rw [heap_setCell_other _ _ _ _ (fun e3 => e (r.inj _ _ hi' hi e3))]; exact h1, fun j' hj' => ?_⟩
      rw [h2 j' hj']
      simp [List.getD, List.getElem?_set, show ¬ (i * 8 + j = i' * 8 + j') by omega]
/-- A row is made another one: a new block. -/
theorem RefAt.row_new (r : RefAt w h hc n gb gc us) (i g c : Nat) (xs : List Int) (hi : i < n) (hx : xs.length = 8) (hc8 : 8 ≤ c) (cur : Array Value) (hg : w.heap[g]? = some (.cells cur 44 (0, 0)))
    (hcur : ∀ j, j < 8 → cur[j]? = some (.int .u64 (xs.getD j 0))) (hnew : ∀ q, q < n → gb q ≠ g) :
    RefAt (w.setCell ⟨h, i, none⟩ (.slice (some ⟨g, 0, none⟩) 8 c)) h hc n (fun q => if q = i then g else gb q) (fun q => if q = i then c else gc q) (us.take (i * 8) ++ xs ++ us.drop (i * 8 + 8)) := by
  have hl := r.len
  have hgh : g ≠ h := by
    intro e
    obtain ⟨cur', hg', _⟩ := r.head
    rw [e, hg'] at hg; simp at hg
  refine { r with head := ?_, row := ?_, inj := ?_, len := by simp; omega, cc := ?_ }
  · obtain ⟨cur0, h1, h2⟩ := r.head
    refine ⟨_, heap_setCell_same w h i cur0 _ _ h1, fun q hq => ?_⟩
    have hs : i < cur0.size := by have := h2 i hi; exact (Array.getElem?_eq_some_iff.1 this).1
    rw [Array.getElem?_setIfInBounds]
    by_cases e : i = q
    · subst e; simp [hs]
    · rw [if_neg e, h2 q hq, if_neg (Ne.symm e), if_neg (Ne.symm e)]
  · intro q hq
    by_cases e : q = i
    · subst e
      rw [if_pos rfl]
      refine ⟨cur, by rw [heap_setCell_other _ _ _ _ hgh]; exact hg, fun j hj => ?_⟩
      rw [hcur j hj]
      have : (us.take (q * 8) ++ xs ++ us.drop (q * 8 + 8)).getD (q * 8 + j) 0 = xs.getD j 0 := by
        simp only [List.getD, List.append_assoc]
        rw [List.getElem?_append_right (by simp; omega), List.getElem?_append_left (by simp; omega)]
        congr 2
        simp; omega
      rw [this]
    · rw [if_neg e]
      obtain ⟨cur1, h1, h2⟩ := r.row q hq
      refine ⟨cur1, by rw [heap_setCell_other _ _ _ _ (r.ne q hq)]; exact h1, fun j hj => ?_⟩
      rw [h2 j hj]
      have : (us.take (i * 8) ++ xs ++ us.drop (i * 8 + 8)).getD (q * 8 + j) 0 = us.getD (q * 8 + j) 0 := by
        simp only [List.getD]
        by_cases hqi : q < i
        · rw [List.append_assoc, List.getElem?_append_left (by simp; omega), List.getElem?_take, if_pos (by omega)]
        · rw [List.getElem?_append_right (by simp; omega), List.getElem?_drop]
          congr 2
          simp; omega
      rw [this]
  · intro p q hp hq
    by_cases e : p = i <;> by_cases e2 : q = i
    · intro _; omega
    · rw [if_pos e, if_neg e2]; intro e3; exact absurd e3.symm (hnew q hq)
    · rw [if_neg e, if_pos e2]; intro e3; exact absurd e3 (hnew p hp)
    · rw [if_neg e, if_neg e2]; exact r.inj p q hp hq
  · intro q hq
    split
    · exact hc8
    · exact r.cc q hq
end

set_option maxHeartbeats 400000 in
theorem ref03_Has (w : World) (a : Option Addr) (n hc : Nat) (f i : Int) :
    Calls Try.prog 19 #[.slice a n hc, .int .i64 f, .int .i64 i] w fun e w' => e = .returned (.bool (decide (0 ≤ f ∧ f < n ∧ 0 ≤ i ∧ i < 8))) ∧ w' = w := by
  by_cases h1 : 0 ≤ f
  · by_cases h2 : f < n
    · by_cases h3 : 0 ≤ i
      · go_enter Try.func19, Try.ntmps19
        go_wp2
        go_ret
        exact ⟨by simp [h1, h2, h3], rfl⟩
      · have h3 : i < 0 := by omega
        go_enter Try.func19, Try.ntmps19
        go_wp2
        go_ret
        exact ⟨by simp; omega, rfl⟩
    · have h2 : n ≤ f := by omega
      go_enter Try.func19, Try.ntmps19
      go_wp2
      go_ret
      exact ⟨by simp; omega, rfl⟩
  · have h1 : f < 0 := by omega
    go_enter Try.func19, Try.ntmps19
    go_wp2
    go_ret
    exact ⟨by simp; omega, rfl⟩

def zeros8 : Array Value := #[.int .u64 0, .int .u64 0, .int .u64 0, .int .u64 0, .int .u64 0, .int .u64 0, .int .u64 0, .int .u64 0]
theorem info_rows : (Try.prog.info? 49).map (fun i => (i.zero, i.size, i.bytes)) = some (some (.slice none 0 0), 1, 24) := by kernel_rfl

theorem info_words : (Try.prog.info? 44).map (fun i => (i.zero, i.size, i.bytes)) = some (some (.int .u64 0), 1, 8) := by kernel_rfl
theorem make8 (w : World) : (Instr.makeSlice 49 (.int .i64 8) (.int .i64 8)).run Try.prog w = .ok (.slice (some ⟨w.heap.size, 0, none⟩) 8 8) (w.alloc (.cells zeros8 44)) := by
  have hz : madeCells #[.int .u64 0] 8 = zeros8 := Array.ext' (by rw [toList_madeCells_one]; rfl)
  have h := run_make_row' (P := Try.prog) 49 44 _ 8 Try.underlying49 info_words rfl .i64 .i64 8 (by omega) (by omega) w
  rw [hz] at h
  exact h
theorem wpList_make8 (w : World) {ops : Array Oper} {rest : List Oper} {o : Oper} {a : Act} {Q : Exit → Act → World → Prop}
    (hg : o.guard = none) (hop : o.op = Op.makeSlice 49 (.const (.int .i64 8)) (.const (.int .i64 8)))
    (hK : wpList Try.prog ops Q rest (a.put o.dst (.slice (some ⟨w.heap.size, 0, none⟩) 8 8)) (w.alloc (.cells zeros8 44))) : wpList Try.prog ops Q (o :: rest) a w := by
  refine wpList_plain hg fun K hK' => ?_
  unfold Oper.wp
  have h1 : a.eval (.const (.int .i64 8)) = .int .i64 8 := rfl
  simp [execOp, hop, h1, make8 w, Result.andThen]
  exact hK' _ _ hK

theorem one_new (w : World) (x : Value) (T : TypeId) (n : Nat) (hn : n = w.heap.size) : ∀ j u, [x][j]? = some u → (w.alloc (.cells #[x] T)).cell? ((⟨n, 0, none⟩ : Addr).add j) = some u := by
  subst hn
  intro j u hu
  match j, hu with
  | 0, hu =>
    simp at hu
    subst hu
    show (w.alloc (.cells #[x] T)).cell? ⟨w.heap.size, 0, none⟩ = some x
    rw [World.cell?_alloc_new]; rfl
  | j + 1, hu => simp at hu

theorem getD_rep0 (n i : Nat) : (List.replicate n (0 : Int)).getD i 0 = 0 := by
  simp only [List.getD, List.getElem?_replicate]
  split <;> rfl
/-- New's rows, so far: k of them. -/
def NewRows (W wr : World) (v : Value) (k : Nat) : Prop :=
  ∃ gb : Nat → Nat, wr.ownsRow W.heap.size 49 1 v k ((List.range k).map fun j => .slice (some ⟨gb j, 0, none⟩) 8 8) ∧
    (∀ j, j < k → wr.heap[gb j]? = some (.cells zeros8 44 (0, 0)) ∧ W.heap.size ≤ gb j) ∧ (∀ i j, i < k → j < k → gb i = gb j → i = j) ∧ W.grownBy wr none

theorem own_block {w : World} {base n : Nat} {v : Value} {xs : List Value} {T : TypeId} (h : w.ownsRow base T 1 v n xs) (g : Nat) (hg : v.ownBlock = some g) : ∃ cur, w.heap[g]? = some (.cells cur T (0, 0)) := by
  rcases h.2 with ⟨rfl, _⟩ | ⟨g', cap, cur, rfl, _, hc, _⟩
  · simp [Value.ownBlock] at hg
  · simp [Value.ownBlock] at hg
    subst hg
    exact ⟨cur, hc⟩
theorem newRows_step {W wr w1 : World} {v v' : Value} {k : Nat} {o : Obj} (gb : Nat → Nat)
    (hown : wr.ownsRow W.heap.size 49 1 v k ((List.range k).map fun j => .slice (some ⟨gb j, 0, none⟩) 8 8))
    (hrows : ∀ j, j < k → wr.heap[gb j]? = some (.cells zeros8 44 (0, 0)) ∧ W.heap.size ≤ gb j) (hinj : ∀ i j, i < k → j < k → gb i = gb j → i = j) (hgr : W.grownBy wr none)
    (hown' : w1.ownsRow W.heap.size 49 1 v' (k + 1) (((List.range k).map fun j => .slice (some ⟨gb j, 0, none⟩) 8 8) ++ [.slice (some ⟨wr.heap.size, 0, none⟩) 8 8]))
    (hgrow : ((wr.alloc (.cells zeros8 44)).alloc o).grownBy w1 v.ownBlock) : NewRows W w1 v' (k + 1) := by
  have hlt : ∀ j, j < k → gb j < wr.heap.size := fun j hj => (Array.getElem?_eq_some_iff.1 (hrows j hj).1).1
  refine ⟨fun j => if j = k then wr.heap.size else gb j, ?_, ?_, ?_, ?_⟩
  · rw [List.range_succ, List.map_append]
    have e : (List.range k).map (fun j => Value.slice (some ⟨if j = k then wr.heap.size else gb j, 0, none⟩) 8 8) = (List.range k).map (fun j => Value.slice (some ⟨gb j, 0, none⟩) 8 8) := by
      apply List.map_congr_left
      intro j hj
      rw [if_neg (by have := List.mem_range.1 hj; omega)]
    rw [e]
    simpa using hown'
  · intro j hj
    dsimp only
    by_cases e : j = k
    · subst e
      rw [if_pos rfl]
      refine ⟨?_, hgr.size⟩
      rw [hgrow.block _ (by simp; omega) ?_]
      · exact heap_alloc2_old _ _ _
      · intro e
        obtain ⟨hb, hl⟩ := hown.lt _ e.symm
        omega
    · rw [if_neg e]
      have hj' : j < k := by omega
      refine ⟨?_, (hrows j hj').2⟩
      have h1 := hlt j hj'
      rw [hgrow.block _ (by simp; omega) ?_]
      · rw [heap_alloc_old _ _ (by simp; omega), heap_alloc_old _ _ h1]
        exact (hrows j hj').1
      · intro e
        obtain ⟨cur, hc⟩ := own_block hown _ e.symm
        rw [(hrows j hj').1] at hc
        simp at hc
  · intro i j hi hj
    dsimp only
    by_cases e : i = k <;> by_cases e2 : j = k
    · intro _; omega
    · rw [if_pos e, if_neg e2]; intro e3; have := hlt j (by omega); omega
    · rw [if_neg e, if_pos e2]; intro e3; have := hlt i (by omega); omega
    · rw [if_neg e, if_neg e2]; exact hinj i j (by omega) (by omega)
  · have h2 : W.grownBy ((wr.alloc (.cells zeros8 44)).alloc o) none := grow_alloc (grow_alloc hgr _) _
    cases hv : v.ownBlock with
    | none => rw [hv] at hgrow; exact grow_trans h2 hgrow
    | some g => rw [hv] at hgrow; exact grow_new h2 hgrow (hown.lt _ hv).1
theorem newRows_end {W w' : World} {v : Value} {n : Nat} (h1 : 1 ≤ n) (h : NewRows W w' v n) : ∃ h hc gb gc, v = .slice (some ⟨h, 0, none⟩) n hc ∧ RefAt w' h hc n gb gc (List.replicate (n * 8) 0) ∧ W.grownBy w' none ∧ W.heap.size ≤ h ∧ ∀ i, i < n → W.heap.size ≤ gb i := by
  obtain ⟨gb, hown, hrows, hinj, hgr⟩ := h
  rcases hown.2 with ⟨_, h0⟩ | ⟨g, cap, cur, rfl, hb, hg, hnc, hcm, hcs, htk⟩
  · omega
  · refine ⟨g, cap, gb, fun _ => 8, rfl, ?_, hgr, hb, fun i hi => (hrows i hi).2⟩
    refine { head := ⟨cur, hg, fun i hi => ?_⟩, row := fun i hi => ⟨_, (hrows i hi).1, fun j hj => ?_⟩, inj := hinj, len := by simp, nc := hnc, cc := fun _ _ => Nat.le_refl _ }
    · have h2 : (cur.toList.take (n * 1))[i]? = ((List.range n).map fun j => Value.slice (some ⟨gb j, 0, none⟩) 8 8)[i]? := by rw [htk]
      rw [List.getElem?_take, if_pos (by omega), List.getElem?_map, List.getElem?_range hi] at h2
      simpa using h2
    · rw [getD_rep0]
      match j, hj with
      | 0, _ => rfl
      | 1, _ => rfl
      | 2, _ => rfl
      | 3, _ => rfl
      | 4, _ => rfl
      | 5, _ => rfl
      | 6, _ => rfl
      | 7, _ => rfl

set_option maxHeartbeats 1000000 in
theorem ref03_New (W : World) (n : Nat) (h1 : 1 ≤ n) (h2 : n ≤ 512) :
    Calls Try.prog 64 #[.int .i64 n] W fun e w' => ∃ h hc gb gc, e = .returned (.slice (some ⟨h, 0, none⟩) n hc) ∧ RefAt w' h hc n gb gc (List.replicate (n * 8) 0) ∧ W.grownBy w' none ∧ W.heap.size ≤ h ∧ ∀ i, i < n → W.heap.size ≤ gb i := by
  obtain ⟨i0, hi, hz, hs, hb⟩ := info_parts info_rows
  have HI := Lib.hid hi
  have HZ := Lib.hid hz
  have HS := Lib.hid hs
  have HB := Lib.hid hb
  clear hi hz hs hb
  go_enter Try.func64, Try.ntmps64
  go_wp2
  go_loopw [3, 4] (fun v i wr => ∃ k : Nat, k ≤ n ∧ i = .int .i64 k ∧ NewRows W wr v k) (fun _ i _ => n - (intOf i).toNat)
  case atStart => exact ⟨0, Nat.zero_le _, rfl, fun _ => 0, World.ownsRow_nil _ _ _ _, by omega, by omega, grow_refl _ _⟩
  case round =>
    obtain ⟨k, hk, rfl, gb, hown, hrows, hinj, hgr⟩ := hrel
    by_cases hlt : k < n
    · have HO := Lib.hid hown
      have HR := Lib.hid hrows
      have HJ := Lib.hid hinj
      clear hown hrows hinj
      have hsz := hgr.size
      go_wp2_with (first | (with_reducible refine wpList_make8 _ rfl rfl ?_) | (at_builtin; refine wpList_append_own _ rfl _ _ 28 rfl W.heap.size 49 i0 _ 1 24 Try.underlying28 HI.out HZ.out HS.out HB.out rfl (by decide) _ k _ rfl ((HO.out.alloc _).alloc _) ⟨wr.heap.size + 1, 0, none⟩ 1 1 [.slice (some ⟨wr.heap.size, 0, none⟩) 8 8] rfl rfl (one_new _ _ _ _ (by simp)) (by intro u hu; simp at hu; subst hu; rfl) (by unfold maxLen; omega) (by omega) (by simp; omega) ?_; intro v' w1 hown' hgrow hnil))
      have HN := Lib.hid (newRows_step gb HO.out HR.out HJ.out hgr hown' hgrow)
      clear hown' hgrow hnil HO HR HJ hgr
      go_roundw
      case rel => exact ⟨k + 1, by omega, by go_num, HN.out⟩
      case measure => simp [intOf]; omega
    · have : k = n := by omega
      subst this
      obtain ⟨h, hc, gb', gc, rfl, hr, hg, hh, hgs⟩ := newRows_end h1 ⟨gb, hown, hrows, hinj, hgr⟩
      clear hown hrows hinj hgr
      go_wp2
      go_ret
      exact ⟨h, hc, gb', gc, rfl, hr, hg, hh, hgs⟩

end Go.Proofs.Ythcdecgecabgaaa
