import Derived.Test.YthcdecgecabgaaaBBaseWord
/- The contracts of the Go package phys. -/
namespace Go.Proofs.Ythcdecgecabgaaa
open Go.RowKit
set_option linter.unusedVariables false
set_option linter.unusedSimpArgs false

theorem ret_bool {a b : Bool} (h : a = b) : Ending.returned (.bool a) = .returned (.bool b) := by rw [h]

set_option maxHeartbeats 400000 in
theorem phys_Frames (w : World) {b g n c : Nat} {ws : List Int} (hm : MemAt w b g n c ws) :
    Calls Try.prog 33 #[.pointer (some ⟨b, 0, none⟩)] w fun e w' => e = .returned (.int .i64 n) ∧ w' = w := by
  have h0 := hm.cell0
  go_enter Try.func33, Try.ntmps33
  go_wp2
  go_ret
  exact ⟨rfl, rfl⟩

set_option maxHeartbeats 400000 in
theorem phys_has_yes (w : World) {b g n c : Nat} {ws : List Int} (hm : MemAt w b g n c ws) (f i : Int) (h1 : 0 ≤ f) (h2 : f < n) (h3 : 0 ≤ i) (h4 : i < 8) :
    Calls Try.prog 102 #[.pointer (some ⟨b, 0, none⟩), .int .i64 f, .int .i64 i] w fun e w' => e = .returned (.bool true) ∧ w' = w := by
  have h0 := hm.cell0
  go_enter Try.func102, Try.ntmps102
  go_wp2
  go_ret
  exact ⟨rfl, rfl⟩

set_option maxHeartbeats 400000 in
theorem phys_has_no (w : World) {b g n c : Nat} {ws : List Int} (hm : MemAt w b g n c ws) (f i : Int) (h : ¬ (0 ≤ f ∧ f < n ∧ 0 ≤ i ∧ i < 8)) :
    Calls Try.prog 102 #[.pointer (some ⟨b, 0, none⟩), .int .i64 f, .int .i64 i] w fun e w' => e = .returned (.bool false) ∧ w' = w := by
  have h0 := hm.cell0
  by_cases h1 : 0 ≤ f
  · by_cases h2 : f < n
    · by_cases h3 : 0 ≤ i
      · have h4 : 8 ≤ i := by omega
        clear h
        go_enter Try.func102, Try.ntmps102
        go_wp2
        go_ret
        exact ⟨by simp; omega, rfl⟩
      · have h3 : i < 0 := by omega
        clear h
        go_enter Try.func102, Try.ntmps102
        go_wp2
        go_ret
        exact ⟨rfl, rfl⟩
    · have h2 : n ≤ f := by omega
      clear h
      go_enter Try.func102, Try.ntmps102
      go_wp2
      go_ret
      exact ⟨rfl, rfl⟩
  · have h1 : f < 0 := by omega
    clear h
    go_enter Try.func102, Try.ntmps102
    go_wp2
    go_ret
    exact ⟨rfl, rfl⟩

set_option maxHeartbeats 400000 in
theorem phys_Load_no (w : World) {b g n c : Nat} {ws : List Int} (hm : MemAt w b g n c ws) (f i : Int) (h : ¬ (0 ≤ f ∧ f < n ∧ 0 ≤ i ∧ i < 8)) :
    Calls Try.prog 106 #[.pointer (some ⟨b, 0, none⟩), .int .i64 f, .int .i64 i] w fun e w' => e = .returned (.tuple #[.int .u64 0, errW 1]) ∧ w' = w := by
  have hc := phys_has_no w hm f i h
  have H := Lib.hid hc
  clear hc h hm
  go_enter Try.func106, Try.ntmps106
  go_wp2_with (go_at_call 102; refine H.out.mono ?_; rintro e w' ⟨rfl, rfl⟩)
  go_ret2
  exact ⟨rfl, rfl⟩

set_option maxHeartbeats 400000 in
theorem phys_Load_yes (w : World) {b g n c : Nat} {ws : List Int} (hm : MemAt w b g n c ws) (f i : Nat) (h1 : f < n) (h2 : i < 8) :
    Calls Try.prog 106 #[.pointer (some ⟨b, 0, none⟩), .int .i64 f, .int .i64 i] w fun e w' => e = .returned (.tuple #[.int .u64 (ws.getD (f * 8 + i) 0), .nilIface]) ∧ w' = w := by
  have hc := phys_has_yes w hm f i (by omega) (by omega) (by omega) (by omega)
  have H := Lib.hid hc
  have h0 := hm.cell0
  have hx := hm.cell (f * 8 + i) (by omega)
  have hle := hm.le
  clear hc hm
  go_enter Try.func106, Try.ntmps106
  go_wp2_with (go_at_call 102; refine H.out.mono ?_; rintro e w' ⟨rfl, rfl⟩)
  go_ret2
  exact ⟨rfl, rfl⟩

set_option maxHeartbeats 400000 in
theorem phys_Store_no (w : World) {b g n c : Nat} {ws : List Int} (hm : MemAt w b g n c ws) (f i x : Int) (h : ¬ (0 ≤ f ∧ f < n ∧ 0 ≤ i ∧ i < 8)) :
    Calls Try.prog 58 #[.pointer (some ⟨b, 0, none⟩), .int .i64 f, .int .i64 i, .int .u64 x] w fun e w' => e = .returned (errW 1) ∧ w' = w := by
  have hc := phys_has_no w hm f i h
  have H := Lib.hid hc
  clear hc h hm
  go_enter Try.func58, Try.ntmps58
  go_wp2_with (go_at_call 102; refine H.out.mono ?_; rintro e w' ⟨rfl, rfl⟩)
  go_ret
  exact ⟨rfl, rfl⟩

set_option maxHeartbeats 400000 in
theorem phys_Store_yes0 (w : World) {b g n c : Nat} {ws : List Int} (hm : MemAt w b g n c ws) (f i : Nat) (x : Int) (h1 : f < n) (h2 : i < 8) :
    Calls Try.prog 58 #[.pointer (some ⟨b, 0, none⟩), .int .i64 f, .int .i64 i, .int .u64 x] w fun e w' => e = .returned .nilIface ∧ w' = w.setCell ⟨g, f * 8 + i, none⟩ (.int .u64 x) := by
  have hc := phys_has_yes w hm f i (by omega) (by omega) (by omega) (by omega)
  have H := Lib.hid hc
  have h0 := hm.cell0
  have hx := hm.cell (f * 8 + i) (by omega)
  have hfr := hm.free (f * 8 + i)
  have hle := hm.le
  clear hc hm
  go_enter Try.func58, Try.ntmps58
  go_wp2_with (go_at_call 102; refine H.out.mono ?_; rintro e w' ⟨rfl, rfl⟩)
  go_ret
  exact ⟨rfl, rfl⟩
/-- One word is stored: the memory tells it, nothing else has turned. -/
theorem phys_Store_yes (w : World) {b g n c : Nat} {ws : List Int} (hm : MemAt w b g n c ws) (f i : Nat) (x : Int) (h1 : f < n) (h2 : i < 8) :
    Calls Try.prog 58 #[.pointer (some ⟨b, 0, none⟩), .int .i64 f, .int .i64 i, .int .u64 x] w fun e w' => e = .returned .nilIface ∧ MemAt w' b g n c (ws.set (f * 8 + i) x) ∧ w.grownBy w' (some g) := by
  refine (phys_Store_yes0 w hm f i x h1 h2).mono ?_
  rintro e w' ⟨rfl, rfl⟩
  exact ⟨rfl, hm.put _ _ (by omega), grow_setCell (grow_refl _ _) _ _ (.inr rfl)⟩

set_option maxHeartbeats 400000 in
theorem phys_New_no (w : World) (k : Int) (h : k < 1 ∨ 512 < k) :
    Calls Try.prog 63 #[.int .i64 k] w fun e w' => e = .returned (.tuple #[.pointer none, errW 1]) ∧ w' = w := by
  rcases h with h | h
  · go_enter Try.func63, Try.ntmps63
    go_wp2
    go_ret2
    exact ⟨rfl, rfl⟩
  · have h1 : 1 ≤ k := by omega
    go_enter Try.func63, Try.ntmps63
    go_wp2
    go_ret2
    exact ⟨rfl, rfl⟩

/-- n words of 0, as a row's cells. -/
def zeroRow (n : Nat) : Array Value := madeCells #[.int .u64 0, .int .u64 0, .int .u64 0, .int .u64 0, .int .u64 0, .int .u64 0, .int .u64 0, .int .u64 0] n
theorem zeroRow_toList (n : Nat) : (zeroRow n).toList = List.replicate n (.int .u64 0) := by
  apply List.ext_getElem?
  intro j
  by_cases hj : j < n
  · have h8 : j % 8 < 8 := Nat.mod_lt _ (by omega)
    have : ∀ q, q < 8 → (#[Value.int .u64 0, .int .u64 0, .int .u64 0, .int .u64 0, .int .u64 0, .int .u64 0, .int .u64 0, .int .u64 0])[q]! = .int .u64 0 := by
      intro q hq
      match q, hq with
      | 0, _ => rfl
      | 1, _ => rfl
      | 2, _ => rfl
      | 3, _ => rfl
      | 4, _ => rfl
      | 5, _ => rfl
      | 6, _ => rfl
      | 7, _ => rfl
    have h1 := this _ h8
    simp [zeroRow, madeCells, hj]
    simpa using h1
  · simp [zeroRow, madeCells, hj]
theorem info_frame : (Try.prog.info? 185).map (fun i => (i.zero, i.size, i.bytes)) = some (some (.agg #[.int .u64 0, .int .u64 0, .int .u64 0, .int .u64 0, .int .u64 0, .int .u64 0, .int .u64 0, .int .u64 0]), 8, 64) := by kernel_rfl

theorem run_make_frames (w : World) (k : Nat) (h2 : k ≤ 512) : (Instr.makeSlice 160 (.int .i64 k) (.int .i64 k)).run Try.prog w = .ok (.slice (some ⟨w.heap.size, 0, none⟩) k k) (w.alloc (.cells (zeroRow (k * 8)) 185)) := by
  obtain ⟨i, hi, hz, hs, hb⟩ := info_parts info_frame
  have h := run_make (P := Try.prog) w 160 185 i _ Try.underlying160 hi hz .i64 .i64 k k (by omega) (by omega) (by rw [hb]; omega) (by omega)
  rw [hs] at h
  simpa [zeroRow, Value.cells] using h
theorem wpList_make_frames (w : World) {ops : Array Oper} {rest : List Oper} {o : Oper} {a : Act} {Q : Exit → Act → World → Prop}
    (hg : o.guard = none) (l c : Operand) (hop : o.op = Op.makeSlice 160 l c) (k : Nat) (hl : a.eval l = .int .i64 k) (hc : a.eval c = .int .i64 k) (h2 : k ≤ 512)
    (hK : wpList Try.prog ops Q rest (a.put o.dst (.slice (some ⟨w.heap.size, 0, none⟩) k k)) (w.alloc (.cells (zeroRow (k * 8)) 185))) : wpList Try.prog ops Q (o :: rest) a w := by
  refine wpList_plain hg fun K hK' => ?_
  unfold Oper.wp
  simp [execOp, hop, hl, hc, run_make_frames w k h2, Result.andThen]
  exact hK' _ _ hK

set_option maxHeartbeats 400000 in
theorem phys_New_yes0 (w : World) (k : Nat) (h1 : 1 ≤ k) (h2 : k ≤ 512) :
    Calls Try.prog 63 #[.int .i64 k] w fun e w' => e = .returned (.tuple #[.pointer (some ⟨w.heap.size + 1, 0, none⟩), .nilIface]) ∧ w' = (w.alloc (.cells (zeroRow (k * 8)) 185)).alloc (.cells #[.slice (some ⟨w.heap.size, 0, none⟩) k k] 162) := by
  go_enter Try.func63, Try.ntmps63
  go_wp2_with (with_reducible refine wpList_make_frames _ rfl _ _ rfl k rfl rfl h2 ?_)
  go_ret2
  exact ⟨rfl, rfl⟩
/-- A new memory: all words are 0. -/
theorem phys_New_yes (w : World) (k : Nat) (h1 : 1 ≤ k) (h2 : k ≤ 512) :
    Calls Try.prog 63 #[.int .i64 k] w fun e w' => ∃ b g, e = .returned (.tuple #[.pointer (some ⟨b, 0, none⟩), .nilIface]) ∧ MemAt w' b g k k (List.replicate (k * 8) 0) ∧ w.grownBy w' none ∧ w.heap.size ≤ b ∧ w.heap.size ≤ g := by
  refine (phys_New_yes0 w k h1 h2).mono ?_
  rintro e w' ⟨rfl, rfl⟩
  refine ⟨_, _, rfl, ?_, grow_alloc (grow_alloc (grow_refl _ _) _) _, by omega, Nat.le_refl _⟩
  exact { hdr := heap_alloc2_new _ _ _, row := ⟨_, heap_alloc2_old _ _ _, by simp [zeroRow, size_madeCells], by rw [zeroRow_toList, List.take_of_length_le (by simp), List.map_replicate]⟩, len := by simp, pos := h1, le := h2, nc := Nat.le_refl _, cm := by unfold maxLen; omega }

/-- Frame f is made 0. -/
def clearW (ws : List Int) (f : Nat) : List Int := (((((((ws.set (f * 8) 0).set (f * 8 + 1) 0).set (f * 8 + 2) 0).set (f * 8 + 3) 0).set (f * 8 + 4) 0).set (f * 8 + 5) 0).set (f * 8 + 6) 0).set (f * 8 + 7) 0
/-- The eight cells from place i on, stored one by one. -/
def put8 (w : World) (g i : Nat) (x0 x1 x2 x3 x4 x5 x6 x7 : Int) : World :=
  (((((((w.setCell ⟨g, i, none⟩ (.int .u64 x0)).setCell ⟨g, i + 1, none⟩ (.int .u64 x1)).setCell ⟨g, i + 2, none⟩ (.int .u64 x2)).setCell ⟨g, i + 3, none⟩ (.int .u64 x3)).setCell ⟨g, i + 4, none⟩ (.int .u64 x4)).setCell ⟨g, i + 5, none⟩ (.int .u64 x5)).setCell ⟨g, i + 6, none⟩ (.int .u64 x6)).setCell ⟨g, i + 7, none⟩ (.int .u64 x7)
theorem MemAt.put8 {w : World} {b g n c : Nat} {ws : List Int} (h : MemAt w b g n c ws) (i : Nat) (x0 x1 x2 x3 x4 x5 x6 x7 : Int) (hi : i + 7 < n * 8) :
    MemAt (put8 w g i x0 x1 x2 x3 x4 x5 x6 x7) b g n c ((((((((ws.set i x0).set (i + 1) x1).set (i + 2) x2).set (i + 3) x3).set (i + 4) x4).set (i + 5) x5).set (i + 6) x6).set (i + 7) x7) :=
  (((((((h.put _ _ (by omega)).put _ _ (by omega)).put _ _ (by omega)).put _ _ (by omega)).put _ _ (by omega)).put _ _ (by omega)).put _ _ (by omega)).put _ _ (by omega)
theorem grow_put8 (w : World) (g i : Nat) (x0 x1 x2 x3 x4 x5 x6 x7 : Int) : w.grownBy (put8 w g i x0 x1 x2 x3 x4 x5 x6 x7) (some g) := by
  unfold Go.Proofs.Ythcdecgecabgaaa.put8
  repeat (refine grow_setCell ?_ _ _ (.inr rfl))
  exact grow_refl _ _

set_option maxHeartbeats 400000 in
theorem phys_Clear_no (w : World) {b g n c : Nat} {ws : List Int} (hm : MemAt w b g n c ws) (f : Int) (h : ¬ (0 ≤ f ∧ f < n)) :
    Calls Try.prog 57 #[.pointer (some ⟨b, 0, none⟩), .int .i64 f] w fun e w' => e = .returned (errW 1) ∧ w' = w := by
  have hc := phys_has_no w hm f 0 (by omega)
  have H := Lib.hid hc
  clear hc h hm
  go_enter Try.func57, Try.ntmps57
  go_wp2_with (go_at_call 102; refine H.out.mono ?_; rintro e w' ⟨rfl, rfl⟩)
  go_ret
  exact ⟨rfl, rfl⟩

set_option maxHeartbeats 400000 in
theorem phys_Clear_yes0 (w : World) {b g n c : Nat} {ws : List Int} (hm : MemAt w b g n c ws) (f : Nat) (h1 : f < n) :
    Calls Try.prog 57 #[.pointer (some ⟨b, 0, none⟩), .int .i64 f] w fun e w' => e = .returned .nilIface ∧ w' = put8 w g (f * 8) 0 0 0 0 0 0 0 0 := by
  have hc := phys_has_yes w hm f 0 (by omega) (by omega) (by omega) (by omega)
  have H := Lib.hid hc
  have h0 := hm.cell0
  have hx0 := hm.cell (f * 8) (by omega)
  have hx1 := hm.cell (f * 8 + 1) (by omega)
  have hx2 := hm.cell (f * 8 + 2) (by omega)
  have hx3 := hm.cell (f * 8 + 3) (by omega)
  have hx4 := hm.cell (f * 8 + 4) (by omega)
  have hx5 := hm.cell (f * 8 + 5) (by omega)
  have hx6 := hm.cell (f * 8 + 6) (by omega)
  have hx7 := hm.cell (f * 8 + 7) (by omega)
  have hfr := hm.free
  have hle := hm.le
  clear hc hm
  go_enter Try.func57, Try.ntmps57
  go_wp2_with (go_at_call 102; refine H.out.mono ?_; rintro e w' ⟨rfl, rfl⟩)
  go_ret
  exact ⟨rfl, rfl⟩
/-- A frame is made 0. -/
theorem phys_Clear_yes (w : World) {b g n c : Nat} {ws : List Int} (hm : MemAt w b g n c ws) (f : Nat) (h1 : f < n) :
    Calls Try.prog 57 #[.pointer (some ⟨b, 0, none⟩), .int .i64 f] w fun e w' => e = .returned .nilIface ∧ MemAt w' b g n c (clearW ws f) ∧ w.grownBy w' (some g) := by
  refine (phys_Clear_yes0 w hm f h1).mono ?_
  rintro e w' ⟨rfl, rfl⟩
  exact ⟨rfl, hm.put8 _ _ _ _ _ _ _ _ _ (by omega), grow_put8 _ _ _ _ _ _ _ _ _ _ _⟩

/-- Frame t is made what frame f is. -/
def copyW (ws : List Int) (t f : Nat) : List Int := (((((((ws.set (t * 8) (ws.getD (f * 8) 0)).set (t * 8 + 1) (ws.getD (f * 8 + 1) 0)).set (t * 8 + 2) (ws.getD (f * 8 + 2) 0)).set (t * 8 + 3) (ws.getD (f * 8 + 3) 0)).set (t * 8 + 4) (ws.getD (f * 8 + 4) 0)).set (t * 8 + 5) (ws.getD (f * 8 + 5) 0)).set (t * 8 + 6) (ws.getD (f * 8 + 6) 0)).set (t * 8 + 7) (ws.getD (f * 8 + 7) 0)

theorem phys_Load_int (w : World) {b g n c : Nat} {ws : List Int} (hm : MemAt w b g n c ws) (f i : Int) (h0 : 0 ≤ f) (h1 : f < n) (h2 : 0 ≤ i) (h3 : i < 8) :
    Calls Try.prog 106 #[.pointer (some ⟨b, 0, none⟩), .int .i64 f, .int .i64 i] w fun e w' => e = .returned (.tuple #[.int .u64 (ws.getD (f.toNat * 8 + i.toNat) 0), .nilIface]) ∧ w' = w := by
  obtain ⟨f, rfl⟩ := Int.eq_ofNat_of_zero_le h0
  obtain ⟨i, rfl⟩ := Int.eq_ofNat_of_zero_le h2
  exact phys_Load_yes w hm f i (by omega) (by omega)
theorem phys_Store_int (w : World) {b g n c : Nat} {ws : List Int} (hm : MemAt w b g n c ws) (f i x : Int) (h0 : 0 ≤ f) (h1 : f < n) (h2 : 0 ≤ i) (h3 : i < 8) :
    Calls Try.prog 58 #[.pointer (some ⟨b, 0, none⟩), .int .i64 f, .int .i64 i, .int .u64 x] w fun e w' => e = .returned .nilIface ∧ MemAt w' b g n c (ws.set (f.toNat * 8 + i.toNat) x) ∧ w.grownBy w' (some g) := by
  obtain ⟨f, rfl⟩ := Int.eq_ofNat_of_zero_le h0
  obtain ⟨i, rfl⟩ := Int.eq_ofNat_of_zero_le h2
  exact phys_Store_yes w hm f i x (by omega) (by omega)
theorem phys_Clear_int (w : World) {b g n c : Nat} {ws : List Int} (hm : MemAt w b g n c ws) (f : Int) (h0 : 0 ≤ f) (h1 : f < n) :
    Calls Try.prog 57 #[.pointer (some ⟨b, 0, none⟩), .int .i64 f] w fun e w' => e = .returned .nilIface ∧ MemAt w' b g n c (clearW ws f.toNat) ∧ w.grownBy w' (some g) := by
  obtain ⟨f, rfl⟩ := Int.eq_ofNat_of_zero_le h0
  exact phys_Clear_yes w hm f (by omega)
theorem phys_New_int (w : World) (k : Int) (h1 : 1 ≤ k) (h2 : k ≤ 512) :
    Calls Try.prog 63 #[.int .i64 k] w fun e w' => ∃ b g, e = .returned (.tuple #[.pointer (some ⟨b, 0, none⟩), .nilIface]) ∧ MemAt w' b g k.toNat k.toNat (List.replicate (k.toNat * 8) 0) ∧ w.grownBy w' none ∧ w.heap.size ≤ b ∧ w.heap.size ≤ g := by
  obtain ⟨k, rfl⟩ := Int.eq_ofNat_of_zero_le (show 0 ≤ k by omega)
  exact phys_New_yes w k (by omega) (by omega)

theorem phys_Load_is (w : World) {b g n c : Nat} {ws : List Int} (hm : MemAt w b g n c ws) (f i : Int) (x : Int) (h0 : 0 ≤ f) (h1 : f < n) (h2 : 0 ≤ i) (h3 : i < 8) (hx : ws.getD (f.toNat * 8 + i.toNat) 0 = x) :
    Calls Try.prog 106 #[.pointer (some ⟨b, 0, none⟩), .int .i64 f, .int .i64 i] w fun e w' => e = .returned (.tuple #[.int .u64 x, .nilIface]) ∧ w' = w := by
  subst hx
  exact phys_Load_int w hm f i h0 h1 h2 h3

end Go.Proofs.Ythcdecgecabgaaa
