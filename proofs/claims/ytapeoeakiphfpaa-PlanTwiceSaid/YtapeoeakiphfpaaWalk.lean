import Derived.Test.YtapeoeakiphfpaaFound
import Derived.Test.YtapeoeakiphfpaaPhyt
/- The contract of walk.Walk. -/
namespace Go.Proofs.Ytapeoeakiphfpaa
open Go.RowKit
set_option linter.unusedVariables false
set_option linter.unusedSimpArgs false
attribute [local go_sem] setCell_drewN alloc_drewN

/-- All words are words of 64 bits. -/
def WOk (ws : List Int) : Prop := ∀ x ∈ ws, 0 ≤ x ∧ x < 18446744073709551616
theorem WOk.getD {ws : List Int} (h : WOk ws) (i : Nat) : 0 ≤ ws.getD i 0 ∧ ws.getD i 0 < 18446744073709551616 := by
  simp only [List.getD]
  cases hi : ws[i]? with
  | none => simp
  | some x => simpa using h x (List.mem_of_getElem? hi)
theorem decD_frame (level x : Int) : 0 ≤ (decD level x).fFrame ∧ (decD level x).fFrame < 512 := by
  unfold decD
  split
  · rename_i h
    simp only [okD, Bool.and_eq_true, decide_eq_true_eq] at h
    exact ⟨h.1.1.1.1.1.2, h.1.1.1.1.2⟩
  · exact ⟨by decide, by decide⟩
theorem decD_last (x : Int) : (decD 3 x).fKind ≠ 1 := by
  unfold decD
  split
  · rename_i h
    simp only [okD, Bool.and_eq_true, decide_eq_true_eq] at h
    intro e
    have h2 := h.1.2
    simp [mayD, e] at h2
  · decide

/-- What a walk finds from a table of a level on; none: something isn't there. -/
def walkAt (ws : List Int) (n : Int) (page : Int) : Nat → Int → Int → Option Found
  | 0, _, _ => none
  | k + 1, level, table =>
    if 0 ≤ table ∧ table < n then
      (if (decD level (ws.getD (table.toNat * 8 + (placeN level page).toNat) 0)).fKind = 1 then walkAt ws n page k (level + 1) (decD level (ws.getD (table.toNat * 8 + (placeN level page).toNat) 0)).fFrame
      else some (foundD (decD level (ws.getD (table.toNat * 8 + (placeN level page).toNat) 0)) level table (placeN level page) page))
    else none
def zeroF : Found := ⟨0, 0, 0, 0, 0, 0, 0, 0, false, false, false⟩
/-- What Walk answers, where root and page are there. -/
def walkV (r : Option Found) : Value := match r with
  | some f => .tuple #[f.v, .nilIface]
  | none => .tuple #[zeroF.v, errW 2]

theorem walk_found (w : World) (d : Desc) (level table place page : Int) (hp0 : 0 ≤ page) (hp1 : page < 4096) (hf0 : 0 ≤ d.fFrame) (hf1 : d.fFrame < 512) :
    Calls Try.prog 133 #[d.v, .int .i64 level, .int .i64 table, .int .i64 place, .int .i64 page] w fun e w' => e = .returned (foundD d level table place page).v ∧ w.grownBy w' none := by
  by_cases h2 : d.fKind = 2
  · exact walk_found_some w d level table place page hp0 hp1 hf0 hf1 (.inl h2)
  · by_cases h3 : d.fKind = 3
    · exact walk_found_some w d level table place page hp0 hp1 hf0 hf1 (.inr h3)
    · exact walk_found_none w d level table place page h2 h3

set_option maxHeartbeats 400000 in
theorem walk_Walk_nil (w : World) (root page : Int) :
    Calls Try.prog 89 #[.pointer none, .int .i64 root, .int .i64 page] w fun e w' => e = .returned (.tuple #[zeroF.v, errW 1]) ∧ w.grownBy w' none := by
  go_enter Try.func89, Try.ntmps89
  go_wp2_with fail
  exact bodyPost_ret (results_cell_tmp rfl _ _ w.heap.size 80 _ (0, 0) _ rfl (heap_alloc_new _ _) Try.underlying80 rfl (by kernel_rfl)) rfl ⟨rfl, World.grownBy_alloc _ _ _⟩

set_option maxHeartbeats 1000000 in
theorem walk_Walk_no (w : World) {b g n c : Nat} {ws : List Int} (hm : MemAt w b g n c ws) (root page : Int) (h : ¬ (0 ≤ root ∧ root < n ∧ 0 ≤ page ∧ page < 4096)) :
    Calls Try.prog 89 #[.pointer (some ⟨b, 0, none⟩), .int .i64 root, .int .i64 page] w fun e w' => e = .returned (.tuple #[zeroF.v, errW 1]) ∧ w.grownBy w' none := by
  have hk := hm.kept0 (World.grownBy_alloc w (.cells #[.int .i64 0, .int .i64 0, .int .i64 0, .int .i64 0, .int .i64 0, .int .i64 0, .int .i64 0, .int .i64 0, .bool false, .bool false, .bool false] 80) none)
  have HF := Lib.hid (phys_Frames _ hk)
  clear hk
  by_cases h1 : root < 0
  · clear h
    go_enter Try.func89, Try.ntmps89
    go_wp2_with fail
    exact bodyPost_ret (results_cell_tmp rfl _ _ w.heap.size 80 _ (0, 0) _ rfl (heap_alloc_new _ _) Try.underlying80 rfl (by kernel_rfl)) rfl ⟨rfl, World.grownBy_alloc _ _ _⟩
  · by_cases h2 : (n : Int) ≤ root
    · clear h
      go_enter Try.func89, Try.ntmps89
      go_wp2_with fail
      refine HF.out.mono ?_
      rintro e w1 ⟨rfl, rfl⟩
      go_wp2_with fail
      exact bodyPost_ret (results_cell_tmp rfl _ _ w.heap.size 80 _ (0, 0) _ rfl (heap_alloc_new _ _) Try.underlying80 rfl (by kernel_rfl)) rfl ⟨rfl, World.grownBy_alloc _ _ _⟩
    · by_cases h3 : page < 0
      · clear h
        go_enter Try.func89, Try.ntmps89
        go_wp2_with fail
        refine HF.out.mono ?_
        rintro e w1 ⟨rfl, rfl⟩
        go_wp2_with fail
        exact bodyPost_ret (results_cell_tmp rfl _ _ w.heap.size 80 _ (0, 0) _ rfl (heap_alloc_new _ _) Try.underlying80 rfl (by kernel_rfl)) rfl ⟨rfl, World.grownBy_alloc _ _ _⟩
      · have h4 : 4096 ≤ page := by omega
        clear h
        go_enter Try.func89, Try.ntmps89
        go_wp2_with fail
        refine HF.out.mono ?_
        rintro e w1 ⟨rfl, rfl⟩
        go_wp2_with fail
        exact bodyPost_ret (results_cell_tmp rfl _ _ w.heap.size 80 _ (0, 0) _ rfl (heap_alloc_new _ _) Try.underlying80 rfl (by kernel_rfl)) rfl ⟨rfl, World.grownBy_alloc _ _ _⟩

set_option maxRecDepth 100000 in
set_option maxHeartbeats 2000000 in
theorem walk_Walk (w : World) {b g n c : Nat} {ws : List Int} (hm : MemAt w b g n c ws) (hw : WOk ws) (root page : Int) (h0 : 0 ≤ root) (h1 : root < n) (h2 : 0 ≤ page) (h3 : page < 4096) :
    Calls Try.prog 89 #[.pointer (some ⟨b, 0, none⟩), .int .i64 root, .int .i64 page] w fun e w' => e = .returned (walkV (walkAt ws n page 4 0 root)) ∧ w.grownBy w' none := by
  have hk := hm.kept0 (World.grownBy_alloc w (.cells #[.int .i64 0, .int .i64 0, .int .i64 0, .int .i64 0, .int .i64 0, .int .i64 0, .int .i64 0, .int .i64 0, .bool false, .bool false, .bool false] 80) none)
  have HF := Lib.hid (phys_Frames _ hk)
  have HW := Lib.hid hw
  clear hw hm
  go_enter Try.func89, Try.ntmps89
  go_wp2_with fail
  refine HF.out.mono ?_
  rintro e w1 ⟨rfl, rfl⟩
  go_wp2_with fail
  go_loopw [8, 9] (fun t l wr => ∃ (lv : Nat) (tb : Int), lv ≤ 3 ∧ t = .int .i64 tb ∧ l = .int .i64 lv ∧ Hid (walkAt ws n page 4 0 root = walkAt ws n page (4 - lv) lv tb) ∧ MemAt wr b g n c ws ∧ w.grownBy wr none ∧
      Hid (wr.heap[w.heap.size]? = some (.cells #[.int .i64 0, .int .i64 0, .int .i64 0, .int .i64 0, .int .i64 0, .int .i64 0, .int .i64 0, .int .i64 0, .bool false, .bool false, .bool false] 80 (0, 0)))) (fun _ l _ => 4 - (intOf l).toNat)
  case atStart => exact ⟨0, root, by omega, rfl, rfl, rfl, hk, World.grownBy_alloc _ _ _, heap_alloc_new _ _⟩
  case round =>
    obtain ⟨lv, tb, hlv, rfl, rfl, HE, hmr, GR, HB⟩ := hrel
    have p0 := placeN_lo lv page
    have p1 := placeN_hi lv page
    have sz := GR.size
    have hlt : w.heap.size < wr.heap.size := (Array.getElem?_eq_some_iff.1 HB.out).1
    go_wp2_with fail
    refine (walk_Place _ lv page (by omega) (by omega) h2 h3).mono ?_
    rintro e w2 ⟨rfl, m, rfl⟩
    generalize hpl : placeN lv page = pl at *
    have HPL := Lib.hid hpl
    clear hpl
    have G2 := grow_drewN GR m
    have hm2 := hmr.kept0 (grow_drewN (grow_refl wr none) m)
    have hB2 : (wr.drewN m).heap[w.heap.size]? = _ := HB.out
    have hlt2 : w.heap.size < (wr.drewN m).heap.size := hlt
    generalize wr.drewN m = wa at *
    have HB2 := Lib.hid hB2
    clear hB2 HB GR hmr
    by_cases htb : 0 ≤ tb ∧ tb < n
    · obtain ⟨t0, t1⟩ := htb
      go_wp2_with fail
      obtain ⟨x, hx⟩ : ∃ x, ws.getD (tb.toNat * 8 + pl.toNat) 0 = x := ⟨_, rfl⟩
      refine (phys_Load_is _ hm2 tb pl x t0 t1 p0 p1 hx).mono ?_
      rintro e w3 ⟨rfl, rfl⟩
      have hxw := HW.out.getD (tb.toNat * 8 + pl.toNat)
      rw [hx] at hxw
      obtain ⟨x0, x1⟩ := hxw
      have HX := Lib.hid hx
      clear hx
      go_wp2_with fail
      refine (pte_Decode _ lv x (by omega) (by omega) x0 x1).mono ?_
      rintro e w4 ⟨rfl, hg4⟩
      have hm4 := hm2.kept0 hg4
      have G4 := grow_trans G2 hg4
      have hB4 : w4.heap[w.heap.size]? = _ := (hg4.block _ hlt2 (by simp)).trans HB2.out
      have HB4 := Lib.hid hB4
      have hlt4 : w.heap.size < w4.heap.size := by have := hg4.size; omega
      have hdf := decD_frame lv x
      have hd3 : lv = 3 → (decD lv x).fKind ≠ 1 := by rintro rfl; exact decD_last x
      generalize hd : decD lv x = d at *
      have HD := Lib.hid hd
      clear hd hg4 hm2 G2 HB2 hB4
      obtain ⟨k, f, wr', ex, se, fo, so⟩ := d
      dsimp only at hdf hd3
      obtain ⟨f0, f1⟩ := hdf
      by_cases hk1 : k = 1
      · subst hk1
        have hl2 : lv ≤ 2 := by
          rcases Nat.lt_or_ge lv 3 with h | h
          · omega
          · exact absurd rfl (hd3 (by omega))
        have HN : Hid (walkAt ws n page 4 0 root = walkAt ws n page (4 - (lv + 1)) ((lv + 1 : Nat) : Int) f) := by
          show _ = _
          rw [HE.out, show 4 - lv = (4 - (lv + 1)) + 1 from by omega]
          conv => lhs; unfold walkAt
          rw [if_pos ⟨t0, t1⟩, HPL.out, HX.out, HD.out, if_pos rfl]
          rfl
        clear hd3 HE HX HD HPL
        go_wp2_with fail
        go_roundw
        case rel =>
          refine ⟨lv + 1, f, by omega, rfl, by go_num, HN, hm4.kept0 (World.grownBy_alloc _ _ _), grow_alloc G4 _, ?_⟩
          exact (heap_alloc_old _ _ hlt4).trans HB4.out
        case measure => simp [intOf]; omega
      · have hkb : (k != 1) = true := by simpa using hk1
        have hv : walkAt ws n page 4 0 root = some (foundD ⟨k, f, wr', ex, se, fo, so⟩ lv tb pl page) := by
          rw [HE.out, show 4 - lv = (3 - lv) + 1 from by omega]
          unfold walkAt
          rw [if_pos ⟨t0, t1⟩, HPL.out, HX.out, HD.out, if_neg hk1]
        have HV := Lib.hid hv
        clear hd3 HE HX HD HPL hk1 hv
        go_wp2_with fail
        refine (walk_found _ ⟨k, f, wr', ex, se, fo, so⟩ lv tb pl page h2 h3 f0 f1).mono ?_
        rintro e w5 ⟨rfl, hg5⟩
        have hB5 : w5.heap[w.heap.size]? = _ := (hg5.block _ (by simp; omega) (by simp)).trans ((heap_alloc_old _ _ hlt4).trans HB4.out)
        have G5 := grow_trans (grow_alloc G4 _) hg5
        obtain ⟨y0, y1, y2, y3, y4, y5, y6, y7, y8, y9, y10, yf⟩ := cells11 hB5
        have HB5 := Lib.hid hB5
        clear hB5 hg5 G4 hm4 HB4
        generalize foundD ⟨k, f, wr', ex, se, fo, so⟩ lv tb pl page = F at *
        obtain ⟨F0, F1, F2, F3, F4, F5, F6, F7, F8, F9, F10⟩ := F
        go_wp2_with fail
        refine bodyPost_ret (results_cell_tmp rfl _ _ w.heap.size 80 _ (0, 0) _ rfl (set11 HB5.out _ _ _ _ _ _ _ _ _ _ _) Try.underlying80 rfl (by kernel_rfl)) rfl ⟨by rw [HV.out]; rfl, grow_new G5 (grow_set11 _ _ _ _ _ _ _ _ _ _ _ _ _) (Nat.le_refl _)⟩
    · have hv : walkAt ws n page 4 0 root = none := by
        rw [HE.out, show 4 - lv = (3 - lv) + 1 from by omega]
        unfold walkAt
        rw [if_neg htb]
      have HV := Lib.hid hv
      have HT := Lib.hid htb
      clear HE hv htb
      obtain ⟨y0, y1, y2, y3, y4, y5, y6, y7, y8, y9, y10, yf⟩ := cells11 HB2.out
      go_wp2_with fail
      refine (phys_Load_no _ hm2 tb pl (by have := HT.out; omega)).mono ?_
      rintro e w3 ⟨rfl, rfl⟩
      go_wp2_with fail
      refine bodyPost_ret (results_cell_tmp rfl _ _ w.heap.size 80 _ (0, 0) _ rfl (set11 HB2.out _ _ _ _ _ _ _ _ _ _ _) Try.underlying80 rfl (by kernel_rfl)) rfl ⟨by rw [HV.out]; rfl, grow_new G2 (grow_set11 _ _ _ _ _ _ _ _ _ _ _ _ _) (Nat.le_refl _)⟩

end Go.Proofs.Ytapeoeakiphfpaa
