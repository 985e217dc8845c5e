/- The walk of the law PhysApart. -/
import Derived.Test.YtmpgkgnbhjnelaaLawb
import Derived.StillTailTactics
namespace Go.Proofs.Ytmpgkgnbhjnelaa
open Go.RowKit

theorem deed_at {l : List Deed03} {k : Nat} (h : k < l.length) : (l.map Deed03.cells)[k]? = some (l[k]).cells := by
  rw [List.getElem?_map, List.getElem?_eq_getElem h]; rfl

theorem clearW_out (ws : List Int) (t j : Nat) (h : j < t * 8 ∨ t * 8 + 8 ≤ j) : (clearW ws t).getD j 0 = ws.getD j 0 := by
  unfold clearW
  repeat (rw [getD_set, if_neg (by omega)])
theorem part_set (ws : List Int) (A B : Nat) (v : Int) (hB : B < 8) : ∀ f i, i < 8 → ¬ (f = A ∧ i = B) → (ws.set (A * 8 + B) v).getD (f * 8 + i) 0 = ws.getD (f * 8 + i) 0 := by
  intro f i hi h
  rw [getD_set, if_neg (by omega)]
theorem part_clear (ws : List Int) (A : Nat) : ∀ f i, i < 8 → f ≠ A → (clearW ws A).getD (f * 8 + i) 0 = ws.getD (f * 8 + i) 0 := by
  intro f i hi h
  exact clearW_out _ _ _ (by omega)
theorem part_copy (ws : List Int) (A C : Nat) : ∀ f i, i < 8 → f ≠ A → (copyW ws A C).getD (f * 8 + i) 0 = ws.getD (f * 8 + i) 0 := by
  intro f i hi h
  exact copyW_out _ _ _ _ (by omega)

set_option maxRecDepth 100000 in
set_option maxHeartbeats 4000000 in
theorem law03_PhysApart (w : World) (l : List Deed03) (hl : ∀ d ∈ l, d.wf) (v : Value) (hv : SlRd w v 4 (l.map Deed03.cells)) (d : Deed03) (hd : d.wf) :
    Calls Try.prog 5 #[v, .agg d.cells.toArray] w fun e w' => e = .returned (.bool true) ∧ w.grownBy w' none := by
  obtain ⟨a, cap, rfl, hcap, hcells⟩ := hv.form
  rw [List.length_map] at *
  have hcap' : l.length ≤ 9223372036854775807 := by unfold maxLen at hcap; exact hcap
  have HC := Lib.hid hcells
  have HL := Lib.hid hl
  have HD := Lib.hid hd
  clear hcells hl hd hv hcap
  obtain ⟨d0, d1, d2, d3⟩ := d
  simp only [Deed03.cells]
  go_enter Try.func5, Try.ntmps5
  go_wp2_with fail
  refine (law03_up _).mono ?_
  rintro e w0 ⟨rfl, G0⟩
  have hbx : w0.heap[w.heap.size]? = some (.cells #[.int .i64 d0, .int .i64 d1, .int .i64 d2, .int .u64 d3] 40 (0, 0)) := by
    rw [G0.block _ (by simp) (by simp)]; exact heap_alloc_new _ _
  have s0 := G0.size
  rw [World.size_alloc] at s0
  replace G0 : w.grownBy w0 none := grow_trans (World.grownBy_alloc _ _ _) G0
  have HX := Lib.hid hbx
  clear hbx
  go_wp2_with fail
  refine (phys_New_int _ 4 (by omega) (by omega)).mono ?_
  rintro e w1 ⟨mb, mg, rfl, hm, hg1, hmb, hmg⟩
  have G1 := grow_trans G0 hg1
  have hbx : w1.heap[w.heap.size]? = some (.cells #[.int .i64 d0, .int .i64 d1, .int .i64 d2, .int .u64 d3] 40 (0, 0)) := by
    rw [hg1.block _ (by omega) (by simp)]; exact HX.out
  clear HX
  have HX := Lib.hid hbx
  clear hbx
  clear hg1 G0
  go_wp2_with fail
  go_loopw [8] (fun i wr => ∃ (k : Nat) (ws : List Int), k ≤ l.length ∧ k ≤ 30 ∧ i = .int .i64 k ∧ MemAt wr mb mg 4 4 ws ∧ w.grownBy wr none ∧ Hid (wr.heap[w.heap.size]? = some (.cells #[.int .i64 d0, .int .i64 d1, .int .i64 d2, .int .u64 d3] 40 (0, 0)))) (fun i _ => l.length - (intOf i).toNat)
  case atStart => exact ⟨0, _, Nat.zero_le _, Nat.zero_le _, rfl, hm, G1, HX⟩
  case round =>
    obtain ⟨k, ws, hk, hk30, rfl, hmr, GR, HXr⟩ := hrel
    by_cases hin : k < l.length ∧ k < 30
    · obtain ⟨hlt, h30⟩ := hin
      · obtain ⟨b, o, rfl, hb, hc⟩ := HC.out k _ (deed_at hlt) (by simp [Deed03.cells])
        obtain ⟨wd0, wd1, wd2, wd3⟩ := HL.out _ (List.getElem_mem hlt)
        generalize l[k] = dk at *
        have x1 := GR.cell (hc 1 _ rfl) (by simp)
        have x2 := GR.cell (hc 2 _ rfl) (by simp)
        have x3 := GR.cell (hc 3 _ rfl) (by simp)
        rw [← Nat.add_assoc] at x1 x2 x3
        clear hc
        go_wp2_with fail
        refine wp_region_still_tail 18 (by kernel_rfl) (by kernel_rfl) ?_
        simp only [List.take_succ_cons, List.take_zero, List.drop_succ_cons, List.drop_zero]
        repeat still_step
        still_call (law03_pick _ _ 4 wd1 (by omega) (by omega))
        repeat still_step
        still_call (law03_pick _ _ 8 wd2 (by omega) (by omega))
        repeat still_step
        refine wpStill_nil ?_
        have a1 := pickN_lo dk.fA 4 (by omega)
        have a2 := pickN_hi dk.fA 4 (by omega)
        have b1 := pickN_lo dk.fB 8 (by omega)
        have b2 := pickN_hi dk.fB 8 (by omega)
        generalize pickN dk.fA 4 = pa at *
        generalize pickN dk.fB 8 = pb at *
        clear wd0 wd1 wd2 wd3 x1 x2 x3
        go_wp2_with fail
        refine (phys_Store_int _ (hmr.kept0 (grow_drew (grow_refl _ _))) pa pb dk.fV a1 (by omega) b1 b2).mono ?_
        rintro e w2 ⟨rfl, hm2, hg2⟩
        have G2 := grow_new (grow_drew GR) hg2 (by omega)
        have HX2 : Hid (w2.heap[w.heap.size]? = some (.cells #[.int .i64 d0, .int .i64 d1, .int .i64 d2, .int .u64 d3] 40 (0, 0))) := by
          show _ = _
          rw [hg2.block _ (by have := GR.size; have := hmr.ltb; simp; omega) (by simp; omega)]
          exact HXr.out
        clear hg2 hmr GR HXr
        go_wp2_with fail
        go_roundw
        case rel => exact ⟨k + 1, _, by omega, by omega, by go_num, hm2, G2, HX2⟩
        case measure => simp [intOf]; omega
    · have hend : k = l.length ∨ (k < l.length ∧ k = 30) := by omega
      clear hin
      rcases hend with rfl | ⟨hlt, rfl⟩
      all_goals
        go_wp2_with fail
        refine (phys_Clone _ hmr).mono ?_
        rintro e w4 ⟨cb, cg, cc, rfl, hc4, hg4, hcb, hcg⟩
        have hm4 := hmr.kept0 hg4
        have G4 := grow_trans GR hg4
        have l1 := hmr.ltb
        have l2 := hmr.ltg
        have s4 := GR.size
        have hbx : w4.heap[w.heap.size]? = some (.cells #[.int .i64 d0, .int .i64 d1, .int .i64 d2, .int .u64 d3] 40 (0, 0)) := by
          rw [hg4.block _ (by omega) (by simp)]; exact HXr.out
        have y0 : w4.cell? ⟨w.heap.size, 0, none⟩ = some (.int .i64 d0) := by rw [cell_of_row _ _ _ _ _ _ hbx]; rfl
        have y1 : w4.cell? ⟨w.heap.size, 1, none⟩ = some (.int .i64 d1) := by rw [cell_of_row _ _ _ _ _ _ hbx]; rfl
        have y2 : w4.cell? ⟨w.heap.size, 2, none⟩ = some (.int .i64 d2) := by rw [cell_of_row _ _ _ _ _ _ hbx]; rfl
        have y3 : w4.cell? ⟨w.heap.size, 3, none⟩ = some (.int .u64 d3) := by rw [cell_of_row _ _ _ _ _ _ hbx]; rfl
        clear hbx hg4 GR hmr
        obtain ⟨z0, z1, z2, z3⟩ := HD.out
        go_wp2_with fail
        refine (law03_pick _ _ 4 z1 (by omega) (by omega)).mono ?_
        rintro e w5 ⟨rfl, rfl⟩
        go_wp2_with fail
        refine (law03_pick _ _ 8 z2 (by omega) (by omega)).mono ?_
        rintro e w5 ⟨rfl, rfl⟩
        go_wp2_with fail
        refine (law03_pick _ _ 3 z0 (by omega) (by omega)).mono ?_
        rintro e w6 ⟨rfl, rfl⟩
        have a1 := pickN_lo d1 4 (by omega)
        have a2 := pickN_hi d1 4 (by omega)
        have b1 := pickN_lo d2 8 (by omega)
        have b2 := pickN_hi d2 8 (by omega)
        have c1 := pickN_lo d0 3 (by omega)
        have c2 := pickN_hi d0 3 (by omega)
        dsimp only at *
        generalize pickN d1 4 = A at *
        generalize pickN d2 8 = B at *
        generalize pickN d0 3 = C at *
        clear z0 z1 z2 z3
        obtain ⟨A, rfl⟩ := Int.eq_ofNat_of_zero_le a1
        obtain ⟨B, rfl⟩ := Int.eq_ofNat_of_zero_le b1
        have hm6 := hm4
        have hc6 := hc4
        have G6 := G4
        clear hm4 hc4 G4
        have hC : C = 0 ∨ C = 1 ∨ C = 2 := by omega
        clear c1 c2
        rcases hC with rfl | rfl | rfl
        · go_wp2_with fail
          refine (phys_Store_yes _ hm6 A B d3 (by omega) (by omega)).mono ?_
          rintro e w9 ⟨rfl, hm9, hg9⟩
          replace hm9 : MemAt w9 mb mg 4 4 (ws.set (A * 8 + B) d3) := hm9
          have hc9 := hc6.kept hg9 (by simp; omega) (by simp; omega)
          have G9 := grow_new G6 hg9 (by omega)
          have HP := Lib.hid (part_set ws A B d3 (by omega))
          generalize ws.set (A * 8 + B) d3 = us at *
          clear hm6 hc6 hg9 G6
          go_wp2_with fail
          go_loopw [13] (fun f wr => ∃ k : Nat, k ≤ 4 ∧ f = .int .i64 k ∧ w9 = wr) (fun f _ => 4 - (intOf f).toNat)
          case atStart => exact ⟨0, by omega, rfl, rfl⟩
          case round =>
            obtain ⟨f, hf, rfl, rfl⟩ := hrel
            by_cases hf4 : f < 4
            · have hfd : decide ((f : Int) < 4) = true := by simp; omega
              go_wp2_with fail
              go_loopw [14] (fun i wr => ∃ k : Nat, k ≤ 8 ∧ i = .int .i64 k ∧ w9 = wr) (fun i _ => 8 - (intOf i).toNat)
              case atStart => exact ⟨0, by omega, rfl, rfl⟩
              case round =>
                obtain ⟨i, hi, rfl, rfl⟩ := hrel
                by_cases hi8 : i < 8
                · by_cases hfa : f = A
                  · have q1 : ((f : Int) == (A : Int)) = true := by simp; omega
                    have q1' : (f == A) = true := by simpa using hfa
                    by_cases hib : i = B
                    · have q2 : ((i : Int) == (B : Int)) = true := by simp; omega
                      have q2' : (i == B) = true := by simpa using hib
                      clear hfa hib
                      go_wp2_with fail
                      go_roundw
                      case rel => exact ⟨i + 1, by omega, by go_num, by first | rfl | trivial⟩
                      case measure => simp [intOf]; omega
                    · have q2 : ((i : Int) == (B : Int)) = false := by simp; omega
                      have q2' : (i == B) = false := by simpa using hib
                      obtain ⟨x, hx⟩ : ∃ x, ws.getD (f * 8 + i) 0 = x := ⟨_, rfl⟩
                      have hy : us.getD (f * 8 + i) 0 = x := (HP.out f i hi8 (by omega)).trans hx
                      have HX1 := Lib.hid hx
                      have HY1 := Lib.hid hy
                      clear hfa hib hx hy
                      go_wp2_with fail
                      refine (phys_Load_is _ hm9 f i x (by omega) (by omega) (by omega) (by omega) HY1.out).mono ?_
                      rintro e w10 ⟨rfl, rfl⟩
                      go_wp2_with fail
                      refine (phys_Load_is _ hc9 f i x (by omega) (by omega) (by omega) (by omega) HX1.out).mono ?_
                      rintro e w10 ⟨rfl, rfl⟩
                      go_wp2_with fail
                      go_roundw
                      case rel => first | exact ⟨i + 1, by omega, by go_num, by first | rfl | trivial⟩ | ((repeat apply Exists.intro); exact ⟨⟨i + 1, by omega, by go_num, by first | rfl | trivial⟩, rfl⟩)
                      case measure => simp [intOf]; omega
                  · have q1 : ((f : Int) == (A : Int)) = false := by simp; omega
                    have q1' : (f == A) = false := by simpa using hfa
                    obtain ⟨x, hx⟩ : ∃ x, ws.getD (f * 8 + i) 0 = x := ⟨_, rfl⟩
                    have hy : us.getD (f * 8 + i) 0 = x := (HP.out f i hi8 (by omega)).trans hx
                    have HX1 := Lib.hid hx
                    have HY1 := Lib.hid hy
                    clear hfa hx hy
                    go_wp2_with fail
                    refine (phys_Load_is _ hm9 f i x (by omega) (by omega) (by omega) (by omega) HY1.out).mono ?_
                    rintro e w10 ⟨rfl, rfl⟩
                    go_wp2_with fail
                    refine (phys_Load_is _ hc9 f i x (by omega) (by omega) (by omega) (by omega) HX1.out).mono ?_
                    rintro e w10 ⟨rfl, rfl⟩
                    go_wp2_with fail
                    go_roundw
                    case rel => first | exact ⟨i + 1, by omega, by go_num, by first | rfl | trivial⟩ | ((repeat apply Exists.intro); exact ⟨⟨i + 1, by omega, by go_num, by first | rfl | trivial⟩, rfl⟩)
                    case measure => simp [intOf]; omega
                · have : i = 8 := by omega
                  subst this
                  go_wp2_with fail
                  go_roundw
                  case rel => exact ⟨f + 1, by omega, by go_num, by first | rfl | trivial⟩
                  case measure => simp [intOf]; omega
            · have : f = 4 := by omega
              subst this
              go_wp2_with fail
              go_ret
              exact ⟨rfl, G9⟩
        · go_wp2_with fail
          refine (phys_Clear_yes _ hm6 A (by omega)).mono ?_
          rintro e w9 ⟨rfl, hm9, hg9⟩
          replace hm9 : MemAt w9 mb mg 4 4 (clearW ws A) := hm9
          have hc9 := hc6.kept hg9 (by simp; omega) (by simp; omega)
          have G9 := grow_new G6 hg9 (by omega)
          have HP := Lib.hid (part_clear ws A)
          generalize clearW ws A = us at *
          clear hm6 hc6 hg9 G6
          go_wp2_with fail
          go_loopw [13] (fun f wr => ∃ k : Nat, k ≤ 4 ∧ f = .int .i64 k ∧ w9 = wr) (fun f _ => 4 - (intOf f).toNat)
          case atStart => exact ⟨0, by omega, rfl, rfl⟩
          case round =>
            obtain ⟨f, hf, rfl, rfl⟩ := hrel
            by_cases hf4 : f < 4
            · have hfd : decide ((f : Int) < 4) = true := by simp; omega
              go_wp2_with fail
              go_loopw [14] (fun i wr => ∃ k : Nat, k ≤ 8 ∧ i = .int .i64 k ∧ w9 = wr) (fun i _ => 8 - (intOf i).toNat)
              case atStart => exact ⟨0, by omega, rfl, rfl⟩
              case round =>
                obtain ⟨i, hi, rfl, rfl⟩ := hrel
                by_cases hi8 : i < 8
                · by_cases hfa : f = A
                  · have q1 : ((f : Int) == (A : Int)) = true := by simp; omega
                    have q1' : (f == A) = true := by simpa using hfa
                    clear hfa
                    go_wp2_with fail
                    go_roundw
                    case rel => exact ⟨i + 1, by omega, by go_num, by first | rfl | trivial⟩
                    case measure => simp [intOf]; omega
                  · have q1 : ((f : Int) == (A : Int)) = false := by simp; omega
                    have q1' : (f == A) = false := by simpa using hfa
                    obtain ⟨x, hx⟩ : ∃ x, ws.getD (f * 8 + i) 0 = x := ⟨_, rfl⟩
                    have hy : us.getD (f * 8 + i) 0 = x := (HP.out f i hi8 (by omega)).trans hx
                    have HX1 := Lib.hid hx
                    have HY1 := Lib.hid hy
                    clear hfa hx hy
                    go_wp2_with fail
                    refine (phys_Load_is _ hm9 f i x (by omega) (by omega) (by omega) (by omega) HY1.out).mono ?_
                    rintro e w10 ⟨rfl, rfl⟩
                    go_wp2_with fail
                    refine (phys_Load_is _ hc9 f i x (by omega) (by omega) (by omega) (by omega) HX1.out).mono ?_
                    rintro e w10 ⟨rfl, rfl⟩
                    go_wp2_with fail
                    go_roundw
                    case rel => first | exact ⟨i + 1, by omega, by go_num, by first | rfl | trivial⟩ | ((repeat apply Exists.intro); exact ⟨⟨i + 1, by omega, by go_num, by first | rfl | trivial⟩, rfl⟩)
                    case measure => simp [intOf]; omega
                · have : i = 8 := by omega
                  subst this
                  go_wp2_with fail
                  go_roundw
                  case rel => exact ⟨f + 1, by omega, by go_num, by first | rfl | trivial⟩
                  case measure => simp [intOf]; omega
            · have : f = 4 := by omega
              subst this
              go_wp2_with fail
              go_ret
              exact ⟨rfl, G9⟩
        · go_wp2_with fail
          refine (phys_Copy_int _ hm6 A (B % 4) (by omega) (by omega) (by omega) (by omega)).mono ?_
          rintro e w9 ⟨rfl, hm9, hg9⟩
          replace hm9 : MemAt w9 mb mg 4 4 (copyW ws A ((B : Int) % 4).toNat) := hm9
          have hc9 := hc6.kept hg9 (by simp; omega) (by simp; omega)
          have G9 := grow_new G6 hg9 (by omega)
          have HP := Lib.hid (part_copy ws A ((B : Int) % 4).toNat)
          generalize copyW ws A ((B : Int) % 4).toNat = us at *
          clear hm6 hc6 hg9 G6
          go_wp2_with fail
          go_loopw [13] (fun f wr => ∃ k : Nat, k ≤ 4 ∧ f = .int .i64 k ∧ w9 = wr) (fun f _ => 4 - (intOf f).toNat)
          case atStart => exact ⟨0, by omega, rfl, rfl⟩
          case round =>
            obtain ⟨f, hf, rfl, rfl⟩ := hrel
            by_cases hf4 : f < 4
            · have hfd : decide ((f : Int) < 4) = true := by simp; omega
              go_wp2_with fail
              go_loopw [14] (fun i wr => ∃ k : Nat, k ≤ 8 ∧ i = .int .i64 k ∧ w9 = wr) (fun i _ => 8 - (intOf i).toNat)
              case atStart => exact ⟨0, by omega, rfl, rfl⟩
              case round =>
                obtain ⟨i, hi, rfl, rfl⟩ := hrel
                by_cases hi8 : i < 8
                · by_cases hfa : f = A
                  · have q1 : ((f : Int) == (A : Int)) = true := by simp; omega
                    have q1' : (f == A) = true := by simpa using hfa
                    clear hfa
                    go_wp2_with fail
                    go_roundw
                    case rel => exact ⟨i + 1, by omega, by go_num, by first | rfl | trivial⟩
                    case measure => simp [intOf]; omega
                  · have q1 : ((f : Int) == (A : Int)) = false := by simp; omega
                    have q1' : (f == A) = false := by simpa using hfa
                    obtain ⟨x, hx⟩ : ∃ x, ws.getD (f * 8 + i) 0 = x := ⟨_, rfl⟩
                    have hy : us.getD (f * 8 + i) 0 = x := (HP.out f i hi8 (by omega)).trans hx
                    have HX1 := Lib.hid hx
                    have HY1 := Lib.hid hy
                    clear hfa hx hy
                    go_wp2_with fail
                    refine (phys_Load_is _ hm9 f i x (by omega) (by omega) (by omega) (by omega) HY1.out).mono ?_
                    rintro e w10 ⟨rfl, rfl⟩
                    go_wp2_with fail
                    refine (phys_Load_is _ hc9 f i x (by omega) (by omega) (by omega) (by omega) HX1.out).mono ?_
                    rintro e w10 ⟨rfl, rfl⟩
                    go_wp2_with fail
                    go_roundw
                    case rel => first | exact ⟨i + 1, by omega, by go_num, by first | rfl | trivial⟩ | ((repeat apply Exists.intro); exact ⟨⟨i + 1, by omega, by go_num, by first | rfl | trivial⟩, rfl⟩)
                    case measure => simp [intOf]; omega
                · have : i = 8 := by omega
                  subst this
                  go_wp2_with fail
                  go_roundw
                  case rel => exact ⟨f + 1, by omega, by go_num, by first | rfl | trivial⟩
                  case measure => simp [intOf]; omega
            · have : f = 4 := by omega
              subst this
              go_wp2_with fail
              go_ret
              exact ⟨rfl, G9⟩
end Go.Proofs.Ytmpgkgnbhjnelaa
