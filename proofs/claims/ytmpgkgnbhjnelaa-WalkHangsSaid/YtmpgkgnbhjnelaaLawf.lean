/- The walk of the law WalkHangs. -/
import Derived.Test.YtmpgkgnbhjnelaaLawe
import Derived.Test.YtmpgkgnbhjnelaaPlain
namespace Go.Proofs.Ytmpgkgnbhjnelaa
open Go.RowKit
set_option linter.unusedVariables false
set_option linter.unusedSimpArgs false
attribute [local go_sem] setCell_drewN alloc_drewN

theorem heap_old {w : World} {k : Nat} (h : k < w.heap.size) (o : Obj) : (w.alloc o).heap[k]? = w.heap[k]? := by
  rw [heap_alloc_if, if_neg (by omega)]
theorem cells3 {w : World} {g : Nat} {T : TypeId} {a0 a1 a2 : Value} (h : w.heap[g]? = some (.cells #[a0, a1, a2] T (0, 0))) :
    w.cell? ⟨g, 0, none⟩ = some a0 ∧ w.cell? ⟨g, 1, none⟩ = some a1 ∧ w.cell? ⟨g, 2, none⟩ = some a2 ∧ ∀ i, w.frozen? ⟨g, i, none⟩ = false := by
  refine ⟨?_, ?_, ?_, fun i => frozen_of_row _ _ _ _ _ h⟩
  all_goals (rw [cell_of_row _ _ _ _ _ _ h]; rfl)
abbrev Laid.v (d : Laid) : Value := .agg #[.int .i64 d.fFrame, .int .i64 d.fPlace, .int .u64 d.fWord]
theorem walk_Walk_cases (n : Nat) (ws : List Int) (hw : WOk ws) (root page : Int) : ∃ (F : Found) (E : Value), ((E = .nilIface ∧ (0 ≤ root ∧ root < n ∧ 0 ≤ page ∧ page < 4096) ∧ walkAt ws n page 4 0 root = some F) ∨ ∃ c, E = errW c) ∧ ∀ (w : World) (b g c : Nat), MemAt w b g n c ws →
    Calls Try.prog 36 #[.pointer (some ⟨b, 0, none⟩), .int .i64 root, .int .i64 page] w fun e w' => e = .returned (.tuple #[F.v, E]) ∧ w.grownBy w' none := by
  by_cases h : 0 ≤ root ∧ root < n ∧ 0 ≤ page ∧ page < 4096
  · obtain ⟨h0, h1, h2, h3⟩ := h
    cases hr : walkAt ws n page 4 0 root with
    | none => exact ⟨zeroF, errW 2, .inr ⟨2, rfl⟩, fun w b g c hm => by have := walk_Walk w hm hw root page h0 h1 h2 h3; rw [hr] at this; exact this⟩
    | some f => exact ⟨f, .nilIface, .inl ⟨rfl, ⟨h0, h1, h2, h3⟩, rfl⟩, fun w b g c hm => by have := walk_Walk w hm hw root page h0 h1 h2 h3; rw [hr] at this; exact this⟩
  · exact ⟨zeroF, errW 1, .inr ⟨1, rfl⟩, fun w b g c hm => walk_Walk_no w hm root page h⟩

theorem walk_Walk_yes (n : Nat) (ws : List Int) (hw : WOk ws) (root page : Int) (x : Found) (hr : 0 ≤ root ∧ root < n ∧ 0 ≤ page ∧ page < 4096) (h : walkAt ws n page 4 0 root = some x) : ∀ (w : World) (b g c : Nat), MemAt w b g n c ws →
    Calls Try.prog 36 #[.pointer (some ⟨b, 0, none⟩), .int .i64 root, .int .i64 page] w fun e w' => e = .returned (.tuple #[x.v, .nilIface]) ∧ w.grownBy w' none := by
  intro w b g c hm
  have := walk_Walk w hm hw root page hr.1 hr.2.1 hr.2.2.1 hr.2.2.2
  rw [h] at this
  exact this
theorem WOk_step {n : Nat} {ws : List Int} {d : Laid} (h : WOk ws) (hd : d.wf) : WOk (layStep n ws d) := by
  unfold layStep
  split
  · have hw := hd.2.2
    exact WOk_set h _ _ (u64_lo hw) (by have := u64_hi hw; omega)
  · exact h
/-- The way of a walk, met level by level: the walk in another memory's words goes on from here as it does from the root. -/
def PathR (ws us : List Int) (n page root : Int) (x : Found) (l : Nat) (tb : Int) : Prop :=
  if (l : Int) ≤ x.fLevel then 0 ≤ tb ∧ tb < n ∧ walkAt ws n page (4 - l) l tb = some x ∧ (walkAt us n page (4 - l) l tb = some x → walkAt us n page 4 0 root = some x)
  else l = x.fLevel + 1 ∧ walkAt us n page 4 0 root = some x
theorem PathR.start {ws us : List Int} {n page root : Int} {x : Found} (h : walkAt ws n page 4 0 root = some x) (h0 : 0 ≤ root) (h1 : root < n) : PathR ws us n page root x 0 root := by
  unfold PathR
  have hv := (walkAt_level _ _ _ _ h).1
  rw [if_pos (by push_cast; exact hv)]
  exact ⟨h0, h1, h, id⟩
theorem PathR.step {ws us : List Int} {n page root : Int} {x : Found} {l : Nat} {tb : Int} (h : PathR ws us n page root x l tb) (hl : (l : Int) ≤ x.fLevel)
    (he : us.getD (tb.toNat * 8 + (placeN l page).toNat) 0 = ws.getD (tb.toNat * 8 + (placeN l page).toNat) 0) : PathR ws us n page root x (l + 1) (ws.getD (tb.toNat * 8 + (placeN l page).toNat) 0 / 4096 % 68719476736) := by
  unfold PathR at h
  rw [if_pos hl] at h
  obtain ⟨h0, h1, h2, h3⟩ := h
  have hv := walkAt_level _ _ _ _ h2
  obtain ⟨k, hk⟩ : ∃ k, 4 - l = k + 1 := ⟨3 - l, by omega⟩
  have hk' : 4 - (l + 1) = k := by omega
  rw [hk] at h2 h3
  unfold walkAt at h2 h3
  rw [if_pos ⟨h0, h1⟩] at h2 h3
  rw [he] at h3
  split at h2
  · rename_i hd
    rw [if_pos hd] at h3
    rw [decD_table _ _ hd] at h2 h3
    have hv2 := walkAt_level _ _ _ _ h2
    unfold PathR
    rw [if_pos (by omega), hk']
    push_cast
    refine ⟨?_, ?_, h2, h3⟩
    · omega
    · cases k with
      | zero => simp [walkAt] at h2
      | succ k => unfold walkAt at h2; split at h2
                  · rename_i hh; exact hh.2
                  · cases h2
  · rename_i hd
    rw [if_neg hd] at h3
    have := h3 h2
    simp only [Option.some.injEq] at h2
    subst h2
    unfold PathR
    rw [(foundD_parts _ _ _ _ _).1, if_neg (by push_cast; omega)]
    exact ⟨by push_cast; rfl, this⟩
theorem PathR.done {ws us : List Int} {n page root : Int} {x : Found} {l : Nat} {tb : Int} (h : PathR ws us n page root x l tb) (hl : ¬ (l : Int) ≤ x.fLevel) : walkAt us n page 4 0 root = some x := by
  unfold PathR at h
  rw [if_neg hl] at h
  exact h.2
theorem PathR.here {ws us : List Int} {n page root : Int} {x : Found} {l : Nat} {tb : Int} (h : PathR ws us n page root x l tb) (hl : (l : Int) ≤ x.fLevel) : 0 ≤ tb ∧ tb < n ∧ l < 4 := by
  unfold PathR at h
  rw [if_pos hl] at h
  have := walkAt_level _ _ _ _ h.2.2.1
  exact ⟨h.1, h.2.1, by omega⟩

set_option maxRecDepth 100000 in
set_option maxHeartbeats 4000000 in
theorem law04_WalkHangs (w : World) (fr : Int) (hfr : (Lit.int .i64 fr).wf = true) (l : List Laid) (hl : ∀ d ∈ l, d.wf) (v : Value) (hv : SlRd w v 3 (l.map Laid.cells)) (root : Int) (_ : (Lit.int .i64 root).wf = true) (page : Int) (_ : (Lit.int .i64 page).wf = true) (other : Int) (_ : (Lit.int .i64 other).wf = true) (d : Laid) (hd : d.wf) :
    Calls Try.prog 10 #[.int .i64 fr, v, .int .i64 root, .int .i64 page, .int .i64 other, d.v] w fun e w' => e = .returned (.bool true) ∧ w.grownBy w' none := by
  have hw := WOk_layW (layN fr) l hl
  have HL := Lib.hid hl
  have HV := Lib.hid hv
  have HR := Lib.hid hfr
  have HD := Lib.hid hd
  clear hl hv hfr hd
  obtain ⟨aF, aP, aW⟩ := d
  go_enter Try.func10, Try.ntmps10
  go_wp2_with fail
  refine (law04_up _).mono ?_
  rintro e w1 ⟨rfl, G1⟩
  have hat1 : w1.heap[w.heap.size]? = _ := box_heap G1
  have gw1 : w.grownBy w1 none := grow_trans (World.grownBy_alloc _ _ _) G1
  generalize hab : w.heap.size = ab at *
  clear G1
  go_wp2_with fail
  refine (law04_Lay _ fr HR.out l HL.out v (HV.out.kept0 gw1)).mono ?_
  rintro e w2 ⟨b, g, h, hc, gb, gc, rfl, hm2, _, hg2, hb, hgg, _, _⟩
  have G2 := grow_trans gw1 hg2
  have lab := (Array.getElem?_eq_some_iff.1 hat1).1
  have hat2 := (hg2.block ab lab (by simp)).trans hat1
  have nb : ab < b ∧ ab < g := by omega
  generalize layW (layN fr) l = ws at *
  have hnn := layN_hi fr
  generalize layN fr = n at *
  clear HL HV HR hg2 gw1 hat1 lab hb hgg
  have hwr := hw
  obtain ⟨F, E1, hE1, HWK⟩ := walk_Walk_cases n ws hw root page
  obtain ⟨Y, E2, hE2, HWO⟩ := walk_Walk_cases n ws hw root other
  have HWK := Lib.hid HWK
  have HWO := Lib.hid HWO
  have HE1 := Lib.hid hE1
  have HE2 := Lib.hid hE2
  have HW := Lib.hid hw
  clear hE1 hE2 hw hwr
  obtain ⟨F0, F1, F2, F3, F4, F5, F6, F7, F8, F9, F10⟩ := F
  obtain ⟨Y0, Y1, Y2, Y3, Y4, Y5, Y6, Y7, Y8, Y9, Y10⟩ := Y
  go_wp2_with fail
  refine (HWK.out _ _ _ _ hm2).mono ?_
  rintro e w3 ⟨rfl, hg3⟩
  have hm3 := hm2.kept0 hg3
  have G3 := grow_trans G2 hg3
  have hat3 := (hg3.block ab (Array.getElem?_eq_some_iff.1 hat2).1 (by simp)).trans hat2
  clear hm2 hat2 G2 hg3
  have HAT3 := Lib.hid hat3
  clear hat3
  go_wp2_with fail
  have ga4 := World.grownBy_alloc w3 (.cells #[.int .i64 F0, .int .i64 F1, .int .i64 F2, .int .i64 F3, .int .i64 F4, .int .i64 F5, .int .i64 F6, .int .i64 F7, .bool F8, .bool F9, .bool F10] 63) none
  refine (HWO.out _ _ _ _ (hm3.kept0 ga4)).mono ?_
  rintro e w4 ⟨rfl, hg4⟩
  have hm4 := (hm3.kept0 ga4).kept0 hg4
  have hx4 : w4.heap[w3.heap.size]? = _ := box_heap hg4
  have gg4 := grow_trans ga4 hg4
  have G4 := grow_trans G3 gg4
  have hat4 := (gg4.block ab (Array.getElem?_eq_some_iff.1 HAT3.out).1 (by simp)).trans HAT3.out
  have nx : b < w3.heap.size ∧ g < w3.heap.size := ⟨hm3.ltb, hm3.ltg⟩
  generalize w3.heap.size = xb at *
  have HX4 := Lib.hid hx4
  have HAT4 := Lib.hid hat4
  clear hm3 HAT3 ga4 hg4 gg4 G3 hx4 hat4
  have hn' := fun w a b => neq_err w a b
  rcases HE1.out with ⟨rfl, hrg, hwx⟩ | ⟨e1, rfl⟩
  · have HWX := Lib.hid hwx
    clear hwx HE1
    obtain ⟨x0, x1, x2, x3, x4, x5, x6, x7, x8, x9, x10, xf⟩ := cells11 ((heap_old (Array.getElem?_eq_some_iff.1 HX4.out).1 (.cells #[.int .i64 Y0, .int .i64 Y1, .int .i64 Y2, .int .i64 Y3, .int .i64 Y4, .int .i64 Y5, .int .i64 Y6, .int .i64 Y7, .bool Y8, .bool Y9, .bool Y10] 63)).trans HX4.out)
    have hsm := walkAt_small hrg.2.2.1 hrg.2.2.2 _ _ _ _ HWX.out
    dsimp only at hsm
    have hkey : (E2 = .nilIface ∧ F0 = 2 ∧ F6 ≤ other ∧ other < F6 + 8 ∧ Y2 = F2 ∧ Y3 = F3 ∧ Y7 = F7 ∧ Y4 - F4 = other - page ∧ 0 ≤ Y4 ∧ Y4 < 520 ∧ 0 ≤ other ∧ other < 4096) ∨ (∃ e2, E2 = errW e2) ∨ (E2 = .nilIface ∧ F0 ≠ 2) ∨ (E2 = .nilIface ∧ F0 = 2 ∧ ¬ F6 ≤ other) ∨ (E2 = .nilIface ∧ F0 = 2 ∧ F6 ≤ other ∧ ¬ other < F6 + 8) := by
      rcases HE2.out with ⟨rfl, hro, hwo⟩ | h
      · by_cases k0 : F0 = 2
        · by_cases k1 : F6 ≤ other
          · by_cases k2 : other < F6 + 8
            · have h1 := (walkAt_kind2 _ _ _ _ HWX.out k0).2
              have h2 := walkAt_block (page := page) (other := other) (by dsimp only at h1; omega) 4 0 root _ _ (by omega) HWX.out hwo k0
              have h3 := walkAt_small hro.2.2.1 hro.2.2.2 _ _ _ _ hwo
              exact .inl ⟨rfl, k0, k1, k2, h2.1, h2.2.1, h2.2.2.1, h2.2.2.2, h3.2.2.1, h3.2.2.2, hro.2.2.1, hro.2.2.2⟩
            · exact .inr (.inr (.inr (.inr ⟨rfl, k0, k1, k2⟩)))
          · exact .inr (.inr (.inr (.inl ⟨rfl, k0, k1⟩)))
        · exact .inr (.inr (.inl ⟨rfl, k0⟩))
      · exact .inr (.inl h)
    clear HE2
    have gy := World.grownBy_alloc w4 (.cells #[.int .i64 Y0, .int .i64 Y1, .int .i64 Y2, .int .i64 Y3, .int .i64 Y4, .int .i64 Y5, .int .i64 Y6, .int .i64 Y7, .bool Y8, .bool Y9, .bool Y10] 63) none
    have hm5 := hm4.kept0 gy
    have G5 := grow_trans G4 gy
    have HX5 := Lib.hid ((gy.block xb (Array.getElem?_eq_some_iff.1 HX4.out).1 (by simp)).trans HX4.out)
    have HAT5 := Lib.hid ((gy.block ab (Array.getElem?_eq_some_iff.1 HAT4.out).1 (by simp)).trans HAT4.out)
    have HP5 := Lib.hid (PathR.start (us := layStep n ws ⟨aF, aP, aW⟩) HWX.out hrg.1 hrg.2.1)
    clear gy hm4 G4 HX4 HAT4
    rcases hkey with ⟨rfl, k0, k1, k2, k8, k9, k10, k3, k4, k5, k6, k7⟩ | ⟨e2, rfl⟩ | ⟨rfl, k0⟩ | ⟨rfl, k0, k1⟩ | ⟨rfl, k0, k1, k2⟩
    · have z0 : (F0 == 2) = true := by simpa using k0
      have z1 : decide (F6 ≤ other) = true := by simpa using k1
      have z2 : decide (other < F6 + 8) = true := by simpa using k2
      have k8 := k8.symm
      have k9 := k9.symm
      have k10 := k10.symm
      subst k8
      subst k9
      subst k10
      clear k0 k1 k2
      go_wp2_with fail
      go_loopw [20, 21] (fun t i wr => ∃ (lv : Nat) (tb : Int), i = .int .i64 lv ∧ t = .int .i64 tb ∧ Hid (PathR ws (layStep n ws ⟨aF, aP, aW⟩) n page root ⟨F0, F1, F2, F3, F4, F5, F6, F7, F8, F9, F10⟩ lv tb) ∧ MemAt wr b g n n ws ∧ w.grownBy wr none ∧
          Hid (wr.heap[xb]? = some (.cells #[.int .i64 F0, .int .i64 F1, .int .i64 F2, .int .i64 F3, .int .i64 F4, .int .i64 F5, .int .i64 F6, .int .i64 F7, .bool F8, .bool F9, .bool F10] 63 (0, 0))) ∧ Hid (wr.heap[ab]? = some (.cells #[.int .i64 aF, .int .i64 aP, .int .u64 aW] 70 (0, 0)))) (fun _ i _ => 4 - (intOf i).toNat)
      case atStart => exact ⟨0, root, rfl, rfl, HP5, hm5, G5, HX5, HAT5⟩
      case round =>
        obtain ⟨lv, tb, rfl, rfl, HP, hmr, GR, HX, HAT⟩ := hrel
        obtain ⟨c0, c1, c2, c3, c4, c5, c6, c7, c8, c9, c10, cf⟩ := cells11 HX.out
        by_cases hlt : (lv : Int) ≤ F1
        · have zl : decide ((lv : Int) ≤ F1) = true := by simpa using hlt
          have hh := HP.out.here hlt
          go_wp2_with fail
          refine (walk_Place _ lv page (by omega) (by omega) hrg.2.2.1 hrg.2.2.2).mono ?_
          rintro e w6 ⟨rfl, m6, rfl⟩
          have gd := grow_drewN (grow_refl wr none) m6
          have hm6 := hmr.kept0 gd
          have G6 := grow_trans GR gd
          have hx6 := (gd.block xb (Array.getElem?_eq_some_iff.1 HX.out).1 (by simp)).trans HX.out
          have ha6 := (gd.block ab (Array.getElem?_eq_some_iff.1 HAT.out).1 (by simp)).trans HAT.out
          obtain ⟨d0, d1, d2, df⟩ := cells3 ha6
          have HX6 := Lib.hid hx6
          have HA6 := Lib.hid ha6
          clear hmr GR HX HAT hx6 ha6 c0 c1 c2 c3 c4 c5 c6 c7 c8 c9 c10 cf gd
          generalize wr.drewN m6 = w6 at *
          have hp0 := placeN_lo lv page
          have hp1 := placeN_hi lv page
          have HST := Lib.hid (fun h => HP.out.step hlt (set_other ws n ⟨aF, aP, aW⟩ tb (placeN lv page) hh.1 hh.2.1 hp0 hp1 h))
          generalize placeN lv page = pp at *
          by_cases y0 : aF = tb
          · have y0b : (aF == tb) = true := by simpa using y0
            by_cases y1 : aP = pp
            · have y1b : (aP == pp) = true := by simpa using y1
              clear y0 y1
              go_wp2_with fail
              go_ret
              exact ⟨rfl, G6⟩
            have y1b : (aP == pp) = false := by simpa using y1
            have HSX := Lib.hid (HST.out (fun h => y1 h.2))
            clear y0 y1
            go_wp2_with fail
            refine (phys_Load_int _ hm6 tb pp hh.1 hh.2.1 hp0 hp1).mono ?_
            rintro e w7 ⟨rfl, rfl⟩
            have hwb := HW.out.getD (tb.toNat * 8 + pp.toNat)
            generalize ws.getD (tb.toNat * 8 + pp.toNat) 0 = wd at *
            go_wp2_with fail
            go_roundw
            case rel => exact ⟨lv + 1, wd / 4096 % 68719476736, by go_num, rfl, HSX, hm6, G6, HX6, HA6⟩
            case measure => simp [intOf]; omega
          · have y0b : (aF == tb) = false := by simpa using y0
            have HSX := Lib.hid (HST.out (fun h => y0 h.1))
            clear y0
            go_wp2_with fail
            refine (phys_Load_int _ hm6 tb pp hh.1 hh.2.1 hp0 hp1).mono ?_
            rintro e w7 ⟨rfl, rfl⟩
            have hwb := HW.out.getD (tb.toNat * 8 + pp.toNat)
            generalize ws.getD (tb.toNat * 8 + pp.toNat) 0 = wd at *
            go_wp2_with fail
            go_roundw
            case rel => exact ⟨lv + 1, wd / 4096 % 68719476736, by go_num, rfl, HSX, hm6, G6, HX6, HA6⟩
            case measure => simp [intOf]; omega
        · have zl : decide ((lv : Int) ≤ F1) = false := by simpa using hlt
          have HE := Lib.hid (HP.out.done hlt)
          obtain ⟨d0, d1, d2, df⟩ := cells3 HAT.out
          have HWY := Lib.hid (walk_Walk_yes n (layStep n ws ⟨aF, aP, aW⟩) (WOk_step HW.out HD.out) root page _ hrg HE.out)
          by_cases hin : 0 ≤ aF ∧ aF < n ∧ 0 ≤ aP ∧ aP < 8
          · have hst : layStep n ws ⟨aF, aP, aW⟩ = ws.set (aF.toNat * 8 + aP.toNat) aW := by unfold layStep; rw [if_pos hin]
            rw [hst] at HWY
            go_wp2_with fail
            refine (phys_Store_int _ hmr aF aP aW hin.1 hin.2.1 hin.2.2.1 hin.2.2.2).mono ?_
            rintro e w6 ⟨rfl, hm6, hg6⟩
            have G6 : w.grownBy w6 none := grow_new GR hg6 (by omega)
            have HX6 := Lib.hid ((hg6.block xb (Array.getElem?_eq_some_iff.1 HX.out).1 (by simp; omega)).trans HX.out)
            clear hmr GR HX HAT hg6
            go_wp2_with fail
            refine (HWY.out _ _ _ _ hm6).mono ?_
            rintro e w7 ⟨rfl, hg7⟩
            have G7 := grow_trans G6 hg7
            have gz := World.grownBy_alloc w7 (.cells #[.int .i64 F0, .int .i64 F1, .int .i64 F2, .int .i64 F3, .int .i64 F4, .int .i64 F5, .int .i64 F6, .int .i64 F7, .bool F8, .bool F9, .bool F10] 63) none
            have hx7 := ((grow_trans hg7 gz).block xb (Array.getElem?_eq_some_iff.1 HX6.out).1 (by simp)).trans HX6.out
            obtain ⟨q0, q1, q2, q3, q4, q5, q6, q7, q8, q9, q10, qf⟩ := cells11 hx7
            go_wp2_with fail
            go_ret
            exact ⟨rfl, grow_trans G7 gz⟩
          · have hst : layStep n ws ⟨aF, aP, aW⟩ = ws := by unfold layStep; rw [if_neg hin]
            rw [hst] at HWY
            go_wp2_with fail
            refine (phys_Store_no _ hmr aF aP aW hin).mono ?_
            rintro e w6 ⟨rfl, rfl⟩
            have hm6 := hmr
            have G6 := GR
            have HX6 := HX
            clear hmr GR HX HAT
            go_wp2_with fail
            refine (HWY.out _ _ _ _ hm6).mono ?_
            rintro e w7 ⟨rfl, hg7⟩
            have G7 := grow_trans G6 hg7
            have gz := World.grownBy_alloc w7 (.cells #[.int .i64 F0, .int .i64 F1, .int .i64 F2, .int .i64 F3, .int .i64 F4, .int .i64 F5, .int .i64 F6, .int .i64 F7, .bool F8, .bool F9, .bool F10] 63) none
            have hx7 := ((grow_trans hg7 gz).block xb (Array.getElem?_eq_some_iff.1 HX6.out).1 (by simp)).trans HX6.out
            obtain ⟨q0, q1, q2, q3, q4, q5, q6, q7, q8, q9, q10, qf⟩ := cells11 hx7
            go_wp2_with fail
            go_ret
            exact ⟨rfl, grow_trans G7 gz⟩
    · go_wp2_with fail
      go_loopw [20, 21] (fun t i wr => ∃ (lv : Nat) (tb : Int), i = .int .i64 lv ∧ t = .int .i64 tb ∧ Hid (PathR ws (layStep n ws ⟨aF, aP, aW⟩) n page root ⟨F0, F1, F2, F3, F4, F5, F6, F7, F8, F9, F10⟩ lv tb) ∧ MemAt wr b g n n ws ∧ w.grownBy wr none ∧
          Hid (wr.heap[xb]? = some (.cells #[.int .i64 F0, .int .i64 F1, .int .i64 F2, .int .i64 F3, .int .i64 F4, .int .i64 F5, .int .i64 F6, .int .i64 F7, .bool F8, .bool F9, .bool F10] 63 (0, 0))) ∧ Hid (wr.heap[ab]? = some (.cells #[.int .i64 aF, .int .i64 aP, .int .u64 aW] 70 (0, 0)))) (fun _ i _ => 4 - (intOf i).toNat)
      case atStart => exact ⟨0, root, rfl, rfl, HP5, hm5, G5, HX5, HAT5⟩
      case round =>
        obtain ⟨lv, tb, rfl, rfl, HP, hmr, GR, HX, HAT⟩ := hrel
        obtain ⟨c0, c1, c2, c3, c4, c5, c6, c7, c8, c9, c10, cf⟩ := cells11 HX.out
        by_cases hlt : (lv : Int) ≤ F1
        · have zl : decide ((lv : Int) ≤ F1) = true := by simpa using hlt
          have hh := HP.out.here hlt
          go_wp2_with fail
          refine (walk_Place _ lv page (by omega) (by omega) hrg.2.2.1 hrg.2.2.2).mono ?_
          rintro e w6 ⟨rfl, m6, rfl⟩
          have gd := grow_drewN (grow_refl wr none) m6
          have hm6 := hmr.kept0 gd
          have G6 := grow_trans GR gd
          have hx6 := (gd.block xb (Array.getElem?_eq_some_iff.1 HX.out).1 (by simp)).trans HX.out
          have ha6 := (gd.block ab (Array.getElem?_eq_some_iff.1 HAT.out).1 (by simp)).trans HAT.out
          obtain ⟨d0, d1, d2, df⟩ := cells3 ha6
          have HX6 := Lib.hid hx6
          have HA6 := Lib.hid ha6
          clear hmr GR HX HAT hx6 ha6 c0 c1 c2 c3 c4 c5 c6 c7 c8 c9 c10 cf gd
          generalize wr.drewN m6 = w6 at *
          have hp0 := placeN_lo lv page
          have hp1 := placeN_hi lv page
          have HST := Lib.hid (fun h => HP.out.step hlt (set_other ws n ⟨aF, aP, aW⟩ tb (placeN lv page) hh.1 hh.2.1 hp0 hp1 h))
          generalize placeN lv page = pp at *
          by_cases y0 : aF = tb
          · have y0b : (aF == tb) = true := by simpa using y0
            by_cases y1 : aP = pp
            · have y1b : (aP == pp) = true := by simpa using y1
              clear y0 y1
              go_wp2_with fail
              go_ret
              exact ⟨rfl, G6⟩
            have y1b : (aP == pp) = false := by simpa using y1
            have HSX := Lib.hid (HST.out (fun h => y1 h.2))
            clear y0 y1
            go_wp2_with fail
            refine (phys_Load_int _ hm6 tb pp hh.1 hh.2.1 hp0 hp1).mono ?_
            rintro e w7 ⟨rfl, rfl⟩
            have hwb := HW.out.getD (tb.toNat * 8 + pp.toNat)
            generalize ws.getD (tb.toNat * 8 + pp.toNat) 0 = wd at *
            go_wp2_with fail
            go_roundw
            case rel => exact ⟨lv + 1, wd / 4096 % 68719476736, by go_num, rfl, HSX, hm6, G6, HX6, HA6⟩
            case measure => simp [intOf]; omega
          · have y0b : (aF == tb) = false := by simpa using y0
            have HSX := Lib.hid (HST.out (fun h => y0 h.1))
            clear y0
            go_wp2_with fail
            refine (phys_Load_int _ hm6 tb pp hh.1 hh.2.1 hp0 hp1).mono ?_
            rintro e w7 ⟨rfl, rfl⟩
            have hwb := HW.out.getD (tb.toNat * 8 + pp.toNat)
            generalize ws.getD (tb.toNat * 8 + pp.toNat) 0 = wd at *
            go_wp2_with fail
            go_roundw
            case rel => exact ⟨lv + 1, wd / 4096 % 68719476736, by go_num, rfl, HSX, hm6, G6, HX6, HA6⟩
            case measure => simp [intOf]; omega
        · have zl : decide ((lv : Int) ≤ F1) = false := by simpa using hlt
          have HE := Lib.hid (HP.out.done hlt)
          obtain ⟨d0, d1, d2, df⟩ := cells3 HAT.out
          have HWY := Lib.hid (walk_Walk_yes n (layStep n ws ⟨aF, aP, aW⟩) (WOk_step HW.out HD.out) root page _ hrg HE.out)
          by_cases hin : 0 ≤ aF ∧ aF < n ∧ 0 ≤ aP ∧ aP < 8
          · have hst : layStep n ws ⟨aF, aP, aW⟩ = ws.set (aF.toNat * 8 + aP.toNat) aW := by unfold layStep; rw [if_pos hin]
            rw [hst] at HWY
            go_wp2_with fail
            refine (phys_Store_int _ hmr aF aP aW hin.1 hin.2.1 hin.2.2.1 hin.2.2.2).mono ?_
            rintro e w6 ⟨rfl, hm6, hg6⟩
            have G6 : w.grownBy w6 none := grow_new GR hg6 (by omega)
            have HX6 := Lib.hid ((hg6.block xb (Array.getElem?_eq_some_iff.1 HX.out).1 (by simp; omega)).trans HX.out)
            clear hmr GR HX HAT hg6
            go_wp2_with fail
            refine (HWY.out _ _ _ _ hm6).mono ?_
            rintro e w7 ⟨rfl, hg7⟩
            have G7 := grow_trans G6 hg7
            have gz := World.grownBy_alloc w7 (.cells #[.int .i64 F0, .int .i64 F1, .int .i64 F2, .int .i64 F3, .int .i64 F4, .int .i64 F5, .int .i64 F6, .int .i64 F7, .bool F8, .bool F9, .bool F10] 63) none
            have hx7 := ((grow_trans hg7 gz).block xb (Array.getElem?_eq_some_iff.1 HX6.out).1 (by simp)).trans HX6.out
            obtain ⟨q0, q1, q2, q3, q4, q5, q6, q7, q8, q9, q10, qf⟩ := cells11 hx7
            go_wp2_with fail
            go_ret
            exact ⟨rfl, grow_trans G7 gz⟩
          · have hst : layStep n ws ⟨aF, aP, aW⟩ = ws := by unfold layStep; rw [if_neg hin]
            rw [hst] at HWY
            go_wp2_with fail
            refine (phys_Store_no _ hmr aF aP aW hin).mono ?_
            rintro e w6 ⟨rfl, rfl⟩
            have hm6 := hmr
            have G6 := GR
            have HX6 := HX
            clear hmr GR HX HAT
            go_wp2_with fail
            refine (HWY.out _ _ _ _ hm6).mono ?_
            rintro e w7 ⟨rfl, hg7⟩
            have G7 := grow_trans G6 hg7
            have gz := World.grownBy_alloc w7 (.cells #[.int .i64 F0, .int .i64 F1, .int .i64 F2, .int .i64 F3, .int .i64 F4, .int .i64 F5, .int .i64 F6, .int .i64 F7, .bool F8, .bool F9, .bool F10] 63) none
            have hx7 := ((grow_trans hg7 gz).block xb (Array.getElem?_eq_some_iff.1 HX6.out).1 (by simp)).trans HX6.out
            obtain ⟨q0, q1, q2, q3, q4, q5, q6, q7, q8, q9, q10, qf⟩ := cells11 hx7
            go_wp2_with fail
            go_ret
            exact ⟨rfl, grow_trans G7 gz⟩
    · have z0 : (F0 == 2) = false := by simpa using k0
      clear k0
      go_wp2_with fail
      go_loopw [20, 21] (fun t i wr => ∃ (lv : Nat) (tb : Int), i = .int .i64 lv ∧ t = .int .i64 tb ∧ Hid (PathR ws (layStep n ws ⟨aF, aP, aW⟩) n page root ⟨F0, F1, F2, F3, F4, F5, F6, F7, F8, F9, F10⟩ lv tb) ∧ MemAt wr b g n n ws ∧ w.grownBy wr none ∧
          Hid (wr.heap[xb]? = some (.cells #[.int .i64 F0, .int .i64 F1, .int .i64 F2, .int .i64 F3, .int .i64 F4, .int .i64 F5, .int .i64 F6, .int .i64 F7, .bool F8, .bool F9, .bool F10] 63 (0, 0))) ∧ Hid (wr.heap[ab]? = some (.cells #[.int .i64 aF, .int .i64 aP, .int .u64 aW] 70 (0, 0)))) (fun _ i _ => 4 - (intOf i).toNat)
      case atStart => exact ⟨0, root, rfl, rfl, HP5, hm5, G5, HX5, HAT5⟩
      case round =>
        obtain ⟨lv, tb, rfl, rfl, HP, hmr, GR, HX, HAT⟩ := hrel
        obtain ⟨c0, c1, c2, c3, c4, c5, c6, c7, c8, c9, c10, cf⟩ := cells11 HX.out
        by_cases hlt : (lv : Int) ≤ F1
        · have zl : decide ((lv : Int) ≤ F1) = true := by simpa using hlt
          have hh := HP.out.here hlt
          go_wp2_with fail
          refine (walk_Place _ lv page (by omega) (by omega) hrg.2.2.1 hrg.2.2.2).mono ?_
          rintro e w6 ⟨rfl, m6, rfl⟩
          have gd := grow_drewN (grow_refl wr none) m6
          have hm6 := hmr.kept0 gd
          have G6 := grow_trans GR gd
          have hx6 := (gd.block xb (Array.getElem?_eq_some_iff.1 HX.out).1 (by simp)).trans HX.out
          have ha6 := (gd.block ab (Array.getElem?_eq_some_iff.1 HAT.out).1 (by simp)).trans HAT.out
          obtain ⟨d0, d1, d2, df⟩ := cells3 ha6
          have HX6 := Lib.hid hx6
          have HA6 := Lib.hid ha6
          clear hmr GR HX HAT hx6 ha6 c0 c1 c2 c3 c4 c5 c6 c7 c8 c9 c10 cf gd
          generalize wr.drewN m6 = w6 at *
          have hp0 := placeN_lo lv page
          have hp1 := placeN_hi lv page
          have HST := Lib.hid (fun h => HP.out.step hlt (set_other ws n ⟨aF, aP, aW⟩ tb (placeN lv page) hh.1 hh.2.1 hp0 hp1 h))
          generalize placeN lv page = pp at *
          by_cases y0 : aF = tb
          · have y0b : (aF == tb) = true := by simpa using y0
            by_cases y1 : aP = pp
            · have y1b : (aP == pp) = true := by simpa using y1
              clear y0 y1
              go_wp2_with fail
              go_ret
              exact ⟨rfl, G6⟩
            have y1b : (aP == pp) = false := by simpa using y1
            have HSX := Lib.hid (HST.out (fun h => y1 h.2))
            clear y0 y1
            go_wp2_with fail
            refine (phys_Load_int _ hm6 tb pp hh.1 hh.2.1 hp0 hp1).mono ?_
            rintro e w7 ⟨rfl, rfl⟩
            have hwb := HW.out.getD (tb.toNat * 8 + pp.toNat)
            generalize ws.getD (tb.toNat * 8 + pp.toNat) 0 = wd at *
            go_wp2_with fail
            go_roundw
            case rel => exact ⟨lv + 1, wd / 4096 % 68719476736, by go_num, rfl, HSX, hm6, G6, HX6, HA6⟩
            case measure => simp [intOf]; omega
          · have y0b : (aF == tb) = false := by simpa using y0
            have HSX := Lib.hid (HST.out (fun h => y0 h.1))
            clear y0
            go_wp2_with fail
            refine (phys_Load_int _ hm6 tb pp hh.1 hh.2.1 hp0 hp1).mono ?_
            rintro e w7 ⟨rfl, rfl⟩
            have hwb := HW.out.getD (tb.toNat * 8 + pp.toNat)
            generalize ws.getD (tb.toNat * 8 + pp.toNat) 0 = wd at *
            go_wp2_with fail
            go_roundw
            case rel => exact ⟨lv + 1, wd / 4096 % 68719476736, by go_num, rfl, HSX, hm6, G6, HX6, HA6⟩
            case measure => simp [intOf]; omega
        · have zl : decide ((lv : Int) ≤ F1) = false := by simpa using hlt
          have HE := Lib.hid (HP.out.done hlt)
          obtain ⟨d0, d1, d2, df⟩ := cells3 HAT.out
          have HWY := Lib.hid (walk_Walk_yes n (layStep n ws ⟨aF, aP, aW⟩) (WOk_step HW.out HD.out) root page _ hrg HE.out)
          by_cases hin : 0 ≤ aF ∧ aF < n ∧ 0 ≤ aP ∧ aP < 8
          · have hst : layStep n ws ⟨aF, aP, aW⟩ = ws.set (aF.toNat * 8 + aP.toNat) aW := by unfold layStep; rw [if_pos hin]
            rw [hst] at HWY
            go_wp2_with fail
            refine (phys_Store_int _ hmr aF aP aW hin.1 hin.2.1 hin.2.2.1 hin.2.2.2).mono ?_
            rintro e w6 ⟨rfl, hm6, hg6⟩
            have G6 : w.grownBy w6 none := grow_new GR hg6 (by omega)
            have HX6 := Lib.hid ((hg6.block xb (Array.getElem?_eq_some_iff.1 HX.out).1 (by simp; omega)).trans HX.out)
            clear hmr GR HX HAT hg6
            go_wp2_with fail
            refine (HWY.out _ _ _ _ hm6).mono ?_
            rintro e w7 ⟨rfl, hg7⟩
            have G7 := grow_trans G6 hg7
            have gz := World.grownBy_alloc w7 (.cells #[.int .i64 F0, .int .i64 F1, .int .i64 F2, .int .i64 F3, .int .i64 F4, .int .i64 F5, .int .i64 F6, .int .i64 F7, .bool F8, .bool F9, .bool F10] 63) none
            have hx7 := ((grow_trans hg7 gz).block xb (Array.getElem?_eq_some_iff.1 HX6.out).1 (by simp)).trans HX6.out
            obtain ⟨q0, q1, q2, q3, q4, q5, q6, q7, q8, q9, q10, qf⟩ := cells11 hx7
            go_wp2_with fail
            go_ret
            exact ⟨rfl, grow_trans G7 gz⟩
          · have hst : layStep n ws ⟨aF, aP, aW⟩ = ws := by unfold layStep; rw [if_neg hin]
            rw [hst] at HWY
            go_wp2_with fail
            refine (phys_Store_no _ hmr aF aP aW hin).mono ?_
            rintro e w6 ⟨rfl, rfl⟩
            have hm6 := hmr
            have G6 := GR
            have HX6 := HX
            clear hmr GR HX HAT
            go_wp2_with fail
            refine (HWY.out _ _ _ _ hm6).mono ?_
            rintro e w7 ⟨rfl, hg7⟩
            have G7 := grow_trans G6 hg7
            have gz := World.grownBy_alloc w7 (.cells #[.int .i64 F0, .int .i64 F1, .int .i64 F2, .int .i64 F3, .int .i64 F4, .int .i64 F5, .int .i64 F6, .int .i64 F7, .bool F8, .bool F9, .bool F10] 63) none
            have hx7 := ((grow_trans hg7 gz).block xb (Array.getElem?_eq_some_iff.1 HX6.out).1 (by simp)).trans HX6.out
            obtain ⟨q0, q1, q2, q3, q4, q5, q6, q7, q8, q9, q10, qf⟩ := cells11 hx7
            go_wp2_with fail
            go_ret
            exact ⟨rfl, grow_trans G7 gz⟩
    · have z0 : (F0 == 2) = true := by simpa using k0
      have z1 : decide (F6 ≤ other) = false := by simpa using k1
      clear k0 k1
      go_wp2_with fail
      go_loopw [20, 21] (fun t i wr => ∃ (lv : Nat) (tb : Int), i = .int .i64 lv ∧ t = .int .i64 tb ∧ Hid (PathR ws (layStep n ws ⟨aF, aP, aW⟩) n page root ⟨F0, F1, F2, F3, F4, F5, F6, F7, F8, F9, F10⟩ lv tb) ∧ MemAt wr b g n n ws ∧ w.grownBy wr none ∧
          Hid (wr.heap[xb]? = some (.cells #[.int .i64 F0, .int .i64 F1, .int .i64 F2, .int .i64 F3, .int .i64 F4, .int .i64 F5, .int .i64 F6, .int .i64 F7, .bool F8, .bool F9, .bool F10] 63 (0, 0))) ∧ Hid (wr.heap[ab]? = some (.cells #[.int .i64 aF, .int .i64 aP, .int .u64 aW] 70 (0, 0)))) (fun _ i _ => 4 - (intOf i).toNat)
      case atStart => exact ⟨0, root, rfl, rfl, HP5, hm5, G5, HX5, HAT5⟩
      case round =>
        obtain ⟨lv, tb, rfl, rfl, HP, hmr, GR, HX, HAT⟩ := hrel
        obtain ⟨c0, c1, c2, c3, c4, c5, c6, c7, c8, c9, c10, cf⟩ := cells11 HX.out
        by_cases hlt : (lv : Int) ≤ F1
        · have zl : decide ((lv : Int) ≤ F1) = true := by simpa using hlt
          have hh := HP.out.here hlt
          go_wp2_with fail
          refine (walk_Place _ lv page (by omega) (by omega) hrg.2.2.1 hrg.2.2.2).mono ?_
          rintro e w6 ⟨rfl, m6, rfl⟩
          have gd := grow_drewN (grow_refl wr none) m6
          have hm6 := hmr.kept0 gd
          have G6 := grow_trans GR gd
          have hx6 := (gd.block xb (Array.getElem?_eq_some_iff.1 HX.out).1 (by simp)).trans HX.out
          have ha6 := (gd.block ab (Array.getElem?_eq_some_iff.1 HAT.out).1 (by simp)).trans HAT.out
          obtain ⟨d0, d1, d2, df⟩ := cells3 ha6
          have HX6 := Lib.hid hx6
          have HA6 := Lib.hid ha6
          clear hmr GR HX HAT hx6 ha6 c0 c1 c2 c3 c4 c5 c6 c7 c8 c9 c10 cf gd
          generalize wr.drewN m6 = w6 at *
          have hp0 := placeN_lo lv page
          have hp1 := placeN_hi lv page
          have HST := Lib.hid (fun h => HP.out.step hlt (set_other ws n ⟨aF, aP, aW⟩ tb (placeN lv page) hh.1 hh.2.1 hp0 hp1 h))
          generalize placeN lv page = pp at *
          by_cases y0 : aF = tb
          · have y0b : (aF == tb) = true := by simpa using y0
            by_cases y1 : aP = pp
            · have y1b : (aP == pp) = true := by simpa using y1
              clear y0 y1
              go_wp2_with fail
              go_ret
              exact ⟨rfl, G6⟩
            have y1b : (aP == pp) = false := by simpa using y1
            have HSX := Lib.hid (HST.out (fun h => y1 h.2))
            clear y0 y1
            go_wp2_with fail
            refine (phys_Load_int _ hm6 tb pp hh.1 hh.2.1 hp0 hp1).mono ?_
            rintro e w7 ⟨rfl, rfl⟩
            have hwb := HW.out.getD (tb.toNat * 8 + pp.toNat)
            generalize ws.getD (tb.toNat * 8 + pp.toNat) 0 = wd at *
            go_wp2_with fail
            go_roundw
            case rel => exact ⟨lv + 1, wd / 4096 % 68719476736, by go_num, rfl, HSX, hm6, G6, HX6, HA6⟩
            case measure => simp [intOf]; omega
          · have y0b : (aF == tb) = false := by simpa using y0
            have HSX := Lib.hid (HST.out (fun h => y0 h.1))
            clear y0
            go_wp2_with fail
            refine (phys_Load_int _ hm6 tb pp hh.1 hh.2.1 hp0 hp1).mono ?_
            rintro e w7 ⟨rfl, rfl⟩
            have hwb := HW.out.getD (tb.toNat * 8 + pp.toNat)
            generalize ws.getD (tb.toNat * 8 + pp.toNat) 0 = wd at *
            go_wp2_with fail
            go_roundw
            case rel => exact ⟨lv + 1, wd / 4096 % 68719476736, by go_num, rfl, HSX, hm6, G6, HX6, HA6⟩
            case measure => simp [intOf]; omega
        · have zl : decide ((lv : Int) ≤ F1) = false := by simpa using hlt
          have HE := Lib.hid (HP.out.done hlt)
          obtain ⟨d0, d1, d2, df⟩ := cells3 HAT.out
          have HWY := Lib.hid (walk_Walk_yes n (layStep n ws ⟨aF, aP, aW⟩) (WOk_step HW.out HD.out) root page _ hrg HE.out)
          by_cases hin : 0 ≤ aF ∧ aF < n ∧ 0 ≤ aP ∧ aP < 8
          · have hst : layStep n ws ⟨aF, aP, aW⟩ = ws.set (aF.toNat * 8 + aP.toNat) aW := by unfold layStep; rw [if_pos hin]
            rw [hst] at HWY
            go_wp2_with fail
            refine (phys_Store_int _ hmr aF aP aW hin.1 hin.2.1 hin.2.2.1 hin.2.2.2).mono ?_
            rintro e w6 ⟨rfl, hm6, hg6⟩
            have G6 : w.grownBy w6 none := grow_new GR hg6 (by omega)
            have HX6 := Lib.hid ((hg6.block xb (Array.getElem?_eq_some_iff.1 HX.out).1 (by simp; omega)).trans HX.out)
            clear hmr GR HX HAT hg6
            go_wp2_with fail
            refine (HWY.out _ _ _ _ hm6).mono ?_
            rintro e w7 ⟨rfl, hg7⟩
            have G7 := grow_trans G6 hg7
            have gz := World.grownBy_alloc w7 (.cells #[.int .i64 F0, .int .i64 F1, .int .i64 F2, .int .i64 F3, .int .i64 F4, .int .i64 F5, .int .i64 F6, .int .i64 F7, .bool F8, .bool F9, .bool F10] 63) none
            have hx7 := ((grow_trans hg7 gz).block xb (Array.getElem?_eq_some_iff.1 HX6.out).1 (by simp)).trans HX6.out
            obtain ⟨q0, q1, q2, q3, q4, q5, q6, q7, q8, q9, q10, qf⟩ := cells11 hx7
            go_wp2_with fail
            go_ret
            exact ⟨rfl, grow_trans G7 gz⟩
          · have hst : layStep n ws ⟨aF, aP, aW⟩ = ws := by unfold layStep; rw [if_neg hin]
            rw [hst] at HWY
            go_wp2_with fail
            refine (phys_Store_no _ hmr aF aP aW hin).mono ?_
            rintro e w6 ⟨rfl, rfl⟩
            have hm6 := hmr
            have G6 := GR
            have HX6 := HX
            clear hmr GR HX HAT
            go_wp2_with fail
            refine (HWY.out _ _ _ _ hm6).mono ?_
            rintro e w7 ⟨rfl, hg7⟩
            have G7 := grow_trans G6 hg7
            have gz := World.grownBy_alloc w7 (.cells #[.int .i64 F0, .int .i64 F1, .int .i64 F2, .int .i64 F3, .int .i64 F4, .int .i64 F5, .int .i64 F6, .int .i64 F7, .bool F8, .bool F9, .bool F10] 63) none
            have hx7 := ((grow_trans hg7 gz).block xb (Array.getElem?_eq_some_iff.1 HX6.out).1 (by simp)).trans HX6.out
            obtain ⟨q0, q1, q2, q3, q4, q5, q6, q7, q8, q9, q10, qf⟩ := cells11 hx7
            go_wp2_with fail
            go_ret
            exact ⟨rfl, grow_trans G7 gz⟩
    · have z0 : (F0 == 2) = true := by simpa using k0
      have z1 : decide (F6 ≤ other) = true := by simpa using k1
      have z2 : decide (other < F6 + 8) = false := by simpa using k2
      clear k0 k1 k2
      go_wp2_with fail
      go_loopw [20, 21] (fun t i wr => ∃ (lv : Nat) (tb : Int), i = .int .i64 lv ∧ t = .int .i64 tb ∧ Hid (PathR ws (layStep n ws ⟨aF, aP, aW⟩) n page root ⟨F0, F1, F2, F3, F4, F5, F6, F7, F8, F9, F10⟩ lv tb) ∧ MemAt wr b g n n ws ∧ w.grownBy wr none ∧
          Hid (wr.heap[xb]? = some (.cells #[.int .i64 F0, .int .i64 F1, .int .i64 F2, .int .i64 F3, .int .i64 F4, .int .i64 F5, .int .i64 F6, .int .i64 F7, .bool F8, .bool F9, .bool F10] 63 (0, 0))) ∧ Hid (wr.heap[ab]? = some (.cells #[.int .i64 aF, .int .i64 aP, .int .u64 aW] 70 (0, 0)))) (fun _ i _ => 4 - (intOf i).toNat)
      case atStart => exact ⟨0, root, rfl, rfl, HP5, hm5, G5, HX5, HAT5⟩
      case round =>
        obtain ⟨lv, tb, rfl, rfl, HP, hmr, GR, HX, HAT⟩ := hrel
        obtain ⟨c0, c1, c2, c3, c4, c5, c6, c7, c8, c9, c10, cf⟩ := cells11 HX.out
        by_cases hlt : (lv : Int) ≤ F1
        · have zl : decide ((lv : Int) ≤ F1) = true := by simpa using hlt
          have hh := HP.out.here hlt
          go_wp2_with fail
          refine (walk_Place _ lv page (by omega) (by omega) hrg.2.2.1 hrg.2.2.2).mono ?_
          rintro e w6 ⟨rfl, m6, rfl⟩
          have gd := grow_drewN (grow_refl wr none) m6
          have hm6 := hmr.kept0 gd
          have G6 := grow_trans GR gd
          have hx6 := (gd.block xb (Array.getElem?_eq_some_iff.1 HX.out).1 (by simp)).trans HX.out
          have ha6 := (gd.block ab (Array.getElem?_eq_some_iff.1 HAT.out).1 (by simp)).trans HAT.out
          obtain ⟨d0, d1, d2, df⟩ := cells3 ha6
          have HX6 := Lib.hid hx6
          have HA6 := Lib.hid ha6
          clear hmr GR HX HAT hx6 ha6 c0 c1 c2 c3 c4 c5 c6 c7 c8 c9 c10 cf gd
          generalize wr.drewN m6 = w6 at *
          have hp0 := placeN_lo lv page
          have hp1 := placeN_hi lv page
          have HST := Lib.hid (fun h => HP.out.step hlt (set_other ws n ⟨aF, aP, aW⟩ tb (placeN lv page) hh.1 hh.2.1 hp0 hp1 h))
          generalize placeN lv page = pp at *
          by_cases y0 : aF = tb
          · have y0b : (aF == tb) = true := by simpa using y0
            by_cases y1 : aP = pp
            · have y1b : (aP == pp) = true := by simpa using y1
              clear y0 y1
              go_wp2_with fail
              go_ret
              exact ⟨rfl, G6⟩
            have y1b : (aP == pp) = false := by simpa using y1
            have HSX := Lib.hid (HST.out (fun h => y1 h.2))
            clear y0 y1
            go_wp2_with fail
            refine (phys_Load_int _ hm6 tb pp hh.1 hh.2.1 hp0 hp1).mono ?_
            rintro e w7 ⟨rfl, rfl⟩
            have hwb := HW.out.getD (tb.toNat * 8 + pp.toNat)
            generalize ws.getD (tb.toNat * 8 + pp.toNat) 0 = wd at *
            go_wp2_with fail
            go_roundw
            case rel => exact ⟨lv + 1, wd / 4096 % 68719476736, by go_num, rfl, HSX, hm6, G6, HX6, HA6⟩
            case measure => simp [intOf]; omega
          · have y0b : (aF == tb) = false := by simpa using y0
            have HSX := Lib.hid (HST.out (fun h => y0 h.1))
            clear y0
            go_wp2_with fail
            refine (phys_Load_int _ hm6 tb pp hh.1 hh.2.1 hp0 hp1).mono ?_
            rintro e w7 ⟨rfl, rfl⟩
            have hwb := HW.out.getD (tb.toNat * 8 + pp.toNat)
            generalize ws.getD (tb.toNat * 8 + pp.toNat) 0 = wd at *
            go_wp2_with fail
            go_roundw
            case rel => exact ⟨lv + 1, wd / 4096 % 68719476736, by go_num, rfl, HSX, hm6, G6, HX6, HA6⟩
            case measure => simp [intOf]; omega
        · have zl : decide ((lv : Int) ≤ F1) = false := by simpa using hlt
          have HE := Lib.hid (HP.out.done hlt)
          obtain ⟨d0, d1, d2, df⟩ := cells3 HAT.out
          have HWY := Lib.hid (walk_Walk_yes n (layStep n ws ⟨aF, aP, aW⟩) (WOk_step HW.out HD.out) root page _ hrg HE.out)
          by_cases hin : 0 ≤ aF ∧ aF < n ∧ 0 ≤ aP ∧ aP < 8
          · have hst : layStep n ws ⟨aF, aP, aW⟩ = ws.set (aF.toNat * 8 + aP.toNat) aW := by unfold layStep; rw [if_pos hin]
            rw [hst] at HWY
            go_wp2_with fail
            refine (phys_Store_int _ hmr aF aP aW hin.1 hin.2.1 hin.2.2.1 hin.2.2.2).mono ?_
            rintro e w6 ⟨rfl, hm6, hg6⟩
            have G6 : w.grownBy w6 none := grow_new GR hg6 (by omega)
            have HX6 := Lib.hid ((hg6.block xb (Array.getElem?_eq_some_iff.1 HX.out).1 (by simp; omega)).trans HX.out)
            clear hmr GR HX HAT hg6
            go_wp2_with fail
            refine (HWY.out _ _ _ _ hm6).mono ?_
            rintro e w7 ⟨rfl, hg7⟩
            have G7 := grow_trans G6 hg7
            have gz := World.grownBy_alloc w7 (.cells #[.int .i64 F0, .int .i64 F1, .int .i64 F2, .int .i64 F3, .int .i64 F4, .int .i64 F5, .int .i64 F6, .int .i64 F7, .bool F8, .bool F9, .bool F10] 63) none
            have hx7 := ((grow_trans hg7 gz).block xb (Array.getElem?_eq_some_iff.1 HX6.out).1 (by simp)).trans HX6.out
            obtain ⟨q0, q1, q2, q3, q4, q5, q6, q7, q8, q9, q10, qf⟩ := cells11 hx7
            go_wp2_with fail
            go_ret
            exact ⟨rfl, grow_trans G7 gz⟩
          · have hst : layStep n ws ⟨aF, aP, aW⟩ = ws := by unfold layStep; rw [if_neg hin]
            rw [hst] at HWY
            go_wp2_with fail
            refine (phys_Store_no _ hmr aF aP aW hin).mono ?_
            rintro e w6 ⟨rfl, rfl⟩
            have hm6 := hmr
            have G6 := GR
            have HX6 := HX
            clear hmr GR HX HAT
            go_wp2_with fail
            refine (HWY.out _ _ _ _ hm6).mono ?_
            rintro e w7 ⟨rfl, hg7⟩
            have G7 := grow_trans G6 hg7
            have gz := World.grownBy_alloc w7 (.cells #[.int .i64 F0, .int .i64 F1, .int .i64 F2, .int .i64 F3, .int .i64 F4, .int .i64 F5, .int .i64 F6, .int .i64 F7, .bool F8, .bool F9, .bool F10] 63) none
            have hx7 := ((grow_trans hg7 gz).block xb (Array.getElem?_eq_some_iff.1 HX6.out).1 (by simp)).trans HX6.out
            obtain ⟨q0, q1, q2, q3, q4, q5, q6, q7, q8, q9, q10, qf⟩ := cells11 hx7
            go_wp2_with fail
            go_ret
            exact ⟨rfl, grow_trans G7 gz⟩
  · go_wp2_with fail
    go_ret
    exact ⟨rfl, grow_alloc G4 _⟩

end Go.Proofs.Ytmpgkgnbhjnelaa
