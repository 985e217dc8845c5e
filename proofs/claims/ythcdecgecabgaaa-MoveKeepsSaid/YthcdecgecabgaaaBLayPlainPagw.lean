import Derived.Test.YthcdecgecabgaaaBLawdRef
import Derived.StillTailTactics
import Derived.Test.YthcdecgecabgaaaWhole
/- The contract of paviorlaw04.Lay: a memory with words, and the same by the document. -/
namespace Go.Proofs.Ythcdecgecabgaaa
open Go.RowKit
set_option linter.unusedVariables false
set_option linter.unusedSimpArgs false
attribute [local go_sem] setCell_drewN alloc_drewN

/-- How many frames a raw number speaks of. -/
def layN (k : Int) : Nat := (1 + (if k < 0 then -(k + 1) else k) % 24).toNat
theorem layN_lo (k : Int) : 1 ≤ layN k := by unfold layN; omega
theorem layN_hi (k : Int) : layN k ≤ 24 := by unfold layN; omega
/-- One word is laid, if its place is there. -/
def layStep (n : Nat) (us : List Int) (d : Laid) : List Int := if 0 ≤ d.fFrame ∧ d.fFrame < n ∧ 0 ≤ d.fPlace ∧ d.fPlace < 8 then us.set (d.fFrame.toNat * 8 + d.fPlace.toNat) d.fWord else us
/-- All words that are laid. -/
def layW (n : Nat) (l : List Laid) : List Int := (l.take 200).foldl (layStep n) (List.replicate (n * 8) 0)
theorem foldl_take_succ {α β : Type} (f : β → α → β) (b : β) (l : List α) (k : Nat) (h : k < l.length) : (l.take (k + 1)).foldl f b = f ((l.take k).foldl f b) l[k] := by
  rw [List.take_succ_eq_append_getElem h, List.foldl_append]; rfl
theorem WOk_set {ws : List Int} (h : WOk ws) (i : Nat) (x : Int) (h0 : 0 ≤ x) (h1 : x < 18446744073709551616) : WOk (ws.set i x) := by
  intro y hy
  rcases List.mem_or_eq_of_mem_set hy with h2 | h2
  · exact h y h2
  · subst h2; exact ⟨h0, h1⟩
theorem WOk_layW (n : Nat) (l : List Laid) (hl : ∀ d ∈ l, d.wf) : WOk (layW n l) := by
  have key : ∀ (l : List Laid) (us : List Int), (∀ d ∈ l, d.wf) → WOk us → WOk (l.foldl (layStep n) us) := by
    intro l
    induction l with
    | nil => intro us _ h; exact h
    | cons d l ih =>
      intro us hd h
      refine ih _ (fun e he => hd e (by simp [he])) ?_
      unfold layStep
      split
      · have hw := (hd d (by simp)).2.2
        exact WOk_set h _ _ (u64_lo hw) (by have := u64_hi hw; omega)
      · exact h
  refine key _ _ (fun d hd => hl d (List.mem_of_mem_take hd)) ?_
  intro x hx
  rw [List.eq_of_mem_replicate hx]; omega
theorem laid_at {l : List Laid} {k : Nat} (h : k < l.length) : (l.map Laid.cells)[k]? = some (l[k]).cells := by
  rw [List.getElem?_map, List.getElem?_eq_getElem h]; rfl

theorem neg_way (fr : Int) (n : Nat) (h : fr < 0) (h0 : -9223372036854775808 ≤ fr) (hq : (n : Int) = 1 + -(fr + 1) % 24) : wrap64 (1 + -(fr + 1).tmod 24) = (n : Int) := by
  have e : -(fr + 1).tmod 24 = (-(fr + 1)) % 24 := by
    rw [← Int.neg_tmod, Int.tmod_eq_emod_of_nonneg (by omega)]
  rw [e, hq]
  unfold wrap64
  omega

set_option maxRecDepth 100000 in
set_option maxHeartbeats 2000000 in
theorem law04_Lay (w : World) (fr : Int) (hfr : (Lit.int .i64 fr).wf = true) (l : List Laid) (hl : ∀ d ∈ l, d.wf) (v : Value) (hv : SlRd w v 3 (l.map Laid.cells)) :
    Calls Try.prog 14 #[.int .i64 fr, v] w fun e w' => ∃ b g h hc gb gc, e = .returned (.tuple #[.pointer (some ⟨b, 0, none⟩), .slice (some ⟨h, 0, none⟩) (layN fr) hc]) ∧
      MemAt w' b g (layN fr) (layN fr) (layW (layN fr) l) ∧ RefAt w' h hc (layN fr) gb gc (layW (layN fr) l) ∧ w.grownBy w' none ∧ w.heap.size ≤ b ∧ w.heap.size ≤ g ∧ w.heap.size ≤ h ∧ ∀ i, i < layN fr → w.heap.size ≤ gb i := by
  obtain ⟨a, cap, rfl, hcap, hcells⟩ := hv.form
  rw [List.length_map] at *
  have hcap' : l.length ≤ 9223372036854775807 := by unfold maxLen at hcap; exact hcap
  have HC := Lib.hid hcells
  have HL := Lib.hid hl
  have f0 := i64_lo hfr
  have f1 := i64_hi hfr
  have n0 := layN_lo fr
  have n1 := layN_hi fr
  have hn : (layN fr : Int) = 1 + (if fr < 0 then -(fr + 1) else fr) % 24 := by unfold layN; omega
  generalize hN : layN fr = n at *
  have HN := Lib.hid hn
  clear hn hcells hl hv hcap hN hfr
  by_cases hneg : fr < 0
  all_goals
    have hq : (n : Int) = 1 + (if fr < 0 then -(fr + 1) else fr) % 24 := HN.out
    first | rw [if_pos hneg] at hq | rw [if_neg hneg] at hq
    have hpos : 0 ≤ -(fr + 1) ∨ 0 ≤ fr := by omega
    have HQ := Lib.hid hq
    clear hq hpos HN
    go_enter Try.func14, Try.ntmps14
    go_wp2_with fail
  rotate_left
  all_goals first | rw [neg_way fr n hneg f0 HQ.out] | rw [← HQ.out]
  all_goals
    clear HQ f0 f1 hneg
    refine (phys_New_yes _ n n0 (by omega)).mono ?_
    rintro e w1 ⟨b, g, rfl, hm, hg1, hb, hg⟩
    go_wp2_with fail
    refine (ref03_New _ n n0 (by omega)).mono ?_
    rintro e w2 ⟨h, hc, gb, gc, rfl, hr, hg2, hh, hgb⟩
    have hm2 := hm.kept0 hg2
    have G2 := grow_trans hg1 hg2
    have s1 := hg1.size
    clear hm hg1 hg2
    go_wp2_with fail
    go_loopw [9] (fun i wr => ∃ (k : Nat) (us : List Int), k ≤ l.length ∧ k ≤ 200 ∧ i = .int .i64 k ∧ Hid (us = (l.take k).foldl (layStep n) (List.replicate (n * 8) 0)) ∧ MemAt wr b g n n us ∧ RefAt wr h hc n gb gc us ∧ w.grownBy wr none) (fun i _ => l.length - (intOf i).toNat)
    case atStart => exact ⟨0, _, Nat.zero_le _, Nat.zero_le _, rfl, rfl, hm2, hr, G2⟩
    case round =>
      obtain ⟨k, us, hk, hk2, rfl, HU, hmr, hrr, GR⟩ := hrel
      by_cases hin : k < l.length ∧ k < 200
      · obtain ⟨hlt, h200⟩ := hin
        obtain ⟨ab, ao, rfl, hab, hcl⟩ := HC.out k _ (laid_at hlt) (by simp [Laid.cells])
        have hwf := HL.out _ (List.getElem_mem hlt)
        have HS := Lib.hid (foldl_take_succ (layStep n) (List.replicate (n * 8) 0) l k hlt)
        generalize l[k] = dk at *
        have x0 := GR.cell (hcl 0 _ rfl) (by simp)
        have x1 := GR.cell (hcl 1 _ rfl) (by simp)
        have x2 := GR.cell (hcl 2 _ rfl) (by simp)
        rw [← Nat.add_assoc] at x0 x1 x2
        rw [Nat.add_zero] at x0
        clear hcl
        obtain ⟨F, P, V⟩ := dk
        dsimp only at x0 x1 x2 hwf
        have X0 := Lib.hid x0
        have X1 := Lib.hid x1
        have X2 := Lib.hid x2
        go_wp2_with fail
        refine wp_region_still_tail 16 (by kernel_rfl) (by kernel_rfl) ?_
        simp only [List.take_succ_cons, List.take_zero, List.drop_succ_cons, List.drop_zero]
        repeat still_step
        refine wpStill_nil ?_
        by_cases hfp : 0 ≤ F ∧ F < n ∧ 0 ≤ P ∧ P < 8
        · obtain ⟨q0, q1, q2, q3⟩ := hfp
          clear x0 x1 x2
          go_wp2_with fail
          refine (phys_Store_int _ (hmr.kept0 (grow_drew (grow_refl _ _))) F P V q0 q1 q2 q3).mono ?_
          rintro e w3 ⟨rfl, hm3, hg3⟩
          have hne := hrr.mem_ne hmr
          have hr3 := (hrr.kept0 (grow_drew (grow_refl wr none))).kept hg3 (by simpa using hne.1) (fun i hi => by simpa using hne.2.1 i hi)
          have G3 := grow_new (grow_drew GR) hg3 (by omega)
          have x0 : w3.cell? ⟨ab, ao + k * 3, none⟩ = some (.int .i64 F) := hg3.cell (w := wr.drew) X0.out (by simp; omega)
          have x1 : w3.cell? ⟨ab, ao + k * 3 + 1, none⟩ = some (.int .i64 P) := hg3.cell (w := wr.drew) X1.out (by simp; omega)
          have x2 : w3.cell? ⟨ab, ao + k * 3 + 2, none⟩ = some (.int .u64 V) := hg3.cell (w := wr.drew) X2.out (by simp; omega)
          obtain ⟨F, rfl⟩ := Int.eq_ofNat_of_zero_le q0
          obtain ⟨P, rfl⟩ := Int.eq_ofNat_of_zero_le q2
          have y0 := hr3.hcell F (by omega)
          have y1 := hr3.cell F P (by omega) (by omega)
          have y2 := hr3.free F P (by omega)
          have y3 := hr3.cc F (by omega)
          have hb : decide ((0 : Int) ≤ F ∧ (F : Int) < n ∧ (0 : Int) ≤ P ∧ (P : Int) < 8) = true := by simp; omega
          have HBb := Lib.hid hb
          have hput := fun W (e : W = w3.setCell ⟨gb F, P, none⟩ (.int .u64 V)) => (e ▸ hr3.put F P V (by omega) (by omega) : RefAt W h hc n gb gc (us.set (F * 8 + P) V))
          have HP := Lib.hid hput
          have hgbF := hgb F (by omega)
          have hnb := hr3.mem_ne hm3
          clear hb hput hg3 hmr hrr GR X0 X1 X2
          go_wp2_with fail
          go_quiet ((go_at_call 19; exact Calls.quiet_of_same (ref03_Has _ _ _ _ _ _)))
          rename_i nq
          have gq : w3.grownBy (w3.drewN nq) none := grow_drewN (grow_refl _ _) _
          have hm4 := hm3.kept0 gq
          have hr4 := hr3.kept0 gq
          have G4 := grow_trans G3 gq
          have z0 := gq.cell x0 (by simp)
          have z1 := gq.cell x1 (by simp)
          have z2 := gq.cell x2 (by simp)
          clear gq x0 x1 x2 y0 y1 y2 HP hm3 hr3 G3 hnb
          generalize w3.drewN nq = w4 at *
          have y0 := hr4.hcell F (by omega)
          have y1 := hr4.cell F P (by omega) (by omega)
          have y2 := hr4.free F P (by omega)
          go_wp2_with fail
          refine wp_region_still_tail 19 (by kernel_rfl) (by kernel_rfl) ?_
          simp only [List.take_succ_cons, List.take_zero, List.drop_succ_cons, List.drop_zero]
          repeat still_step
          refine wpStill_nil ?_
          go_wp2_with fail
          have hr5 := (hr4.put F P V (by omega) (by omega)).kept0 (grow_drew (grow_refl _ none))
          have hm5 := (hm4.kept (grow_setCell (grow_refl w4 (some (gb F))) ⟨gb F, P, none⟩ (.int .u64 V) (.inr rfl)) (by have := (hr4.mem_ne hm4).2.2.1 F (by omega); simpa using this.symm) (by have := (hr4.mem_ne hm4).2.1 F (by omega); simpa using this.symm)).kept0 (grow_drew (grow_refl _ none))
          have G5 := grow_drew (grow_setCell G4 ⟨gb F, P, none⟩ (.int .u64 V) (.inl (by simp; omega)))
          go_roundw
          case rel =>
            refine ⟨k + 1, us.set (F * 8 + P) V, by omega, by omega, by go_num, ?_, hm5, hr5, G5⟩
            show _ = _
            rw [HS.out, ← HU.out, layStep, if_pos ⟨q0, q1, q2, q3⟩]
            rfl
          case measure => simp [intOf]; omega
        · go_wp2_with fail
          refine (phys_Store_no _ (hmr.kept0 (grow_drew (grow_refl _ _))) F P V hfp).mono ?_
          rintro e w3 ⟨rfl, rfl⟩
          have gd : wr.grownBy wr.drew none := grow_drew (grow_refl _ _)
          have hm3 := hmr.kept0 gd
          have hr3 := hrr.kept0 gd
          have G3 := grow_trans GR gd
          have z0 := gd.cell x0 (by simp)
          have z1 := gd.cell x1 (by simp)
          clear gd x0 x1 x2 hmr hrr GR X0 X1 X2
          generalize wr.drew = w3 at *
          have hb : decide ((0 : Int) ≤ F ∧ (F : Int) < n ∧ (0 : Int) ≤ P ∧ (P : Int) < 8) = false := by simpa using hfp
          have HBb := Lib.hid hb
          have HFP := Lib.hid hfp
          clear hfp
          go_wp2_with fail
          go_quiet ((go_at_call 19; exact Calls.quiet_of_same (ref03_Has _ _ _ _ _ _)))
          rename_i nq
          have gq : w3.grownBy (w3.drewN nq) none := grow_drewN (grow_refl _ _) _
          have hm4 := hm3.kept0 gq
          have hr4 := hr3.kept0 gq
          have G4 := grow_trans G3 gq
          clear gq z0 z1 hm3 hr3 G3
          generalize w3.drewN nq = w4 at *
          go_wp2_with fail
          go_roundw
          case rel =>
            refine ⟨k + 1, us, by omega, by omega, by go_num, ?_, hm4, hr4, G4⟩
            show _ = _
            rw [HS.out, ← HU.out, layStep, if_neg HFP.out]
          case measure => simp [intOf]; omega
      · have hend : k = l.length ∨ (k < l.length ∧ k = 200) := by omega
        have hU : us = layW n l := by
          rw [HU.out, layW]
          rcases hend with h | h
          · rw [List.take_of_length_le (by omega), List.take_of_length_le (by omega)]
          · rw [h.2]
        subst hU
        clear hin HU
        rcases hend with rfl | ⟨hlt, rfl⟩
        all_goals
          go_wp2_with fail
          go_ret2
          exact ⟨b, g, h, hc, gb, gc, rfl, hmr, hrr, GR, hb, hg, by omega, fun i hi => by have := hgb i hi; omega⟩

end Go.Proofs.Ythcdecgecabgaaa

/- Plain laws on walks: what a walk finds, where two pages of one place end. -/
namespace Go.Proofs.Ythcdecgecabgaaa
open Go.RowKit
set_option linter.unusedVariables false
set_option linter.unusedSimpArgs false

theorem decD_block (level x : Int) (h : (decD level x).fKind = 2) : level = 2 := by
  unfold decD at h
  split at h
  · rename_i hh
    simp only [okD, Bool.and_eq_true, decide_eq_true_eq] at hh
    have h2 := hh.1.2
    simp [mayD, h] at h2
    exact h2.1.1
  · simp [badD] at h
theorem decD_table (level x : Int) (h : (decD level x).fKind = 1) : (decD level x).fFrame = x / 4096 % 68719476736 := by
  unfold decD at h ⊢
  split at h
  · rename_i hh
    rw [if_pos hh]
    simp only [readD] at h ⊢
    split at h
    · simp [noneD] at h
    · split at h
      · simp [rightsD] at h
      · split at h
        · simp [rightsD] at h
        · split at h
          · rename_i h1 h2 h3 h4
            rw [if_neg h1, if_neg h2, if_neg h3, if_pos h4]
            simp [tableD]
          · simp [rightsD] at h
  · simp [badD] at h
theorem foundD_parts (d : Desc) (lv tb p page : Int) : (foundD d lv tb p page).fLevel = lv ∧ (foundD d lv tb p page).fTable = tb ∧ (foundD d lv tb p page).fPlace = p ∧ (foundD d lv tb p page).fKind = d.fKind := by
  unfold foundD
  split
  · rename_i h; simp [h]
  · split
    · rename_i h; split <;> simp [h]
    · simp
theorem foundD_block (d : Desc) (lv tb p page : Int) (h : d.fKind = 2) : foundD d lv tb p page = ⟨2, lv, tb, p, d.fFrame + page % 8, 3, page - page % 8, d.fFrame, d.fWrite, d.fExec, d.fSeen⟩ := by
  unfold foundD; rw [if_pos h]
theorem placeN_block (lv : Int) (h0 : 0 ≤ lv) (h2 : lv ≤ 2) (page other : Int) (h : page / 8 = other / 8) : placeN lv page = placeN lv other := by
  have : lv = 0 ∨ lv = 1 ∨ lv = 2 := by omega
  rcases this with rfl | rfl | rfl
  · show page / 2 ^ 9 % 8 = other / 2 ^ 9 % 8; omega
  · show page / 2 ^ 6 % 8 = other / 2 ^ 6 % 8; omega
  · show page / 2 ^ 3 % 8 = other / 2 ^ 3 % 8; omega
theorem walkAt_kind2 {ws : List Int} {n page : Int} : ∀ (k : Nat) (lv tb : Int) (x : Found), walkAt ws n page k lv tb = some x → x.fKind = 2 → lv ≤ 2 ∧ page - page % 8 = x.fFirst := by
  intro k
  induction k with
  | zero => intro lv tb x h; simp [walkAt] at h
  | succ k ih =>
    intro lv tb x h hk
    unfold walkAt at h
    split at h
    · split at h
      · have := ih _ _ _ h hk
        exact ⟨by omega, this.2⟩
      · simp only [Option.some.injEq] at h
        subst h
        rw [(foundD_parts _ _ _ _ _).2.2.2] at hk
        have := decD_block _ _ hk
        rw [foundD_block _ _ _ _ _ hk]
        exact ⟨by omega, rfl⟩
    · cases h
/-- Two pages of one block end at the same word. -/
theorem walkAt_block {ws : List Int} {n page other : Int} (hp : page / 8 = other / 8) : ∀ (k : Nat) (lv tb : Int) (x y : Found), 0 ≤ lv → walkAt ws n page k lv tb = some x → walkAt ws n other k lv tb = some y → x.fKind = 2 → y.fTable = x.fTable ∧ y.fPlace = x.fPlace ∧ y.fBase = x.fBase ∧ y.fFrame - x.fFrame = other - page := by
  intro k
  induction k with
  | zero => intro lv tb x y _ h; simp [walkAt] at h
  | succ k ih =>
    intro lv tb x y hlv h h' hk
    by_cases h2 : lv ≤ 2
    · have e := placeN_block lv hlv h2 page other hp
      unfold walkAt at h h'
      rw [← e] at h'
      split at h
      · rename_i hr
        rw [if_pos hr] at h'
        split at h
        · rename_i hd
          rw [if_pos hd] at h'
          exact ih _ _ _ _ (by omega) h h' hk
        · rename_i hd
          rw [if_neg hd] at h'
          simp only [Option.some.injEq] at h h'
          subst h h'
          rw [(foundD_parts _ _ _ _ _).2.2.2] at hk
          rw [foundD_block _ _ _ _ _ hk, foundD_block _ _ _ _ _ hk]
          exact ⟨rfl, rfl, rfl, by dsimp only; omega⟩
      · cases h
    · exfalso
      unfold walkAt at h
      split at h
      · split at h
        · have := (walkAt_kind2 _ _ _ _ h hk).1
          omega
        · simp only [Option.some.injEq] at h
          subst h
          rw [(foundD_parts _ _ _ _ _).2.2.2] at hk
          have := decD_block _ _ hk
          omega
      · cases h

theorem walkAt_small {ws : List Int} {n page : Int} (hp0 : 0 ≤ page) (hp1 : page < 4096) : ∀ (k : Nat) (lv tb : Int) (x : Found), walkAt ws n page k lv tb = some x → 0 ≤ x.fFirst ∧ x.fFirst < 4096 ∧ 0 ≤ x.fFrame ∧ x.fFrame < 520 := by
  intro k
  induction k with
  | zero => intro lv tb x h; simp [walkAt] at h
  | succ k ih =>
    intro lv tb x h
    unfold walkAt at h
    split at h
    · split at h
      · exact ih _ _ _ h
      · simp only [Option.some.injEq] at h
        subst h
        have hf := decD_frame lv (ws.getD (tb.toNat * 8 + (placeN lv page).toNat) 0)
        unfold foundD
        split
        · dsimp only; omega
        · split
          · split <;> (dsimp only; omega)
          · dsimp only; omega
    · cases h
theorem set_other (ws : List Int) (n : Nat) (d : Laid) (tb p : Int) (h0 : 0 ≤ tb) (h1 : tb < n) (h2 : 0 ≤ p) (h3 : p < 8) (h : ¬ (d.fFrame = tb ∧ d.fPlace = p)) : (layStep n ws d).getD (tb.toNat * 8 + p.toNat) 0 = ws.getD (tb.toNat * 8 + p.toNat) 0 := by
  unfold layStep
  split
  · rw [List.getD_eq_getElem?_getD, List.getD_eq_getElem?_getD, List.getElem?_set_ne (by omega)]
  · rfl

end Go.Proofs.Ythcdecgecabgaaa

/- Plain laws on walks: the walks of all pages, one by one, and by strides. -/
namespace Go.Proofs.Ythcdecgecabgaaa
open Go.RowKit
set_option linter.unusedVariables false
set_option linter.unusedSimpArgs false

theorem decD_page (level x : Int) (h : (decD level x).fKind = 3) : level = 3 := by
  unfold decD at h
  split at h
  · rename_i hh
    simp only [okD, Bool.and_eq_true, decide_eq_true_eq] at hh
    have h2 := hh.1.2
    simp [mayD, h] at h2
    exact h2
  · simp [badD] at h
/-- How many pages a place of a level leads to. -/
def spanL (lv : Int) : Int := 2 ^ (3 * (3 - lv)).toNat
theorem stride_span (f : Found) : f.stride = spanL f.fLevel := rfl
theorem spanL_cases {lv : Int} (h0 : 0 ≤ lv) (h1 : lv < 4) : (lv = 0 ∧ spanL lv = 512) ∨ (lv = 1 ∧ spanL lv = 64) ∨ (lv = 2 ∧ spanL lv = 8) ∨ (lv = 3 ∧ spanL lv = 1) := by
  have : lv = 0 ∨ lv = 1 ∨ lv = 2 ∨ lv = 3 := by omega
  rcases this with rfl | rfl | rfl | rfl <;> simp [spanL]
theorem placeN_same {lv fl p q : Int} (h0 : 0 ≤ lv) (h1 : lv ≤ fl) (h2 : fl < 4) (h : p / spanL fl = q / spanL fl) : placeN lv p = placeN lv q := by
  have hl : lv = 0 ∨ lv = 1 ∨ lv = 2 ∨ lv = 3 := by omega
  have hs := spanL_cases (lv := fl) (by omega) h2
  rcases hs with ⟨rfl, hs⟩ | ⟨rfl, hs⟩ | ⟨rfl, hs⟩ | ⟨rfl, hs⟩ <;> rw [hs] at h <;> rcases hl with rfl | rfl | rfl | rfl <;>
    first
      | (exfalso; omega)
      | (show p / 2 ^ 9 % 8 = q / 2 ^ 9 % 8; omega)
      | (show p / 2 ^ 6 % 8 = q / 2 ^ 6 % 8; omega)
      | (show p / 2 ^ 3 % 8 = q / 2 ^ 3 % 8; omega)
      | (show p / 2 ^ 0 % 8 = q / 2 ^ 0 % 8; omega)
/-- Where a walk ends, the walks of all pages of that place end. -/
theorem walkAt_same {ws : List Int} {n p : Int} : ∀ (k : Nat) (lv tb : Int) (f : Found), 0 ≤ lv → lv + k = 4 → walkAt ws n p k lv tb = some f →
    ∃ d t pl, (d.fKind = 3 → f.fLevel = 3) ∧ (d.fKind = 2 → f.fLevel = 2) ∧ ∀ q, p / spanL f.fLevel = q / spanL f.fLevel → walkAt ws n q k lv tb = some (foundD d f.fLevel t pl q) := by
  intro k
  induction k with
  | zero => intro lv tb f _ _ h; simp [walkAt] at h
  | succ k ih =>
    intro lv tb f h0 hk h
    have hlev := walkAt_level _ _ _ _ h
    unfold walkAt at h
    split at h
    · rename_i ht
      split at h
      · rename_i hd
        obtain ⟨d, t, pl, h1, h2, h3⟩ := ih _ _ _ (by omega) (by omega) h
        refine ⟨d, t, pl, h1, h2, fun q hq => ?_⟩
        unfold walkAt
        rw [if_pos ht, ← placeN_same h0 hlev.1 (by omega) hq, if_pos hd]
        exact h3 q hq
      · rename_i hd
        simp only [Option.some.injEq] at h
        have hfl : f.fLevel = lv := by rw [← h, (foundD_parts _ _ _ _ _).1]
        refine ⟨decD lv (ws.getD (tb.toNat * 8 + (placeN lv p).toNat) 0), tb, placeN lv p, fun hk3 => ?_, fun hk2 => ?_, fun q hq => ?_⟩
        · rw [hfl]; exact decD_page _ _ hk3
        · rw [hfl]; exact decD_block _ _ hk2
        · have e := placeN_same h0 hlev.1 (by omega) hq
          unfold walkAt
          rw [if_pos ht, ← e, if_neg hd, hfl]
    · cases h

/-- All pages' walks, page by page; those told that are the first of their block, or no block's. -/
def pagesW (ws : List Int) (n root : Int) : Nat → Int → Option (List Found)
  | 0, _ => none
  | k + 1, p => if p < 4096 then (match walkAt ws n p 4 0 root with
      | none => none
      | some f => (pagesW ws n root k (p + 1)).map fun l => if f.fKind = 3 ∨ (f.fKind = 2 ∧ f.fFirst = p) then f :: l else l)
    else some []
theorem pagesW_skip {ws : List Int} {n root : Int} : ∀ (i j : Nat) (p : Int), p + i ≤ 4096 → (∀ t : Nat, t < i → ∃ g, walkAt ws n (p + t) 4 0 root = some g ∧ ¬ (g.fKind = 3 ∨ (g.fKind = 2 ∧ g.fFirst = p + t))) → pagesW ws n root (j + i) p = pagesW ws n root j (p + i) := by
  intro i
  induction i with
  | zero => intro j p _ _; simp
  | succ i ih =>
    intro j p hp h
    obtain ⟨g, hg, hn⟩ := h 0 (by omega)
    rw [show p + ((0 : Nat) : Int) = p by simp] at hg hn
    rw [← Nat.add_assoc]
    conv => lhs; unfold pagesW
    rw [if_pos (by omega), hg]
    dsimp only
    rw [ih j (p + 1) (by omega) (fun t ht => by
      obtain ⟨g', h1, h2⟩ := h (t + 1) (by omega)
      have e : p + ((t + 1 : Nat) : Int) = p + 1 + t := by push_cast; omega
      rw [e] at h1 h2
      exact ⟨g', h1, h2⟩)]
    have e : p + 1 + (i : Int) = p + ((i + 1 : Nat) : Int) := by push_cast; omega
    rw [e]
    simp only [if_neg hn]
    cases pagesW ws n root j (p + ((i + 1 : Nat) : Int)) <;> rfl

theorem whole_from {ws : List Int} {n root : Int} : ∀ (m : Nat) (p : Int) (k j : Nat), 0 ≤ p → p ≤ 4096 → 4096 - p = m → m < k → m < j → (∀ f, walkAt ws n p 4 0 root = some f → p % f.stride = 0) → wholeAt ws n root k p = pagesW ws n root j p := by
  intro m
  induction m using Nat.strongRecOn with
  | ind m ih =>
    intro p k j p0 p1 hm hk hj hal
    obtain ⟨k, rfl⟩ : ∃ q, k = q + 1 := ⟨k - 1, by omega⟩
    obtain ⟨j, rfl⟩ : ∃ q, j = q + 1 := ⟨j - 1, by omega⟩
    conv => lhs; unfold wholeAt
    by_cases hp : p < 4096
    · rw [if_pos hp]
      cases hw : walkAt ws n p 4 0 root with
      | none =>
        unfold pagesW
        rw [if_pos hp, hw]
      | some f =>
        have hlev := walkAt_level _ _ _ _ hw
        have ha := hal f hw
        have hs := spanL_cases hlev.1 (by omega)
        rw [stride_span] at ha
        obtain ⟨d, t, pl, hd3, hd2, hsame⟩ := walkAt_same 4 0 root f (by omega) (by omega) hw
        have hself := hsame p rfl
        rw [hw, Option.some.injEq] at hself
        have hkind : f.fKind = d.fKind := by rw [hself, (foundD_parts _ _ _ _ _).2.2.2]
        have hfirst : f.fKind = 2 → f.fFirst = p := by
          intro h
          rw [hkind] at h
          have h2 := hd2 h
          rw [hself, foundD_block _ _ _ _ _ h]
          rcases hs with ⟨h3, hs⟩ | ⟨h3, hs⟩ | ⟨h3, hs⟩ | ⟨h3, hs⟩ <;> first | (exfalso; omega) | (rw [hs] at ha; dsimp only; omega)
        obtain ⟨s, hsS⟩ : ∃ s : Nat, f.stride = s := ⟨f.stride.toNat, by rw [stride_span]; omega⟩
        have hsp : spanL f.fLevel = s := hsS
        have hps : p + s ≤ 4096 := by rcases hs with ⟨h3, hs⟩ | ⟨h3, hs⟩ | ⟨h3, hs⟩ | ⟨h3, hs⟩ <;> rw [hs] at ha hsp <;> omega
        have hs1 : 1 ≤ s := by omega
        have hj : pagesW ws n root (j + 1) p = (pagesW ws n root (j + 1 - s) (p + s)).map fun l => if f.leaf then f :: l else l := by
          conv => lhs; unfold pagesW
          rw [if_pos hp, hw]
          dsimp only
          have hsk := pagesW_skip (ws := ws) (n := n) (root := root) (s - 1) (j + 1 - s) (p + 1) (by omega) (fun i hi => by
            refine ⟨_, hsame (p + 1 + i) ?_, ?_⟩
            · rcases hs with ⟨h3, hs⟩ | ⟨h3, hs⟩ | ⟨h3, hs⟩ | ⟨h3, hs⟩ <;> rw [hs] at ha hsp ⊢ <;> omega
            · rw [(foundD_parts _ _ _ _ _).2.2.2]
              rintro (h | ⟨h, h'⟩)
              · have := hd3 h
                rcases hs with ⟨h3, hs⟩ | ⟨h3, hs⟩ | ⟨h3, hs⟩ | ⟨h3, hs⟩ <;> omega
              · have := hd2 h
                rw [foundD_block _ _ _ _ _ h] at h'
                dsimp only at h'
                rcases hs with ⟨h3, hs⟩ | ⟨h3, hs⟩ | ⟨h3, hs⟩ | ⟨h3, hs⟩ <;> first | omega | (rw [hs] at ha hsp; omega))
          rw [show j + 1 - s + (s - 1) = j by omega, show p + 1 + ((s - 1 : Nat) : Int) = p + s by omega] at hsk
          rw [hsk]
          congr 1
          funext l
          by_cases h3 : f.fKind = 3
          · rw [if_pos (.inl h3), if_pos (by simp [Found.leaf, h3])]
          · by_cases h2 : f.fKind = 2
            · rw [if_pos (.inr ⟨h2, hfirst h2⟩), if_pos (by simp [Found.leaf, h2])]
            · rw [if_neg (by simp [h2, h3]), if_neg (by simp [Found.leaf, h2, h3])]
        rw [hj]
        dsimp only
        rw [hsS, ih (m - s) (by omega) (p + s) k (j + 1 - s) (by omega) hps (by omega) (by omega) (by omega) ?_]
        intro g hg
        have hlg := walkAt_level _ _ _ _ hg
        have hsg := spanL_cases hlg.1 (by omega)
        rw [stride_span]
        obtain ⟨d', t', pl', _, _, hsame'⟩ := walkAt_same 4 0 root g (by omega) (by omega) hg
        by_cases hz : (p + s) % spanL g.fLevel = 0
        · exact hz
        · exfalso
          have h1 := hsame (p + s - 1) (by rcases hs with ⟨h3, hs⟩ | ⟨h3, hs⟩ | ⟨h3, hs⟩ | ⟨h3, hs⟩ <;> rw [hs] at ha hsp ⊢ <;> omega)
          have h2 := hsame' (p + s - 1) (by rcases hsg with ⟨h4, hg4⟩ | ⟨h4, hg4⟩ | ⟨h4, hg4⟩ | ⟨h4, hg4⟩ <;> rw [hg4] at hz ⊢ <;> omega)
          rw [h1, Option.some.injEq] at h2
          have h3 : f.fLevel = g.fLevel := by
            have := congrArg Found.fLevel h2
            rwa [(foundD_parts _ _ _ _ _).1, (foundD_parts _ _ _ _ _).1] at this
          rw [← h3, hsp] at hz
          rw [hsp] at ha
          apply hz
          rw [Int.add_emod_right]
          exact ha
    · rw [if_neg hp]
      unfold pagesW
      rw [if_neg hp]
theorem whole_pages (ws : List Int) (n root : Int) : wholeAt ws n root 4097 0 = pagesW ws n root 4097 0 :=
  whole_from 4096 0 4097 4097 (by omega) (by omega) (by omega) (by omega) (by omega) (fun f _ => by simp)

end Go.Proofs.Ythcdecgecabgaaa
