import Derived.Test.YtapeoeakiphfpaaBLawdRef
import Derived.StillTailTactics
/- The contract of paviorlaw04.Lay: a memory with words, and the same by the document. -/
namespace Go.Proofs.Ytapeoeakiphfpaa
open Go.RowKit
set_option linter.unusedVariables false
set_option linter.unusedSimpArgs false
attribute [local go_sem] setCell_drewN alloc_drewN

/-- How many frames a raw number speaks of. -/
def layN (k : Int) : Nat := (1 + (if k < 0 then -(k + 1) else k) % 24).toNat
theorem layN_lo (k : Int) : 1 ≤ layN k := by unfold layN; omega
theorem layN_hi (k : Int) : layN k ≤ 24 := by unfold layN; omega
/-- One word is laid, if its place is there. -/
def layStep (n : Nat) (us : List Int) (d : Laid) : List Int := if 0 ≤ d.fFrame ∧ d.fFrame < n ∧ 0 ≤ d.fPlace ∧ d.fPlace < 8 then us.set (d.fFrame.toNat * 8 + d.fPlace.toNat) d.fWord else us
/-- All words that are laid. -/
def layW (n : Nat) (l : List Laid) : List Int := (l.take 200).foldl (layStep n) (List.replicate (n * 8) 0)
theorem foldl_take_succ {α β : Type} (f : β → α → β) (b : β) (l : List α) (k : Nat) (h : k < l.length) : (l.take (k + 1)).foldl f b = f ((l.take k).foldl f b) l[k] := by
  rw [List.take_succ_eq_append_getElem h, List.foldl_append]; rfl
theorem WOk_set {ws : List Int} (h : WOk ws) (i : Nat) (x : Int) (h0 : 0 ≤ x) (h1 : x < 18446744073709551616) : WOk (ws.set i x) := by
  intro y hy
  rcases List.mem_or_eq_of_mem_set hy with h2 | h2
  · exact h y h2
  · subst h2; exact ⟨h0, h1⟩
theorem WOk_layW (n : Nat) (l : List Laid) (hl : ∀ d ∈ l, d.wf) : WOk (layW n l) := by
  have key : ∀ (l : List Laid) (us : List Int), (∀ d ∈ l, d.wf) → WOk us → WOk (l.foldl (layStep n) us) := by
    intro l
    induction l with
    | nil => intro us _ h; exact h
    | cons d l ih =>
      intro us hd h
      refine ih _ (fun e he => hd e (by simp [he])) ?_
      unfold layStep
      split
      · have hw := (hd d (by simp)).2.2
        exact WOk_set h _ _ (u64_lo hw) (by have := u64_hi hw; omega)
      · exact h
  refine key _ _ (fun d hd => hl d (List.mem_of_mem_take hd)) ?_
  intro x hx
  rw [List.eq_of_mem_replicate hx]; omega
theorem laid_at {l : List Laid} {k : Nat} (h : k < l.length) : (l.map Laid.cells)[k]? = some (l[k]).cells := by
  rw [List.getElem?_map, List.getElem?_eq_getElem h]; rfl

theorem neg_way (fr : Int) (n : Nat) (h : fr < 0) (h0 : -9223372036854775808 ≤ fr) (hq : (n : Int) = 1 + -(fr + 1) % 24) : wrap64 (1 + -(fr + 1).tmod 24) = (n : Int) := by
  have e : -(fr + 1).tmod 24 = (-(fr + 1)) % 24 := by
    rw [← Int.neg_tmod, Int.tmod_eq_emod_of_nonneg (by omega)]
  rw [e, hq]
  unfold wrap64
  omega

set_option maxRecDepth 100000 in
set_option maxHeartbeats 2000000 in
theorem law04_Lay (w : World) (fr : Int) (hfr : (Lit.int .i64 fr).wf = true) (l : List Laid) (hl : ∀ d ∈ l, d.wf) (v : Value) (hv : SlRd w v 3 (l.map Laid.cells)) :
    Calls Try.prog 33 #[.int .i64 fr, v] w fun e w' => ∃ b g h hc gb gc, e = .returned (.tuple #[.pointer (some ⟨b, 0, none⟩), .slice (some ⟨h, 0, none⟩) (layN fr) hc]) ∧
      MemAt w' b g (layN fr) (layN fr) (layW (layN fr) l) ∧ RefAt w' h hc (layN fr) gb gc (layW (layN fr) l) ∧ w.grownBy w' none ∧ w.heap.size ≤ b ∧ w.heap.size ≤ g ∧ w.heap.size ≤ h ∧ ∀ i, i < layN fr → w.heap.size ≤ gb i := by
  obtain ⟨a, cap, rfl, hcap, hcells⟩ := hv.form
  rw [List.length_map] at *
  have hcap' : l.length ≤ 9223372036854775807 := by unfold maxLen at hcap; exact hcap
  have HC := Lib.hid hcells
  have HL := Lib.hid hl
  have f0 := i64_lo hfr
  have f1 := i64_hi hfr
  have n0 := layN_lo fr
  have n1 := layN_hi fr
  have hn : (layN fr : Int) = 1 + (if fr < 0 then -(fr + 1) else fr) % 24 := by unfold layN; omega
  generalize hN : layN fr = n at *
  have HN := Lib.hid hn
  clear hn hcells hl hv hcap hN hfr
  by_cases hneg : fr < 0
  all_goals
    have hq : (n : Int) = 1 + (if fr < 0 then -(fr + 1) else fr) % 24 := HN.out
    first | rw [if_pos hneg] at hq | rw [if_neg hneg] at hq
    have hpos : 0 ≤ -(fr + 1) ∨ 0 ≤ fr := by omega
    have HQ := Lib.hid hq
    clear hq hpos HN
    go_enter Try.func33, Try.ntmps33
    go_wp2_with fail
  rotate_left
  all_goals first | rw [neg_way fr n hneg f0 HQ.out] | rw [← HQ.out]
  all_goals
    clear HQ f0 f1 hneg
    refine (phys_New_yes _ n n0 (by omega)).mono ?_
    rintro e w1 ⟨b, g, rfl, hm, hg1, hb, hg⟩
    go_wp2_with fail
    refine (ref03_New _ n n0 (by omega)).mono ?_
    rintro e w2 ⟨h, hc, gb, gc, rfl, hr, hg2, hh, hgb⟩
    have hm2 := hm.kept0 hg2
    have G2 := grow_trans hg1 hg2
    have s1 := hg1.size
    clear hm hg1 hg2
    go_wp2_with fail
    go_loopw [9] (fun i wr => ∃ (k : Nat) (us : List Int), k ≤ l.length ∧ k ≤ 200 ∧ i = .int .i64 k ∧ Hid (us = (l.take k).foldl (layStep n) (List.replicate (n * 8) 0)) ∧ MemAt wr b g n n us ∧ RefAt wr h hc n gb gc us ∧ w.grownBy wr none) (fun i _ => l.length - (intOf i).toNat)
    case atStart => exact ⟨0, _, Nat.zero_le _, Nat.zero_le _, rfl, rfl, hm2, hr, G2⟩
    case round =>
      obtain ⟨k, us, hk, hk2, rfl, HU, hmr, hrr, GR⟩ := hrel
      by_cases hin : k < l.length ∧ k < 200
      · obtain ⟨hlt, h200⟩ := hin
        obtain ⟨ab, ao, rfl, hab, hcl⟩ := HC.out k _ (laid_at hlt) (by simp [Laid.cells])
        have hwf := HL.out _ (List.getElem_mem hlt)
        have HS := Lib.hid (foldl_take_succ (layStep n) (List.replicate (n * 8) 0) l k hlt)
        generalize l[k] = dk at *
        have x0 := GR.cell (hcl 0 _ rfl) (by simp)
        have x1 := GR.cell (hcl 1 _ rfl) (by simp)
        have x2 := GR.cell (hcl 2 _ rfl) (by simp)
        rw [← Nat.add_assoc] at x0 x1 x2
        rw [Nat.add_zero] at x0
        clear hcl
        obtain ⟨F, P, V⟩ := dk
        dsimp only at x0 x1 x2 hwf
        have X0 := Lib.hid x0
        have X1 := Lib.hid x1
        have X2 := Lib.hid x2
        go_wp2_with fail
        refine wp_region_still_tail 16 (by kernel_rfl) (by kernel_rfl) ?_
        simp only [List.take_succ_cons, List.take_zero, List.drop_succ_cons, List.drop_zero]
        repeat still_step
        refine wpStill_nil ?_
        by_cases hfp : 0 ≤ F ∧ F < n ∧ 0 ≤ P ∧ P < 8
        · obtain ⟨q0, q1, q2, q3⟩ := hfp
          clear x0 x1 x2
          go_wp2_with fail
          refine (phys_Store_int _ (hmr.kept0 (grow_drew (grow_refl _ _))) F P V q0 q1 q2 q3).mono ?_
          rintro e w3 ⟨rfl, hm3, hg3⟩
          have hne := hrr.mem_ne hmr
          have hr3 := (hrr.kept0 (grow_drew (grow_refl wr none))).kept hg3 (by simpa using hne.1) (fun i hi => by simpa using hne.2.1 i hi)
          have G3 := grow_new (grow_drew GR) hg3 (by omega)
          have x0 : w3.cell? ⟨ab, ao + k * 3, none⟩ = some (.int .i64 F) := hg3.cell (w := wr.drew) X0.out (by simp; omega)
          have x1 : w3.cell? ⟨ab, ao + k * 3 + 1, none⟩ = some (.int .i64 P) := hg3.cell (w := wr.drew) X1.out (by simp; omega)
          have x2 : w3.cell? ⟨ab, ao + k * 3 + 2, none⟩ = some (.int .u64 V) := hg3.cell (w := wr.drew) X2.out (by simp; omega)
          obtain ⟨F, rfl⟩ := Int.eq_ofNat_of_zero_le q0
          obtain ⟨P, rfl⟩ := Int.eq_ofNat_of_zero_le q2
          have y0 := hr3.hcell F (by omega)
          have y1 := hr3.cell F P (by omega) (by omega)
          have y2 := hr3.free F P (by omega)
          have y3 := hr3.cc F (by omega)
          have hb : decide ((0 : Int) ≤ F ∧ (F : Int) < n ∧ (0 : Int) ≤ P ∧ (P : Int) < 8) = true := by simp; omega
          have HBb := Lib.hid hb
          have hput := fun W (e : W = w3.setCell ⟨gb F, P, none⟩ (.int .u64 V)) => (e ▸ hr3.put F P V (by omega) (by omega) : RefAt W h hc n gb gc (us.set (F * 8 + P) V))
          have HP := Lib.hid hput
          have hgbF := hgb F (by omega)
          have hnb := hr3.mem_ne hm3
          clear hb hput hg3 hmr hrr GR X0 X1 X2
          go_wp2_with fail
          go_quiet ((go_at_call 21; exact Calls.quiet_of_same (ref03_Has _ _ _ _ _ _)))
          rename_i nq
          have gq : w3.grownBy (w3.drewN nq) none := grow_drewN (grow_refl _ _) _
          have hm4 := hm3.kept0 gq
          have hr4 := hr3.kept0 gq
          have G4 := grow_trans G3 gq
          have z0 := gq.cell x0 (by simp)
          have z1 := gq.cell x1 (by simp)
          have z2 := gq.cell x2 (by simp)
          clear gq x0 x1 x2 y0 y1 y2 HP hm3 hr3 G3 hnb
          generalize w3.drewN nq = w4 at *
          have y0 := hr4.hcell F (by omega)
          have y1 := hr4.cell F P (by omega) (by omega)
          have y2 := hr4.free F P (by omega)
          go_wp2_with fail
          refine wp_region_still_tail 19 (by kernel_rfl) (by kernel_rfl) ?_
          simp only [List.take_succ_cons, List.take_zero, List.drop_succ_cons, List.drop_zero]
          repeat still_step
          refine wpStill_nil ?_
          go_wp2_with fail
          have hr5 := (hr4.put F P V (by omega) (by omega)).kept0 (grow_drew (grow_refl _ none))
          have hm5 := (hm4.kept (grow_setCell (grow_refl w4 (some (gb F))) ⟨gb F, P, none⟩ (.int .u64 V) (.inr rfl)) (by have := (hr4.mem_ne hm4).2.2.1 F (by omega); simpa using this.symm) (by have := (hr4.mem_ne hm4).2.1 F (by omega); simpa using this.symm)).kept0 (grow_drew (grow_refl _ none))
          have G5 := grow_drew (grow_setCell G4 ⟨gb F, P, none⟩ (.int .u64 V) (.inl (by simp; omega)))
          go_roundw
          case rel =>
            refine ⟨k + 1, us.set (F * 8 + P) V, by omega, by omega, by go_num, ?_, hm5, hr5, G5⟩
            show _ = _
            rw [HS.out, ← HU.out, layStep, if_pos ⟨q0, q1, q2, q3⟩]
            rfl
          case measure => simp [intOf]; omega
        · go_wp2_with fail
          refine (phys_Store_no _ (hmr.kept0 (grow_drew (grow_refl _ _))) F P V hfp).mono ?_
          rintro e w3 ⟨rfl, rfl⟩
          have gd : wr.grownBy wr.drew none := grow_drew (grow_refl _ _)
          have hm3 := hmr.kept0 gd
          have hr3 := hrr.kept0 gd
          have G3 := grow_trans GR gd
          have z0 := gd.cell x0 (by simp)
          have z1 := gd.cell x1 (by simp)
          clear gd x0 x1 x2 hmr hrr GR X0 X1 X2
          generalize wr.drew = w3 at *
          have hb : decide ((0 : Int) ≤ F ∧ (F : Int) < n ∧ (0 : Int) ≤ P ∧ (P : Int) < 8) = false := by simpa using hfp
          have HBb := Lib.hid hb
          have HFP := Lib.hid hfp
          clear hfp
          go_wp2_with fail
          go_quiet ((go_at_call 21; exact Calls.quiet_of_same (ref03_Has _ _ _ _ _ _)))
          rename_i nq
          have gq : w3.grownBy (w3.drewN nq) none := grow_drewN (grow_refl _ _) _
          have hm4 := hm3.kept0 gq
          have hr4 := hr3.kept0 gq
          have G4 := grow_trans G3 gq
          clear gq z0 z1 hm3 hr3 G3
          generalize w3.drewN nq = w4 at *
          go_wp2_with fail
          go_roundw
          case rel =>
            refine ⟨k + 1, us, by omega, by omega, by go_num, ?_, hm4, hr4, G4⟩
            show _ = _
            rw [HS.out, ← HU.out, layStep, if_neg HFP.out]
          case measure => simp [intOf]; omega
      · have hend : k = l.length ∨ (k < l.length ∧ k = 200) := by omega
        have hU : us = layW n l := by
          rw [HU.out, layW]
          rcases hend with h | h
          · rw [List.take_of_length_le (by omega), List.take_of_length_le (by omega)]
          · rw [h.2]
        subst hU
        clear hin HU
        rcases hend with rfl | ⟨hlt, rfl⟩
        all_goals
          go_wp2_with fail
          go_ret2
          exact ⟨b, g, h, hc, gb, gc, rfl, hmr, hrr, GR, hb, hg, by omega, fun i hi => by have := hgb i hi; omega⟩

end Go.Proofs.Ytapeoeakiphfpaa
