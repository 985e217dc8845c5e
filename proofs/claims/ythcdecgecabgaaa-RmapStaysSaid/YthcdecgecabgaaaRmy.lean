/- What the laws of layer 11 begin with: up, pick; a script's adds. -/
import Derived.Test.YthcdecgecabgaaaRmx
import Derived.Test.YthcdecgecabgaaaOpem
namespace Go.Proofs.Ythcdecgecabgaaa
open Go.RowKit
set_option linter.unusedVariables false
set_option linter.unusedSimpArgs false
attribute [local go_sem] setCell_drewN alloc_drewN lt_moreE le_moreE lt_moreK le_moreK cell_more frozen_more set_more drew_more drewN_more

/-- Which of n things a raw number speaks of. -/
def pickM (c n : Int) : Int := (if c < 0 then -(c + 1) else c) % n
theorem pickM_lo (c n : Int) (h : 0 < n) : 0 ≤ pickM c n := Int.emod_nonneg _ (by omega)
theorem pickM_hi (c n : Int) (h : 0 < n) : pickM c n < n := Int.emod_lt_of_pos _ h
set_option maxHeartbeats 400000 in
theorem law11_pick (w : World) (c n : Int) (hc : (Lit.int .i64 c).wf = true) (hn : 1 ≤ n) (hn' : n ≤ 1000) :
    Calls Try.prog 46 #[.int .i64 c, .int .i64 n] w fun e w' => e = .returned (.int .i64 (pickM c n)) ∧ w' = w := by
  have h1 := i64_lo hc
  have h2 := i64_hi hc
  clear hc
  unfold pickM
  by_cases h : c < 0
  · have h3 : 0 ≤ -(c + 1) := by omega
    rw [if_pos h, ← Int.tmod_eq_emod_of_nonneg h3, Int.neg_tmod]
    go_enter Try.func46, Try.ntmps46
    go_wp2
    go_ret
    exact ⟨rfl, rfl⟩
  · have h3 : 0 ≤ c := by omega
    rw [if_neg h]
    go_enter Try.func46, Try.ntmps46
    go_wp2
    go_ret
    exact ⟨rfl, rfl⟩

set_option maxRecDepth 100000 in
set_option maxHeartbeats 4000000 in
theorem law11_up (w : World) : Calls Try.prog 35 #[] w fun e w' => Ext w w' ∧ e = .returned (.bool true) := by
  go_enter Try.func35, Try.ntmps35
  go_wp2_with fail
  refine (rmap_New w w (Ext.refl w)).mono ?_
  rintro e w1 ⟨hE1, hb, mb, rfl, hO1⟩
  have HE1 := Lib.hid hE1
  have HO1 := Lib.hid hO1
  clear hE1 hO1
  go_wp2_with fail
  refine (rmap_Add w1 HO1.out 3 1 0 none (by decide) [⟨1, 0, 3⟩] (by decide)).mono ?_
  rintro e w2 ⟨⟨rfl, hO2⟩, hg2⟩
  have HE2 := Lib.hid (ext_grow HE1.out hg2 HO1.out.mB)
  have HO2 := Lib.hid hO2
  clear hO2 hg2 HE1 HO1
  go_wp2_with fail
  refine (rmap_Add w2 HO2.out 3 2 5 none (by decide) [⟨1, 0, 3⟩, ⟨2, 5, 3⟩] (by decide)).mono ?_
  rintro e w3 ⟨⟨rfl, hO3⟩, hg3⟩
  have HE3 := Lib.hid (ext_grow HE2.out hg3 HO2.out.mB)
  have HO3 := Lib.hid hO3
  clear hO3 hg3 HE2 HO2
  go_wp2_with fail
  refine (rmap_Move w3 HO3.out (by decide) 3 4 none (by decide) [⟨1, 0, 4⟩, ⟨2, 5, 4⟩] (by decide)).mono ?_
  rintro e w4 ⟨⟨rfl, hO4⟩, hg4⟩
  have HE4 := Lib.hid (ext_grow HE3.out hg4 HO3.out.mB)
  have HO4 := Lib.hid hO4
  clear hO4 hg4 HE3 HO3
  go_wp2_with fail
  refine (rmap_Of w4 HO4.out (by decide) 4).mono ?_
  rintro e w5 ⟨hE5, a, cap, rfl, hL⟩
  have HE5 := Lib.hid (HE4.out.trans hE5)
  rw [show ofR [⟨1, 0, 4⟩, ⟨2, 5, 4⟩] 4 = [(1, 0), (2, 5)] from by decide] at hL ⊢
  obtain ⟨g, rfl, _, hgl, c0, c1⟩ := keys_at hL (q := 0) (k := (1, 0)) rfl rfl
  obtain ⟨g2, hg2, _, _, d0, d1⟩ := keys_at hL (q := 1) (k := (2, 5)) rfl rfl
  cases hg2
  dsimp only at c0 c1 d0 d1
  clear hL hE5 HO4
  dsimp only [List.length]
  unfold errO
  go_wp2_with fail
  go_ret
  exact ⟨HE5.out, rfl⟩

theorem addR_len (n s p : Int) (rs : List Rw) : (addR n s p rs).length ≤ rs.length + 1 := by
  unfold addR
  split
  · rw [(putR_perm _ _).length_eq]; simp
  · omega
theorem deed_cells {w : World} {b o : Nat} {d : Deed11} {q : Nat} (h : ∀ j u, d.cells[j]? = some u → w.cell? ⟨b, o + (q * 5 + j), none⟩ = some u) :
    w.cell? ⟨b, o + q * 5, none⟩ = some (.int .i64 d.fWhat) ∧ w.cell? ⟨b, o + q * 5 + 1, none⟩ = some (.int .i64 d.fFrame) ∧ w.cell? ⟨b, o + q * 5 + 2, none⟩ = some (.int .i64 d.fTo) ∧ w.cell? ⟨b, o + q * 5 + 3, none⟩ = some (.int .i64 d.fW.fSpace) ∧ w.cell? ⟨b, o + q * 5 + 4, none⟩ = some (.int .i64 d.fW.fPage) := by
  simp only [Nat.add_assoc]
  exact ⟨h 0 _ rfl, h 1 _ rfl, h 2 _ rfl, h 3 _ rfl, h 4 _ rfl⟩

end Go.Proofs.Ythcdecgecabgaaa
