/- The contract of paviorref12.Same: two rows of the same steps. -/
import Derived.Test.YtapeoeakiphfpaaSteps
namespace Go.Proofs.Ytapeoeakiphfpaa
open Go.RowKit
set_option linter.unusedVariables false
set_option linter.unusedSimpArgs false
attribute [local go_sem] setCell_drewN alloc_drewN lt_moreE le_moreE lt_moreK le_moreK cell_more frozen_more set_more drew_more drewN_more

/-- The cells of an element. -/
theorem step_at {w : World} {g : Nat} {l : List Step} (h : ∀ i u, ((l.map Step.cells).flatten)[i]? = some u → w.cell? ⟨g, i, none⟩ = some u) (q : Nat) (f : Step) (hq : l[q]? = some f) :
    w.cell? ⟨g, q * 10, none⟩ = some (.int .i64 f.fKind) ∧ w.cell? ⟨g, q * 10 + 1, none⟩ = some (.int .i64 f.fAsid) ∧ w.cell? ⟨g, q * 10 + 2, none⟩ = some (.int .i64 f.fLevel) ∧ w.cell? ⟨g, q * 10 + 3, none⟩ = some (.int .i64 f.fTable) ∧ w.cell? ⟨g, q * 10 + 4, none⟩ = some (.int .i64 f.fPlace) ∧ w.cell? ⟨g, q * 10 + 5, none⟩ = some (.int .i64 f.fFirst) ∧ w.cell? ⟨g, q * 10 + 6, none⟩ = some (.int .u64 f.fValue) ∧ w.cell? ⟨g, q * 10 + 7, none⟩ = some (.int .i64 f.fTo) ∧ w.cell? ⟨g, q * 10 + 8, none⟩ = some (.int .i64 f.fFrom) ∧ w.cell? ⟨g, q * 10 + 9, none⟩ = some (.int .i64 f.fI) := by
  have key := fun j u hj => h (q * 10 + j) u (flatten_at 10 (l.map Step.cells) q j f.cells u (by simp [Step.cells]) (by simp [hq]) hj)
  exact ⟨key 0 _ rfl, key 1 _ rfl, key 2 _ rfl, key 3 _ rfl, key 4 _ rfl, key 5 _ rfl, key 6 _ rfl, key 7 _ rfl, key 8 _ rfl, key 9 _ rfl⟩

set_option maxRecDepth 100000 in
set_option maxHeartbeats 4000000 in
theorem ref12_Same (w : World) {B1 B2 : Nat} {a1 a2 : Option Addr} {c1 c2 : Nat} {s : List Step} (HO1 : OwnS w B1 (.slice a1 s.length c1) s) (HO2 : OwnS w B2 (.slice a2 s.length c2) s) :
    Calls Try.prog 70 #[.slice a1 s.length c1, .slice a2 s.length c2] w fun e w' => Ext w w' ∧ e = .returned (.bool true) := by
  have hc1 := own_cap HO1
  have hc2 := own_cap HO2
  have HA1 := Lib.hid (own_at HO1)
  have HA2 := Lib.hid (own_at HO2)
  have hm1 : c1 ≤ 9223372036854775807 := by have := hc1.2.2; unfold maxLen at this; exact this
  have hm2 : c2 ≤ 9223372036854775807 := by have := hc2.2.2; unfold maxLen at this; exact this
  have hs1 := hc1.2.1
  have hs2 := hc2.2.1
  clear HO1 HO2 hc1 hc2
  go_enter Try.func70, Try.ntmps70
  go_wp2_with fail
  go_loopw [5] (fun i wr => ∃ q : Nat, q ≤ s.length ∧ i = .int .i64 q ∧ Ext w wr) (fun i _ => s.length - (intOf i).toNat)
  case atStart => exact ⟨0, by omega, rfl, Ext.refl _⟩
  case round =>
    obtain ⟨q, hq, rfl, ⟨x, rfl⟩⟩ := hrel
    by_cases hlt : q < s.length
    · obtain ⟨g1, rfl, _, hg1, _, hx1, _⟩ := HA1.out (by omega)
      obtain ⟨g2, rfl, _, hg2, _, hx2, _⟩ := HA2.out (by omega)
      have hz : s[q]? = some s[q] := List.getElem?_eq_getElem hlt
      obtain ⟨x0, x1, x2, x3, x4, x5, x6, x7, x8, x9⟩ := step_at hx1 q _ hz
      obtain ⟨y0, y1, y2, y3, y4, y5, y6, y7, y8, y9⟩ := step_at hx2 q _ hz
      generalize s[q] = z at *
      obtain ⟨F0, F1, F2, F3, F4, F5, F6, F7, F8, F9⟩ := z
      clear hz hx1 hx2 HA1 HA2
      go_wp2_with fail
      go_region
      all_goals go_wp2_with fail
      go_roundw
      case rel => exact ⟨q + 1, by omega, by go_num, (by repeat (first | exact Ext.refl _ | apply Ext.more | apply Ext.alloc | apply Ext.drew | apply Ext.drewN))⟩
      case measure => simp [intOf]; omega
    · obtain rfl : q = s.length := by omega
      go_wp2_with fail
      go_ret
      exact ⟨(by repeat (first | exact Ext.refl _ | apply Ext.more | apply Ext.alloc | apply Ext.drew | apply Ext.drewN)), rfl⟩

end Go.Proofs.Ytapeoeakiphfpaa
