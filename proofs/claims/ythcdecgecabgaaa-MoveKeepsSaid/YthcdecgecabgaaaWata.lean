import Derived.Test.YthcdecgecabgaaaBSafeSafl
import Derived.Test.YthcdecgecabgaaaBCopyLawaLawb
/- The contract of paviorlaw16.watched. -/
namespace Go.Proofs.Ythcdecgecabgaaa
open Go.RowKit
set_option linter.unusedVariables false
set_option linter.unusedSimpArgs false
attribute [local go_sem] setCell_drewN alloc_drewN lt_moreE le_moreE lt_moreK le_moreK cell_more frozen_more set_more drew_more drewN_more

theorem own_one (w : World) (s : Step) : OwnS (w.alloc (.cells s.cells.toArray 46)) w.heap.size (.slice (some ⟨w.heap.size, 0, none⟩) [s].length 1) [s] :=
  own_lit' rfl (Nat.le_refl _) rfl (by simp) rfl rfl
/-- One step is done. -/
theorem ref12_Do1 (W W5 : World) (hE : Ext W W5) {h hc n : Nat} {gb gc : Nat → Nat} {us : List Int} (hr : RefAt W5 h hc n gb gc us) (hh : W.heap.size ≤ h) (hgb : ∀ i, i < n → W.heap.size ≤ gb i) (s : Step) :
    Calls Try.prog 22 #[.slice (some ⟨h, 0, none⟩) n hc, .slice (some ⟨W5.heap.size, 0, none⟩) 1 1] (W5.alloc (.cells #[.int .i64 s.fKind, .int .i64 s.fAsid, .int .i64 s.fLevel, .int .i64 s.fTable, .int .i64 s.fPlace, .int .i64 s.fFirst, .int .u64 s.fValue, .int .i64 s.fTo, .int .i64 s.fFrom, .int .i64 s.fI] 46))
      fun e w' => e = .returned (.tuple #[]) ∧ Ext W w' ∧ KeepW W5 w' ∧ ∃ gb gc, RefAt w' h hc n gb gc (stepW n us s) ∧ ∀ i, i < n → W.heap.size ≤ gb i := by
  have h1 : OwnS (W5.alloc (.cells #[.int .i64 s.fKind, .int .i64 s.fAsid, .int .i64 s.fLevel, .int .i64 s.fTable, .int .i64 s.fPlace, .int .i64 s.fFirst, .int .u64 s.fValue, .int .i64 s.fTo, .int .i64 s.fFrom, .int .i64 s.fI] 46)) W5.heap.size (.slice (some ⟨W5.heap.size, 0, none⟩) [s].length 1) [s] := own_one W5 s
  have h2 := ref12_Do W _ (hE.alloc _) (hr.alloc _) hh hgb h1 (by simp)
  exact h2.mono fun e w' ⟨h3, h4, h5, gb', gc', h6, h7⟩ => ⟨h3, h4, (KeepW.ext ((Ext.refl W5).alloc _)).trans h5, gb', gc', h6, h7⟩

end Go.Proofs.Ythcdecgecabgaaa
