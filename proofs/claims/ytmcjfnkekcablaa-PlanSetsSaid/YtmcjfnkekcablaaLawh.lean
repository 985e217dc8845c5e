/- The contract of the document's answer paviorref04.Whole; the law paviorlaw04.WalkWhole. -/
import Derived.Test.YtmcjfnkekcablaaLawg
import Derived.Test.YtmcjfnkekcablaaPagw
import Derived.Test.YtmcjfnkekcablaaMorf
namespace Go.Proofs.Ytmcjfnkekcablaa
open Go.RowKit
set_option linter.unusedVariables false
set_option linter.unusedSimpArgs false
attribute [local go_sem] setCell_drewN alloc_drewN lt_moreE le_moreE lt_moreK le_moreK cell_more frozen_more set_more drew_more drewN_more

theorem el_Found : ElemAt Try.prog 34 92 (.agg #[.int .i64 0, .int .i64 0, .int .i64 0, .int .i64 0, .int .i64 0, .int .i64 0, .int .i64 0, .int .i64 0, .bool false, .bool false, .bool false]) 11 72 := ⟨Try.underlying34, by kernel_rfl, rfl, by decide, by decide⟩
/-- The cells of an element. -/
theorem found_at {w : World} {g : Nat} {l : List Found} (h : ∀ i u, ((l.map Found.cells).flatten)[i]? = some u → w.cell? ⟨g, i, none⟩ = some u) (q : Nat) (f : Found) (hq : l[q]? = some f) :
    w.cell? ⟨g, q * 11, none⟩ = some (.int .i64 f.fKind) ∧ w.cell? ⟨g, q * 11 + 1, none⟩ = some (.int .i64 f.fLevel) ∧ w.cell? ⟨g, q * 11 + 2, none⟩ = some (.int .i64 f.fTable) ∧ w.cell? ⟨g, q * 11 + 3, none⟩ = some (.int .i64 f.fPlace) ∧ w.cell? ⟨g, q * 11 + 4, none⟩ = some (.int .i64 f.fFrame) ∧ w.cell? ⟨g, q * 11 + 5, none⟩ = some (.int .i64 f.fOrder) ∧ w.cell? ⟨g, q * 11 + 6, none⟩ = some (.int .i64 f.fFirst) ∧ w.cell? ⟨g, q * 11 + 7, none⟩ = some (.int .i64 f.fBase) ∧ w.cell? ⟨g, q * 11 + 8, none⟩ = some (.bool f.fWrite) ∧ w.cell? ⟨g, q * 11 + 9, none⟩ = some (.bool f.fExec) ∧ w.cell? ⟨g, q * 11 + 10, none⟩ = some (.bool f.fSeen) := by
  have key := fun j u hj => h (q * 11 + j) u (flatten_at 11 (l.map Found.cells) q j f.cells u (by simp [Found.cells]) (by simp [hq]) hj)
  exact ⟨key 0 _ rfl, key 1 _ rfl, key 2 _ rfl, key 3 _ rfl, key 4 _ rfl, key 5 _ rfl, key 6 _ rfl, key 7 _ rfl, key 8 _ rfl, key 9 _ rfl, key 10 _ rfl⟩
/-- What the document's Whole answers. -/
def RWholeRet (B : Nat) (w' : World) (r : Option (List Found)) (e : Ending) : Prop := match r with
  | some s => ∃ a cap, e = .returned (.tuple #[.slice a s.length cap, .int .i64 0]) ∧ w'.ownsRow B 92 11 (.slice a s.length cap) s.length (s.map Found.cells).flatten
  | none => e = .returned (.tuple #[.slice none 0 0, .int .i64 2])
theorem rwholeRet_some {B B' n : Nat} {w' : World} {r : Option (List Found)} {s : List Found} {v : Value} {xs : List Value} (hr : r = some s) (h : w'.ownsRow B' 92 11 v n xs) (hb : B ≤ B') (hn : n = s.length) (hx : xs = (s.map Found.cells).flatten) : RWholeRet B w' r (.returned (.tuple #[v, .int .i64 0])) := by
  obtain ⟨a, cap, rfl⟩ := own_form h
  subst hn hx hr
  exact ⟨a, cap, rfl, own_low h hb⟩
theorem pagesW_in {ws : List Int} {n root p : Int} {k : Nat} {f : Found} (hp : p < 4096) (hw : walkAt ws n p 4 0 root = some f) : pagesW ws n root (k + 1) p = (pagesW ws n root k (p + 1)).map fun l => if f.fKind = 3 ∨ (f.fKind = 2 ∧ f.fFirst = p) then f :: l else l := by
  conv => lhs; unfold pagesW
  rw [if_pos hp, hw]
theorem pagesW_no {ws : List Int} {n root p : Int} {k : Nat} (hp : p < 4096) (hw : walkAt ws n p 4 0 root = none) : pagesW ws n root (k + 1) p = none := by
  conv => lhs; unfold pagesW
  rw [if_pos hp, hw]
theorem pagesW_end {ws : List Int} {n root : Int} {k : Nat} : pagesW ws n root (k + 1) 4096 = some [] := by
  unfold pagesW
  rw [if_neg (by omega)]

end Go.Proofs.Ytmcjfnkekcablaa
