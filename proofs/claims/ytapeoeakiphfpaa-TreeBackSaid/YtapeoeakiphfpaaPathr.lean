/- The contracts of the document's answers paviorref12.Many, paviorref12.Path. -/
import Derived.Test.YtapeoeakiphfpaaPath
namespace Go.Proofs.Ytapeoeakiphfpaa
open Go.RowKit
set_option linter.unusedVariables false
set_option linter.unusedSimpArgs false
attribute [local go_sem] setCell_drewN alloc_drewN lt_moreE le_moreE lt_moreK le_moreK cell_more frozen_more set_more drew_more drewN_more

theorem spanL_succ (l : Nat) (hl : l ≤ 2) : spanL (l : Int) = 8 * spanL ((l + 1 : Nat) : Int) := by
  have hls : l = 0 ∨ l = 1 ∨ l = 2 := by omega
  rcases hls with rfl | rfl | rfl <;> decide
theorem way_place {ws : List Int} {n page : Int} : ∀ (k : Nat) (l tb : Int) (s : List (Int × Int)) (d : Desc), wayAt ws n page k l tb = some (s, d) → ∀ (i : Nat) (z : Int × Int), s[i]? = some z → z.2 = placeN (l + i) page := by
  intro k
  induction k with
  | zero => intro l tb s d h; simp [wayAt] at h
  | succ k ih =>
    intro l tb s d h i z hz
    rw [wayAt_in rfl rfl rfl] at h
    split at h
    · simp only [Option.some.injEq, Prod.mk.injEq] at h
      rw [← h.1] at hz
      cases i with
      | zero => simp at hz; rw [← hz]; simp
      | succ i => simp at hz
    · split at h
      · rw [Option.map_eq_some_iff] at h
        obtain ⟨⟨s', d'⟩, h1, h2⟩ := h
        simp only [Prod.mk.injEq] at h2
        rw [← h2.1] at hz
        cases i with
        | zero => simp at hz; rw [← hz]; simp
        | succ i =>
          have := ih _ _ _ _ h1 i z (by simpa using hz)
          rw [this]; congr 1; simp; omega
      · cases h

section
variable {P : Program} {fn : Func} {p q r : Tmp} {ty : TypeId}
/-- Two results: a slot, a struct in memory. -/
theorem results_tc (h : fn.results = #[.tmp q, .cell p ty]) (tmps : Array Value) (w : World) (g : Nat) (t : TypeId) (cs : Array Value) (fr : Nat × Nat) (d : TypeDesc)
    (hp : tmps.getD p undef = .pointer (some ⟨g, 0, none⟩)) (hg : w.heap[g]? = some (.cells cs t fr))
    (hu : P.underlying ty = some d) (hd : (match d with | .struct _ | .array _ _ => true | _ => false) = true) (hi : (P.info? ty).map (·.size) = some cs.size) :
    (results fn tmps).run P w = .ok (.tuple #[tmps.getD q undef, .agg cs]) w := by
  have hp' : tmps[p]?.getD undef = .pointer (some ⟨g, 0, none⟩) := by simpa using hp
  simp [results, h, hp', asAddr, run_loadVar_row w g t ty cs fr d hg hu hd hi]
end
def RPathRet (B : Nat) (w' : World) (t : List Step × (Int × Int)) (e : Ending) : Prop := ∃ a cap, e = .returned (.tuple #[.slice a t.1.length cap, .agg #[.int .i64 t.2.1, .int .i64 t.2.2]]) ∧ OwnS w' B (.slice a t.1.length cap) t.1
theorem rpathRet_yes {B B' n : Nat} {w' : World} {t : List Step × (Int × Int)} {v : Value} {xs : List Value} {x y : Int} (hxy : t.2 = (x, y)) (h : w'.ownsRow B' 73 10 v n xs) (hb : B ≤ B') (hn : n = t.1.length) (hx : xs = (t.1.map Step.cells).flatten) : RPathRet B w' t (.returned (.tuple #[v, .agg #[.int .i64 x, .int .i64 y]])) := by
  obtain ⟨a, cap, rfl⟩ := own_form h
  subst hn hx
  exact ⟨a, cap, by rw [hxy], own_low h hb⟩

end Go.Proofs.Ytapeoeakiphfpaa
