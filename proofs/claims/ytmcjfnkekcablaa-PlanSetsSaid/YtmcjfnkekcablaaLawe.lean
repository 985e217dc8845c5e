/- The walk of the law WalkStays. -/
import Derived.Test.YtmcjfnkekcablaaWhole
import Derived.Test.YtmcjfnkekcablaaLay
namespace Go.Proofs.Ytmcjfnkekcablaa
open Go.RowKit
set_option linter.unusedVariables false
set_option linter.unusedSimpArgs false
attribute [local go_sem] setCell_drewN alloc_drewN

theorem wholeAt_len {ws : List Int} {n root : Int} : ∀ (k : Nat) (p : Int) (l : List Found), p ≤ 4096 + 512 → wholeAt ws n root k p = some l → (l.length : Int) ≤ 4096 + 512 - p := by
  intro k
  induction k with
  | zero => intro p l _ h; simp [wholeAt] at h
  | succ k ih =>
    intro p l hp h
    unfold wholeAt at h
    split at h
    · split at h
      · cases h
      · rename_i f hf
        obtain ⟨l', hl', rfl⟩ := Option.map_eq_some_iff.1 h
        have hlv := walkAt_level _ _ _ _ hf
        have hs := stride_cases hlv.1 (by omega)
        have := ih _ _ (by omega) hl'
        split <;> simp <;> omega
    · simp only [Option.some.injEq] at h
      subst h
      simp; omega
/-- Whatever is asked, a walk tells the same each time. -/
theorem walk_Walk_any (n : Nat) (ws : List Int) (hw : WOk ws) (root page : Int) : ∃ (F : Found) (E : Value), (E = .nilIface ∨ ∃ c, E = errW c) ∧ ∀ (w : World) (b g c : Nat), MemAt w b g n c ws →
    Calls Try.prog 65 #[.pointer (some ⟨b, 0, none⟩), .int .i64 root, .int .i64 page] w fun e w' => e = .returned (.tuple #[F.v, E]) ∧ w.grownBy w' none := by
  by_cases h : 0 ≤ root ∧ root < n ∧ 0 ≤ page ∧ page < 4096
  · obtain ⟨h0, h1, h2, h3⟩ := h
    cases hr : walkAt ws n page 4 0 root with
    | none => exact ⟨zeroF, errW 2, .inr ⟨2, rfl⟩, fun w b g c hm => by have := walk_Walk w hm hw root page h0 h1 h2 h3; rw [hr] at this; exact this⟩
    | some f => exact ⟨f, .nilIface, .inl rfl, fun w b g c hm => by have := walk_Walk w hm hw root page h0 h1 h2 h3; rw [hr] at this; exact this⟩
  · exact ⟨zeroF, errW 1, .inr ⟨1, rfl⟩, fun w b g c hm => walk_Walk_no w hm root page h⟩
theorem walk_Whole_any (n : Nat) (ws : List Int) (hw : WOk ws) (root : Int) : ∃ (k : Nat) (xs : List Value) (E : Value), (E = .nilIface ∨ ∃ c, E = errW c) ∧ k ≤ 5000 ∧ ∀ (w : World) (b g c : Nat), MemAt w b g n c ws →
    Calls Try.prog 89 #[.pointer (some ⟨b, 0, none⟩), .int .i64 root] w fun e w' => ∃ v, e = .returned (.tuple #[v, E]) ∧ w'.ownsRow w.heap.size 92 11 v k xs ∧ w.grownBy w' none := by
  by_cases h : 0 ≤ root ∧ root < n
  · obtain ⟨h0, h1⟩ := h
    cases hr : wholeAt ws n root 4097 0 with
    | none =>
      refine ⟨0, [], errW 2, .inr ⟨2, rfl⟩, by omega, fun w b g c hm => ?_⟩
      refine (walk_Whole w hm hw root h0 h1).mono ?_
      rintro e w' ⟨he, hg⟩
      rw [hr] at he
      exact ⟨_, he, World.ownsRow_nil _ _ _ _, hg⟩
    | some l =>
      refine ⟨l.length, l.flatMap Found.cells, .nilIface, .inl rfl, by have := wholeAt_len _ _ _ (by omega) hr; omega, fun w b g c hm => ?_⟩
      refine (walk_Whole w hm hw root h0 h1).mono ?_
      rintro e w' ⟨he, hg⟩
      rw [hr] at he
      obtain ⟨v, rfl, ho⟩ := he
      exact ⟨v, rfl, ho, hg⟩
  · refine ⟨0, [], errW 1, .inr ⟨1, rfl⟩, by omega, fun w b g c hm => ?_⟩
    refine (walk_Whole_no w hm root h).mono ?_
    rintro e w' ⟨rfl, hg⟩
    exact ⟨_, rfl, World.ownsRow_nil _ _ _ _, hg⟩

/-- The list a of k found things lies in a block of its own, from block B on. -/
def AOk (B k : Nat) (w : World) (ad : Option Addr) : Prop := k ≠ 0 → ∃ ga, ad = some ⟨ga, 0, none⟩ ∧ B ≤ ga ∧ ∃ cur, w.heap[ga]? = some (.cells cur 92 (0, 0)) ∧ k * 11 ≤ cur.size
theorem own_AOk {w : World} {B k : Nat} {v : Value} {xs : List Value} (h : w.ownsRow B 92 11 v k xs) : ∃ ad cap, v = .slice ad k cap ∧ AOk B k w ad := by
  rcases h.2 with ⟨rfl, rfl⟩ | ⟨g, cap, cur, rfl, hb, hg, hnc, hcm, hcs, htk⟩
  · exact ⟨none, 0, rfl, fun h => absurd rfl h⟩
  · exact ⟨_, cap, rfl, fun _ => ⟨g, rfl, hb, cur, hg, by rw [hcs]; omega⟩⟩
theorem AOk.kept {w w' : World} {B k : Nat} {ad : Option Addr} {row : Option Nat} (h : AOk B k w ad) (hg : w.grownBy w' row) (hr : ∀ q, row = some q → q < B) : AOk B k w' ad := by
  intro hk
  obtain ⟨ga, rfl, hb, cur, hc, hs⟩ := h hk
  exact ⟨ga, rfl, hb, cur, by rw [hg.block ga (Array.getElem?_eq_some_iff.1 hc).1 (fun e => by have := hr ga e.symm; omega)]; exact hc, hs⟩
theorem put11_row (w : World) (g o : Nat) (cur : Array Value) (hg : w.heap[g]? = some (.cells cur 92 (0, 0))) (v0 v1 v2 v3 v4 v5 v6 v7 v8 v9 v10 : Value) :
    ∃ cur', (((((((((((w.setCell ⟨g, o, none⟩ v0).setCell ⟨g, o + 1, none⟩ v1).setCell ⟨g, o + 2, none⟩ v2).setCell ⟨g, o + 3, none⟩ v3).setCell ⟨g, o + 4, none⟩ v4).setCell ⟨g, o + 5, none⟩ v5).setCell ⟨g, o + 6, none⟩ v6).setCell ⟨g, o + 7, none⟩ v7).setCell ⟨g, o + 8, none⟩ v8).setCell ⟨g, o + 9, none⟩ v9).setCell ⟨g, o + 10, none⟩ v10).heap[g]? = some (.cells cur' 92 (0, 0)) ∧ cur'.size = cur.size := by
  have h0 := heap_setCell_same _ g (o) _ _ v0 hg
  have h1 := heap_setCell_same _ g (o + 1) _ _ v1 h0
  have h2 := heap_setCell_same _ g (o + 2) _ _ v2 h1
  have h3 := heap_setCell_same _ g (o + 3) _ _ v3 h2
  have h4 := heap_setCell_same _ g (o + 4) _ _ v4 h3
  have h5 := heap_setCell_same _ g (o + 5) _ _ v5 h4
  have h6 := heap_setCell_same _ g (o + 6) _ _ v6 h5
  have h7 := heap_setCell_same _ g (o + 7) _ _ v7 h6
  have h8 := heap_setCell_same _ g (o + 8) _ _ v8 h7
  have h9 := heap_setCell_same _ g (o + 9) _ _ v9 h8
  have h10 := heap_setCell_same _ g (o + 10) _ _ v10 h9
  exact ⟨_, h10, by simp⟩
theorem put11_grow (w : World) (g o : Nat) (v0 v1 v2 v3 v4 v5 v6 v7 v8 v9 v10 : Value) : w.grownBy (((((((((((w.setCell ⟨g, o, none⟩ v0).setCell ⟨g, o + 1, none⟩ v1).setCell ⟨g, o + 2, none⟩ v2).setCell ⟨g, o + 3, none⟩ v3).setCell ⟨g, o + 4, none⟩ v4).setCell ⟨g, o + 5, none⟩ v5).setCell ⟨g, o + 6, none⟩ v6).setCell ⟨g, o + 7, none⟩ v7).setCell ⟨g, o + 8, none⟩ v8).setCell ⟨g, o + 9, none⟩ v9).setCell ⟨g, o + 10, none⟩ v10) (some g) := by
  repeat (refine grow_setCell ?_ _ _ (.inr rfl))
  exact grow_refl _ _
theorem some_cell {w : World} {g : Nat} {cur : Array Value} {T : TypeId} (hg : w.heap[g]? = some (.cells cur T (0, 0))) (j : Nat) (h : j < cur.size) : ∃ u, w.cell? ⟨g, j, none⟩ = some u := by
  rw [cell_of_row w g j _ _ _ hg]
  exact ⟨_, Array.getElem?_eq_getElem h⟩

end Go.Proofs.Ytmcjfnkekcablaa
