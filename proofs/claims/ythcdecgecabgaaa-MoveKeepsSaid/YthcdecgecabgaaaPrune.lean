import Derived.Test.YthcdecgecabgaaaPath
/- The contracts of tree.bare, tree.Prune. -/
namespace Go.Proofs.Ythcdecgecabgaaa
open Go.RowKit
set_option linter.unusedVariables false
set_option linter.unusedSimpArgs false
attribute [local go_sem] setCell_drewN alloc_drewN lt_moreE le_moreE lt_moreK le_moreK cell_more frozen_more set_more drew_more drewN_more

/-- Rows of different element types lie in different blocks. -/
theorem own_apart {w : World} {B1 B2 s1 s2 n1 n2 : Nat} {T1 T2 : TypeId} {v1 v2 : Value} {xs1 xs2 : List Value} (h1 : w.ownsRow B1 T1 s1 v1 n1 xs1) (h2 : w.ownsRow B2 T2 s2 v2 n2 xs2) (hT : T1 ≠ T2) : Sep v1 v2 := by
  intro g e1 e2
  rcases h1.2 with ⟨rfl, _⟩ | ⟨g1, c1, u1, rfl, _, k1, _⟩
  · cases e1
  · rcases h2.2 with ⟨rfl, _⟩ | ⟨g2, c2, u2, rfl, _, k2, _⟩
    · cases e2
    · cases e1
      cases e2
      rw [k1] at k2
      cases k2
      exact hT rfl
/-- What an append to one row leaves of a row of another type. -/
theorem own_aside {w w' : World} {B1 B2 s1 s2 n1 n2 : Nat} {T1 T2 : TypeId} {v1 v2 : Value} {xs1 xs2 : List Value} (h1 : w.ownsRow B1 T1 s1 v1 n1 xs1) (h2 : w.ownsRow B2 T2 s2 v2 n2 xs2) (hT : T1 ≠ T2)
    (keep : ∀ k ob, w.heap[k]? = some ob → v1.ownBlock ≠ some k → w'.heap[k]? = some ob) : w'.ownsRow B2 T2 s2 v2 n2 xs2 :=
  own_beside h2 fun k ob hk e => keep k ob hk fun e' => own_apart h1 h2 hT k e' e

/-- A row of one type does not lie in a block of another. -/
theorem own_ne_box {w : World} {B sz n k : Nat} {T T' : TypeId} {v : Value} {xs : List Value} {cs : Array Value} {fr : Nat × Nat} (h : w.ownsRow B T sz v n xs) (hb : w.heap[k]? = some (.cells cs T' fr)) (hT : T ≠ T') : v.ownBlock ≠ some k := by
  intro e
  rcases h.2 with ⟨rfl, _⟩ | ⟨g, c, u, rfl, _, k1, _⟩
  · cases e
  · cases e
    rw [k1] at hb
    cases hb
    exact hT rfl
theorem cells2u {w : World} {n : Nat} {T : TypeId} {a0 a1 : Value} (h : w.heap[n]? = some (.cells #[a0, a1] T (0, 0))) :
    w.cell? ⟨n, 0, none⟩ = some a0 ∧ w.cell? ⟨n, 1, none⟩ = some a1 ∧ ∀ i, w.frozen? ⟨n, i, none⟩ = false := by
  have key := fun i => cell_of_row w n i _ _ _ h
  exact ⟨key 0, key 1, fun i => frozen_of_row w n i _ _ h⟩
theorem bareB_no {ws : List Int} {t but : Int} {i : Nat} (hi : i < 8) (h1 : (i : Int) ≠ but) (h2 : ws.getD (t.toNat * 8 + i) 0 ≠ 0) : bareB ws t but = false := by
  cases hb : bareB ws t but with
  | false => rfl
  | true =>
    have := List.all_eq_true.1 hb i (by simpa using hi)
    simp only [Bool.or_eq_true, decide_eq_true_eq] at this
    rcases this with h | h
    · exact absurd h h1
    · exact absurd h h2
theorem bareB_yes {ws : List Int} {t but : Int} (h : ∀ i : Nat, i < 8 → (i : Int) = but ∨ ws.getD (t.toNat * 8 + i) 0 = 0) : bareB ws t but = true := by
  refine List.all_eq_true.2 fun i hi => ?_
  simp only [Bool.or_eq_true, decide_eq_true_eq]
  exact h i (by simpa using hi)

/-- What Prune tells. -/
inductive PruneR where
  | yes (s : List Step) (gone : List Int)
  | no (k : Nat)
def PruneRet (B : Nat) (w' : World) (r : PruneR) (e : Ending) : Prop := match r with
  | .yes s gone => ∃ a cap a2 cap2, e = .returned (.tuple #[.slice a s.length cap, .slice a2 gone.length cap2, .nilIface]) ∧ OwnS w' B (.slice a s.length cap) s ∧ w'.ownsRow B 3 1 (.slice a2 gone.length cap2) gone.length (gone.map fun x => Value.int .i64 x)
  | .no k => e = .returned (.tuple #[.slice none 0 0, .slice none 0 0, errW k])
def pruneRes (ws : List Int) (asid page : Int) : Option (List (Int × Int) × Desc) → PruneR
  | none => .no 2
  | some (s, _) => if asid < 0 ∨ 255 < asid then .no 1 else .yes (pruneS ws asid page s (s.length - 1) (-1)).1 (pruneS ws asid page s (s.length - 1) (-1)).2
theorem pruneS_go {ws : List Int} {asid page : Int} {s : List (Int × Int)} {l : Nat} {but : Int} {z u : Int × Int} (hz : s.getD (l + 1) (0, 0) = z) (hu : s.getD l (0, 0) = u) (hb : bareB ws z.1 but = true) :
    pruneS ws asid page s (l + 1) but = (⟨1, asid, l, u.1, u.2, firstP page l, 0, 0, 0, 0⟩ :: ⟨3, asid, 0, 0, 0, 0, 0, 0, 0, 0⟩ :: ⟨6, 0, 0, z.1, 0, 0, 0, 0, 0, 0⟩ :: (pruneS ws asid page s l u.2).1, z.1 :: (pruneS ws asid page s l u.2).2) := by
  subst hz hu
  conv => lhs; unfold pruneS
  rw [if_pos hb]
theorem pruneS_stop {ws : List Int} {asid page : Int} {s : List (Int × Int)} {l : Nat} {but : Int} {z : Int × Int} (hz : s.getD (l + 1) (0, 0) = z) (hb : bareB ws z.1 but = false) : pruneS ws asid page s (l + 1) but = ([], []) := by
  subst hz
  conv => lhs; unfold pruneS
  rw [if_neg (by rw [hb]; simp)]

theorem pruneRet_yes {B B' : Nat} {w' : World} {s : List Step} {gone : List Int} {v u : Value} (h : w'.ownsRow B' 46 10 v s.length (s.map Step.cells).flatten) (h2 : w'.ownsRow B' 3 1 u gone.length (gone.map fun x => Value.int .i64 x)) (hb : B ≤ B') : PruneRet B w' (.yes s gone) (.returned (.tuple #[v, u, .nilIface])) := by
  obtain ⟨a, cap, rfl⟩ := own_form h
  obtain ⟨a2, cap2, rfl⟩ := own_form h2
  exact ⟨a, cap, a2, cap2, rfl, own_low h hb, own_low h2 hb⟩
theorem way_in' {ws : List Int} {n page : Int} : ∀ (k : Nat) (l tb : Int) (s : List (Int × Int)) (d : Desc), 0 ≤ tb → tb < n → wayAt ws n page k l tb = some (s, d) → ∀ z ∈ s, 0 ≤ z.1 ∧ z.1 < n := by
  intro k
  induction k with
  | zero => intro l tb s d _ _ h; simp [wayAt] at h
  | succ k ih =>
    intro l tb s d t0 t1 h z hz
    rw [wayAt_in rfl rfl rfl] at h
    split at h
    · simp only [Option.some.injEq, Prod.mk.injEq] at h
      rw [← h.1] at hz
      simp at hz
      rw [hz]
      exact ⟨t0, t1⟩
    · split at h
      · rename_i ht
        rw [Option.map_eq_some_iff] at h
        obtain ⟨⟨s', d'⟩, h1, h2⟩ := h
        simp only [Prod.mk.injEq] at h2
        rw [← h2.1] at hz
        rcases List.mem_cons.1 hz with rfl | hz
        · exact ⟨t0, t1⟩
        · exact ih _ _ _ _ ht.1 ht.2 h1 z hz
      · cases h
theorem el_int' : ElemAt Try.prog 36 3 (.int .i64 0) 1 8 := ⟨Try.underlying36, by kernel_rfl, rfl, by decide, by decide⟩
end Go.Proofs.Ythcdecgecabgaaa
