import Derived.Test.YthcdecgecabgaaaWhole
import Derived.Test.YthcdecgecabgaaaBLayPlainPagw
import Derived.Test.YthcdecgecabgaaaBStepsSamePart
import Derived.Test.YthcdecgecabgaaaBMovwConcBedtLawh
import Derived.Deep.RegionHeld3
import Derived.Deep.QuietTactic
import Derived.BigQuiet
/- The walk of the law WalkStays. -/
namespace Go.Proofs.Ythcdecgecabgaaa
open Go.RowKit
set_option linter.unusedVariables false
set_option linter.unusedSimpArgs false
attribute [local go_sem] setCell_drewN alloc_drewN

theorem wholeAt_len {ws : List Int} {n root : Int} : ∀ (k : Nat) (p : Int) (l : List Found), p ≤ 4096 + 512 → wholeAt ws n root k p = some l → (l.length : Int) ≤ 4096 + 512 - p := by
  intro k
  induction k with
  | zero => intro p l _ h; simp [wholeAt] at h
  | succ k ih =>
    intro p l hp h
    unfold wholeAt at h
    split at h
    · split at h
      · cases h
      · rename_i f hf
        obtain ⟨l', hl', rfl⟩ := Option.map_eq_some_iff.1 h
        have hlv := walkAt_level _ _ _ _ hf
        have hs := stride_cases hlv.1 (by omega)
        have := ih _ _ (by omega) hl'
        split <;> simp <;> omega
    · simp only [Option.some.injEq] at h
      subst h
      simp; omega
/-- Whatever is asked, a walk tells the same each time. -/
theorem walk_Walk_any (n : Nat) (ws : List Int) (hw : WOk ws) (root page : Int) : ∃ (F : Found) (E : Value), (E = .nilIface ∨ ∃ c, E = errW c) ∧ ∀ (w : World) (b g c : Nat), MemAt w b g n c ws →
    Calls Try.prog 97 #[.pointer (some ⟨b, 0, none⟩), .int .i64 root, .int .i64 page] w fun e w' => e = .returned (.tuple #[F.v, E]) ∧ w.grownBy w' none := by
  by_cases h : 0 ≤ root ∧ root < n ∧ 0 ≤ page ∧ page < 4096
  · obtain ⟨h0, h1, h2, h3⟩ := h
    cases hr : walkAt ws n page 4 0 root with
    | none => exact ⟨zeroF, errW 2, .inr ⟨2, rfl⟩, fun w b g c hm => by have := walk_Walk w hm hw root page h0 h1 h2 h3; rw [hr] at this; exact this⟩
    | some f => exact ⟨f, .nilIface, .inl rfl, fun w b g c hm => by have := walk_Walk w hm hw root page h0 h1 h2 h3; rw [hr] at this; exact this⟩
  · exact ⟨zeroF, errW 1, .inr ⟨1, rfl⟩, fun w b g c hm => walk_Walk_no w hm root page h⟩
theorem walk_Whole_any (n : Nat) (ws : List Int) (hw : WOk ws) (root : Int) : ∃ (k : Nat) (xs : List Value) (E : Value), (E = .nilIface ∨ ∃ c, E = errW c) ∧ k ≤ 5000 ∧ ∀ (w : World) (b g c : Nat), MemAt w b g n c ws →
    Calls Try.prog 104 #[.pointer (some ⟨b, 0, none⟩), .int .i64 root] w fun e w' => ∃ v, e = .returned (.tuple #[v, E]) ∧ w'.ownsRow w.heap.size 53 11 v k xs ∧ w.grownBy w' none := by
  by_cases h : 0 ≤ root ∧ root < n
  · obtain ⟨h0, h1⟩ := h
    cases hr : wholeAt ws n root 4097 0 with
    | none =>
      refine ⟨0, [], errW 2, .inr ⟨2, rfl⟩, by omega, fun w b g c hm => ?_⟩
      refine (walk_Whole w hm hw root h0 h1).mono ?_
      rintro e w' ⟨he, hg⟩
      rw [hr] at he
      exact ⟨_, he, World.ownsRow_nil _ _ _ _, hg⟩
    | some l =>
      refine ⟨l.length, l.flatMap Found.cells, .nilIface, .inl rfl, by have := wholeAt_len _ _ _ (by omega) hr; omega, fun w b g c hm => ?_⟩
      refine (walk_Whole w hm hw root h0 h1).mono ?_
      rintro e w' ⟨he, hg⟩
      rw [hr] at he
      obtain ⟨v, rfl, ho⟩ := he
      exact ⟨v, rfl, ho, hg⟩
  · refine ⟨0, [], errW 1, .inr ⟨1, rfl⟩, by omega, fun w b g c hm => ?_⟩
    refine (walk_Whole_no w hm root h).mono ?_
    rintro e w' ⟨rfl, hg⟩
    exact ⟨_, rfl, World.ownsRow_nil _ _ _ _, hg⟩

/-- The list a of k found things lies in a block of its own, from block B on. -/
def AOk (B k : Nat) (w : World) (ad : Option Addr) : Prop := k ≠ 0 → ∃ ga, ad = some ⟨ga, 0, none⟩ ∧ B ≤ ga ∧ ∃ cur, w.heap[ga]? = some (.cells cur 53 (0, 0)) ∧ k * 11 ≤ cur.size
theorem own_AOk {w : World} {B k : Nat} {v : Value} {xs : List Value} (h : w.ownsRow B 53 11 v k xs) : ∃ ad cap, v = .slice ad k cap ∧ AOk B k w ad := by
  rcases h.2 with ⟨rfl, rfl⟩ | ⟨g, cap, cur, rfl, hb, hg, hnc, hcm, hcs, htk⟩
  · exact ⟨none, 0, rfl, fun h => absurd rfl h⟩
  · exact ⟨_, cap, rfl, fun _ => ⟨g, rfl, hb, cur, hg, by rw [hcs]; omega⟩⟩
theorem AOk.kept {w w' : World} {B k : Nat} {ad : Option Addr} {row : Option Nat} (h : AOk B k w ad) (hg : w.grownBy w' row) (hr : ∀ q, row = some q → q < B) : AOk B k w' ad := by
  intro hk
  obtain ⟨ga, rfl, hb, cur, hc, hs⟩ := h hk
  exact ⟨ga, rfl, hb, cur, by rw [hg.block ga (Array.getElem?_eq_some_iff.1 hc).1 (fun e => by have := hr ga e.symm; omega)]; exact hc, hs⟩
theorem put11_row (w : World) (g o : Nat) (cur : Array Value) (hg : w.heap[g]? = some (.cells cur 53 (0, 0))) (v0 v1 v2 v3 v4 v5 v6 v7 v8 v9 v10 : Value) :
    ∃ cur', (((((((((((w.setCell ⟨g, o, none⟩ v0).setCell ⟨g, o + 1, none⟩ v1).setCell ⟨g, o + 2, none⟩ v2).setCell ⟨g, o + 3, none⟩ v3).setCell ⟨g, o + 4, none⟩ v4).setCell ⟨g, o + 5, none⟩ v5).setCell ⟨g, o + 6, none⟩ v6).setCell ⟨g, o + 7, none⟩ v7).setCell ⟨g, o + 8, none⟩ v8).setCell ⟨g, o + 9, none⟩ v9).setCell ⟨g, o + 10, none⟩ v10).heap[g]? = some (.cells cur' 53 (0, 0)) ∧ cur'.size = cur.size := by
  have h0 := heap_setCell_same _ g (o) _ _ v0 hg
  have h1 := heap_setCell_same _ g (o + 1) _ _ v1 h0
  have h2 := heap_setCell_same _ g (o + 2) _ _ v2 h1
  have h3 := heap_setCell_same _ g (o + 3) _ _ v3 h2
  have h4 := heap_setCell_same _ g (o + 4) _ _ v4 h3
  have h5 := heap_setCell_same _ g (o + 5) _ _ v5 h4
  have h6 := heap_setCell_same _ g (o + 6) _ _ v6 h5
  have h7 := heap_setCell_same _ g (o + 7) _ _ v7 h6
  have h8 := heap_setCell_same _ g (o + 8) _ _ v8 h7
  have h9 := heap_setCell_same _ g (o + 9) _ _ v9 h8
  have h10 := heap_setCell_same _ g (o + 10) _ _ v10 h9
  exact ⟨_, h10, by simp⟩
theorem put11_grow (w : World) (g o : Nat) (v0 v1 v2 v3 v4 v5 v6 v7 v8 v9 v10 : Value) : w.grownBy (((((((((((w.setCell ⟨g, o, none⟩ v0).setCell ⟨g, o + 1, none⟩ v1).setCell ⟨g, o + 2, none⟩ v2).setCell ⟨g, o + 3, none⟩ v3).setCell ⟨g, o + 4, none⟩ v4).setCell ⟨g, o + 5, none⟩ v5).setCell ⟨g, o + 6, none⟩ v6).setCell ⟨g, o + 7, none⟩ v7).setCell ⟨g, o + 8, none⟩ v8).setCell ⟨g, o + 9, none⟩ v9).setCell ⟨g, o + 10, none⟩ v10) (some g) := by
  repeat (refine grow_setCell ?_ _ _ (.inr rfl))
  exact grow_refl _ _
theorem some_cell {w : World} {g : Nat} {cur : Array Value} {T : TypeId} (hg : w.heap[g]? = some (.cells cur T (0, 0))) (j : Nat) (h : j < cur.size) : ∃ u, w.cell? ⟨g, j, none⟩ = some u := by
  rw [cell_of_row w g j _ _ _ hg]
  exact ⟨_, Array.getElem?_eq_getElem h⟩

end Go.Proofs.Ythcdecgecabgaaa

/- Leaves of pages: plain laws; the contracts of plan.own, plan.pages, plan.Leaves. -/
namespace Go.Proofs.Ythcdecgecabgaaa
open Go.RowKit
set_option linter.unusedVariables false
set_option linter.unusedSimpArgs false
attribute [local go_sem] setCell_drewN alloc_drewN lt_moreE le_moreE lt_moreK le_moreK cell_more frozen_more set_more drew_more drewN_more

/-- The first page that a leaf's word leads to, and how many. -/
def ownF (f : Found) : Int := if f.fKind = 2 then f.fFirst else f.fFirst + f.fFrame - f.fBase
def pagesF (f : Found) : Int := if f.fKind = 2 then 8 else 1
structure FOk (f : Found) : Prop where
  leaf : f.fKind = 2 ∨ f.fKind = 3
  f0 : 0 ≤ f.fFirst
  f1 : f.fFirst < 4096
  fr0 : 0 ≤ f.fFrame
  fr1 : f.fFrame < 600
  b0 : -600 < f.fBase
  b1 : f.fBase < 600
  own0 : 0 ≤ ownF f
  own1 : ownF f + pagesF f ≤ 4096
  ord : f.fOrder = 0 ∨ f.fOrder = 2 ∨ f.fOrder = 3
theorem walk_ok {ws : List Int} {n p root : Int} {f : Found} (p0 : 0 ≤ p) (p1 : p < 4096) (h : walkAt ws n p 4 0 root = some f) (hl : f.fKind = 2 ∨ f.fKind = 3) : FOk f := by
  obtain ⟨h1, h2, h3, _, _, _, hf⟩ := walkAt_word 4 0 root f (by omega) (by omega) h
  have hs := walkAt_small p0 p1 4 0 root f h
  rcases hl with hk | hk
  · obtain ⟨q1, q2, q3, q4, q5, q6, d, hd, hok, hdk⟩ := walk_block h hk
    obtain ⟨fo, hmod, hd0, hd1⟩ := okD_block hok hdk
    rw [q1, hd] at hf
    unfold foundD at hf
    rw [if_pos hdk] at hf
    have hb : f.fBase = d.fFrame := by rw [hf]
    have ho : f.fOrder = 3 := by rw [hf]
    exact ⟨.inl hk, by omega, by omega, by omega, by omega, by omega, by omega, by unfold ownF; rw [if_pos hk]; omega, by unfold ownF pagesF; rw [if_pos hk, if_pos hk]; omega, .inr (.inr ho)⟩
  · obtain ⟨q1, q2, d, hd, hok, hdk, hf⟩ := walk_page h hk
    have hdr := okD_parts hok
    unfold foundD at hf
    rw [if_neg (by omega), if_pos hdk] at hf
    have hk2 : ¬ f.fKind = 2 := by omega
    cases hfo : d.fFold with
    | true =>
      rw [hfo] at hf
      simp only [if_true] at hf
      have hb : f.fBase = d.fFrame - p % 4 := by rw [hf]
      have hfr : f.fFrame = d.fFrame := by rw [hf]
      have hfi : f.fFirst = p - p % 4 := by rw [hf]
      exact ⟨.inr hk, by omega, by omega, by omega, by omega, by omega, by omega, by unfold ownF; rw [if_neg hk2]; omega, by unfold ownF pagesF; rw [if_neg hk2, if_neg hk2]; omega, by omega⟩
    | false =>
      rw [hfo] at hf
      simp only [Bool.false_eq_true, if_false] at hf
      have hb : f.fBase = d.fFrame := by rw [hf]
      have hfr : f.fFrame = d.fFrame := by rw [hf]
      have hfi : f.fFirst = p := by rw [hf]
      exact ⟨.inr hk, by omega, by omega, by omega, by omega, by omega, by omega, by unfold ownF; rw [if_neg hk2]; omega, by unfold ownF pagesF; rw [if_neg hk2, if_neg hk2]; omega, by omega⟩
theorem stride_pos (f : Found) : 0 < f.stride := Int.pow_pos (by decide)
/-- All that is found in a memory was found by a walk. -/
theorem whole_mem {ws : List Int} {n root : Int} : ∀ (k : Nat) (p : Int) (l : List Found), 0 ≤ p → wholeAt ws n root k p = some l → ∀ f ∈ l, (f.fKind = 2 ∨ f.fKind = 3) ∧ ∃ q, 0 ≤ q ∧ q < 4096 ∧ walkAt ws n q 4 0 root = some f := by
  intro k
  induction k with
  | zero => intro p l _ h; simp [wholeAt] at h
  | succ k ih =>
    intro p l p0 h f hf
    unfold wholeAt at h
    split at h
    · rename_i p1
      split at h
      · cases h
      · rename_i g hg
        rw [Option.map_eq_some_iff] at h
        obtain ⟨l', h1, h2⟩ := h
        have hst := stride_pos g
        split at h2
        · rename_i hl
          rw [← h2] at hf
          rcases List.mem_cons.1 hf with rfl | hf
          · exact ⟨by simpa [Found.leaf] using hl, p, p0, p1, hg⟩
          · exact ih _ _ (by omega) h1 f hf
        · rw [← h2] at hf
          exact ih _ _ (by omega) h1 f hf
    · cases h; cases hf
theorem whole_ok {ws : List Int} {n root : Int} {k : Nat} {l : List Found} (h : wholeAt ws n root k 0 = some l) : ∀ f ∈ l, FOk f := by
  intro f hf
  obtain ⟨hl, q, q0, q1, hw⟩ := whole_mem k 0 l (by omega) h f hf
  exact walk_ok q0 q1 hw hl

/-- Leaves, or what is amiss. -/
inductive LeavesR where
  | yes (l : List Found)
  | no (k : Nat)
def LeavesRet (B : Nat) (w' : World) (r : LeavesR) (e : Ending) : Prop := match r with
  | .yes l => ∃ a cap, e = .returned (.tuple #[.slice a l.length cap, .nilIface]) ∧ w'.ownsRow B 53 11 (.slice a l.length cap) l.length (l.map Found.cells).flatten
  | .no k => e = .returned (.tuple #[.slice none 0 0, errW k])
theorem leavesRet_yes {B B' n : Nat} {w' : World} {r : LeavesR} {s : List Found} {v : Value} {xs : List Value} (hr : r = .yes s) (h : w'.ownsRow B' 53 11 v n xs) (hb : B ≤ B') (hn : n = s.length) (hx : xs = (s.map Found.cells).flatten) : LeavesRet B w' r (.returned (.tuple #[v, .nilIface])) := by
  obtain ⟨a, cap, rfl⟩ := own_form h
  subst hn hx hr
  exact ⟨a, cap, rfl, own_low h hb⟩
def inF (a b : Int) (f : Found) : Bool := decide (ownF f < b) && decide (a < ownF f + pagesF f)
def leavesRes (ws : List Int) (n : Nat) (root a b : Int) : LeavesR :=
  if a < 0 ∨ b ≤ a ∨ 4096 < b then .no 1 else if ¬ (0 ≤ root ∧ root < n) then .no 1 else match wholeAt ws n root 4097 0 with
    | none => .no 2
    | some l => .yes (l.filter (inF a b))
theorem filter_snoc {α : Type} (p : α → Bool) (l : List α) (x : α) : (l ++ [x]).filter p = l.filter p ++ (if p x then [x] else []) := by
  rw [List.filter_append]
  congr 1
  cases h : p x <;> simp [h]

end Go.Proofs.Ythcdecgecabgaaa

/- The contracts of plan.whole, plan.write, plan.away, plan.Clear. -/
namespace Go.Proofs.Ythcdecgecabgaaa
open Go.RowKit
set_option linter.unusedVariables false
set_option linter.unusedSimpArgs false
attribute [local go_sem] setCell_drewN alloc_drewN lt_moreE le_moreE lt_moreK le_moreK cell_more frozen_more set_more drew_more drewN_more

/-- Has a leaf's block, or folded run, a page beyond some pages? -/
def powF (f : Found) : Int := if f.fOrder = 3 then 8 else if f.fOrder = 2 then 4 else 1
def beyF (a b : Int) (f : Found) : Bool := decide (f.fFirst < a) || decide (b < f.fFirst + powF f)
def wholeRes (asid a b : Int) : LeavesR → LeavesR
  | .no k => .no k
  | .yes l => if asid < 0 ∨ 255 < asid then .no 1 else if l.any (beyF a b) then .no 7 else .yes l
def LeavesOk (r : LeavesR) : Prop := ∀ l, r = .yes l → l.length ≤ 5000 ∧ ∀ f ∈ l, FOk f
theorem leaves_ok (ws : List Int) (n : Nat) (root a b : Int) : LeavesOk (leavesRes ws n root a b) := by
  intro l hl
  unfold leavesRes at hl
  split at hl
  · cases hl
  · split at hl
    · cases hl
    · split at hl
      · cases hl
      · rename_i l' hres
        cases hl
        have hlen := wholeAt_len 4097 0 l' (by omega) hres
        have := List.length_filter_le (inF a b) l'
        exact ⟨by omega, fun f hf => whole_ok hres f (List.mem_filter.1 hf).1⟩

def wrF (asid v : Int) (f : Found) : Step := ⟨1, asid, f.fLevel, f.fTable, f.fPlace, ownF f, v, 0, 0, 0⟩
end Go.Proofs.Ythcdecgecabgaaa

/- The contracts of plan.away, plan.Clear. -/
namespace Go.Proofs.Ythcdecgecabgaaa
open Go.RowKit
set_option linter.unusedVariables false
set_option linter.unusedSimpArgs false
attribute [local go_sem] setCell_drewN alloc_drewN lt_moreE le_moreE lt_moreK le_moreK cell_more frozen_more set_more drew_more drewN_more

/-- The steps that tell a leaf's pages. -/
def tellF (asid : Int) (f : Found) : List Step := tellsN asid (ownF f) (pagesF f).toNat
def tellA (asid : Int) (l : List Found) : List Step := (l.map (tellF asid)).flatten
def awayL (asid : Int) (l : List Found) : List Step := l.map (wrF asid 0) ++ tellA asid l
theorem tellF_len (asid : Int) (f : Found) : (tellF asid f).length ≤ 8 := by unfold tellF pagesF; rw [tellsN_len]; split <;> decide
theorem tellA_snoc (asid : Int) (l : List Found) (f : Found) : tellA asid (l ++ [f]) = tellA asid l ++ tellF asid f := by simp [tellA]
theorem tellA_len (asid : Int) : ∀ l : List Found, (tellA asid l).length ≤ 8 * l.length := by
  intro l
  induction l with
  | nil => simp [tellA]
  | cons x t ih => have := tellF_len asid x; simp only [tellA, List.map_cons, List.flatten_cons, List.length_append, List.length_cons] at ih ⊢; omega

/-- The cells of a block of eleven. -/
theorem cellsF {w : World} {n : Nat} {T : TypeId} {a0 a1 a2 a3 a4 a5 a6 a7 a8 a9 a10 : Value} (h : w.heap[n]? = some (.cells #[a0, a1, a2, a3, a4, a5, a6, a7, a8, a9, a10] T (0, 0))) :
    w.cell? ⟨n, 0, none⟩ = some a0 ∧ w.cell? ⟨n, 1, none⟩ = some a1 ∧ w.cell? ⟨n, 2, none⟩ = some a2 ∧ w.cell? ⟨n, 3, none⟩ = some a3 ∧ w.cell? ⟨n, 4, none⟩ = some a4 ∧ w.cell? ⟨n, 5, none⟩ = some a5 ∧ w.cell? ⟨n, 6, none⟩ = some a6 ∧ w.cell? ⟨n, 7, none⟩ = some a7 ∧ w.cell? ⟨n, 8, none⟩ = some a8 ∧ w.cell? ⟨n, 9, none⟩ = some a9 ∧ w.cell? ⟨n, 10, none⟩ = some a10 ∧ n < w.heap.size := by
  have key := fun i => cell_of_row w n i _ _ _ h
  exact ⟨key 0, key 1, key 2, key 3, key 4, key 5, key 6, key 7, key 8, key 9, key 10, (Array.getElem?_eq_some_iff.1 h).1⟩

theorem ne_of_blk {w : World} {v v' : Value} {wb : Nat} {ob : Obj} (hb : w.heap[wb]? = some ob) (hne : v.ownBlock ≠ some wb) (blk : v'.ownBlock = v.ownBlock ∨ ∃ g, v'.ownBlock = some g ∧ w.heap.size ≤ g) : v'.ownBlock ≠ some wb := by
  rcases blk with e | ⟨g, e, hg⟩
  · rw [e]; exact hne
  · rw [e]
    intro h
    cases h
    have := (Array.getElem?_eq_some_iff.1 hb).1
    omega

def clearRes (asid : Int) : LeavesR → StepsR
  | .no k => .no k
  | .yes l => .yes (awayL asid l)
theorem whole_ok2 {asid a b : Int} {R Q : LeavesR} (h : LeavesOk R) (hQ : wholeRes asid a b R = Q) : LeavesOk Q := by
  intro l hl
  subst hl
  cases R with
  | no k => cases hQ
  | yes l' =>
    unfold wholeRes at hQ
    dsimp only at hQ
    split at hQ
    · cases hQ
    · split at hQ
      · cases hQ
      · cases hQ; exact h _ rfl
end Go.Proofs.Ythcdecgecabgaaa
