/- Path, Prune, Tables and Need of any arguments whatever; no number twice in a list. -/
import Derived.Test.YtapeoeakiphfpaaPruns
import Derived.Test.YtapeoeakiphfpaaSemw
namespace Go.Proofs.Ytapeoeakiphfpaa
open Go.RowKit
set_option linter.unusedVariables false
set_option linter.unusedSimpArgs false
attribute [local go_sem] setCell_drewN alloc_drewN lt_moreE le_moreE lt_moreK le_moreK cell_more frozen_more set_more drew_more drewN_more

def tabsQ (ws : List Int) (n : Nat) (root : Int) : Option (List Int) := if 0 ≤ root ∧ root < n then tabsAt ws n 4 0 root else none
def TabsQ (B : Nat) (w' : World) (r : Option (List Int)) (e : Ending) : Prop := match r with
  | some s => ∃ a cap, e = .returned (.tuple #[.slice a s.length cap, .nilIface]) ∧ w'.ownsRow B 3 1 (.slice a s.length cap) s.length (s.map intC).flatten
  | none => ∃ k : Nat, e = .returned (.tuple #[.slice none 0 0, errW k])
theorem tree_TablesQ (w : World) {b g n c : Nat} {ws : List Int} (hm : MemAt w b g n c ws) (hw : WOk ws) (root : Int) (r : Option (List Int)) (hr : tabsQ ws n root = r) :
    Calls Try.prog 34 #[.pointer (some ⟨b, 0, none⟩), .int .i64 root] w fun e w' => Ext w w' ∧ TabsQ w.heap.size w' r e := by
  unfold tabsQ at hr
  by_cases h : 0 ≤ root ∧ root < n
  · rw [if_pos h] at hr
    refine (tree_Tables w hm hw root h.1 h.2 r hr).mono fun e w' ⟨h1, h2⟩ => ⟨h1, ?_⟩
    cases r with
    | none => exact ⟨2, h2⟩
    | some s => exact h2
  · rw [if_neg h] at hr
    subst hr
    exact (tree_Tables_no w hm root h).mono fun e w' ⟨h1, h2⟩ => ⟨h1, 1, h2⟩
theorem tabsQ_some {ws : List Int} {n : Nat} {root : Int} {s : List Int} (h : tabsQ ws n root = some s) : 0 ≤ root ∧ root < n ∧ tabsAt ws n 4 0 root = some s := by
  unfold tabsQ at h
  split at h
  · rename_i h1; exact ⟨h1.1, h1.2, h⟩
  · cases h
def pathQ (ws : List Int) (n : Nat) (root asid page level : Int) (fresh : List Int) : PathR :=
  if 0 ≤ root ∧ root < n ∧ 0 ≤ page ∧ page < 4096 ∧ 1 ≤ level ∧ level < 4 then pathRes n asid page level.toNat fresh (wayAt ws n page (level.toNat + 1) 0 root) else .no 1
theorem tree_PathQ (w : World) {b g n c : Nat} {ws : List Int} (hm : MemAt w b g n c ws) (hw : WOk ws) (root asid page level : Int) (fresh : List Int) (v : Value) (hv : SlRd w v 1 (fresh.map intCells)) (hfl : fresh.length ≤ 1000) (R : PathR) (hR : pathQ ws n root asid page level fresh = R) :
    Calls Try.prog 35 #[.pointer (some ⟨b, 0, none⟩), .int .i64 root, .int .i64 asid, .int .i64 page, .int .i64 level, v] w fun e w' => Ext w w' ∧ PathRet w.heap.size w' R e := by
  unfold pathQ at hR
  by_cases h : 0 ≤ root ∧ root < n ∧ 0 ≤ page ∧ page < 4096 ∧ 1 ≤ level ∧ level < 4
  · rw [if_pos h] at hR
    obtain ⟨L, rfl⟩ := Int.eq_ofNat_of_zero_le (show 0 ≤ level by omega)
    exact tree_PathR w hm hw root asid page L (by omega) (by omega) (by omega) (by omega) (by omega) (by omega) fresh v hv hfl _ rfl R hR
  · rw [if_neg h] at hR
    subst hR
    exact tree_Path_no w hm root asid page level v h
theorem pathQ_yes {ws : List Int} {n : Nat} {root asid page level : Int} {fresh : List Int} {st : List Step} {t : Int × Int} (h : pathQ ws n root asid page level fresh = .yes st t) :
    ∃ L : Nat, level = L ∧ 0 ≤ root ∧ root < n ∧ 0 ≤ page ∧ page < 4096 ∧ 1 ≤ L ∧ L < 4 ∧ pathRes n asid page L fresh (wayAt ws n page (L + 1) 0 root) = .yes st t := by
  unfold pathQ at h
  split at h
  · rename_i h1
    obtain ⟨L, rfl⟩ := Int.eq_ofNat_of_zero_le (show 0 ≤ level by omega)
    exact ⟨L, rfl, by omega, by omega, by omega, by omega, by omega, by omega, h⟩
  · cases h
def pruneQ (ws : List Int) (n : Nat) (root asid page : Int) : PruneR :=
  if 0 ≤ root ∧ root < n ∧ 0 ≤ page ∧ page < 4096 then pruneRes ws asid page (wayAt ws n page 4 0 root) else .no 1
theorem tree_PruneQ (w : World) {b g n c : Nat} {ws : List Int} (hm : MemAt w b g n c ws) (hw : WOk ws) (root asid page : Int) (R : PruneR) (hR : pruneQ ws n root asid page = R) :
    Calls Try.prog 40 #[.pointer (some ⟨b, 0, none⟩), .int .i64 root, .int .i64 asid, .int .i64 page] w fun e w' => Ext w w' ∧ PruneRet w.heap.size w' R e := by
  unfold pruneQ at hR
  by_cases h : 0 ≤ root ∧ root < n ∧ 0 ≤ page ∧ page < 4096
  · rw [if_pos h] at hR
    subst hR
    exact tree_Prune w hm hw root asid page h.1 h.2.1 h.2.2.1 h.2.2.2 _ rfl
  · rw [if_neg h] at hR
    subst hR
    exact tree_Prune_no w hm root asid page h
theorem pruneQ_yes {ws : List Int} {n : Nat} {root asid page : Int} {st : List Step} {gone : List Int} (h : pruneQ ws n root asid page = .yes st gone) :
    0 ≤ root ∧ root < n ∧ 0 ≤ page ∧ page < 4096 ∧ pruneRes ws asid page (wayAt ws n page 4 0 root) = .yes st gone := by
  unfold pruneQ at h
  split at h
  · rename_i h1; exact ⟨h1.1, h1.2.1, h1.2.2.1, h1.2.2.2, h⟩
  · cases h
/-- No two of the first k are the same. -/
def Unlike (l : List Int) (k : Nat) : Prop := ∀ i j : Nat, i < j → j < k → l.getD i 0 ≠ l.getD j 0
/-- The k-th is none of the first q. -/
def UnlikeAt (l : List Int) (k q : Nat) : Prop := ∀ i : Nat, i < q → l.getD i 0 ≠ l.getD k 0
theorem unlike_zero (l : List Int) : Unlike l 0 := fun i j _ h => absurd h (by omega)
theorem unlikeAt_zero (l : List Int) (k : Nat) : UnlikeAt l k 0 := fun i h => absurd h (by omega)
theorem unlikeAt_succ {l : List Int} {k q : Nat} (h : UnlikeAt l k q) (hne : l.getD q 0 ≠ l.getD k 0) : UnlikeAt l k (q + 1) := by
  intro i hi
  by_cases e : i = q
  · subst e; exact hne
  · exact h i (by omega)
theorem unlike_succ {l : List Int} {k : Nat} (h : Unlike l k) (hk : UnlikeAt l k k) : Unlike l (k + 1) := by
  intro i j hij hj
  by_cases e : j = k
  · subst e; exact hk i hij
  · exact h i j hij (by omega)
theorem unlike_nodup {l : List Int} (h : Unlike l l.length) : l.Nodup := by
  rw [List.nodup_iff_pairwise_ne, List.pairwise_iff_getElem]
  intro i j hi hj hij
  have := h i j hij hj
  simpa [List.getD, List.getElem?_eq_getElem hi, List.getElem?_eq_getElem hj] using this
theorem ints_cell {w : World} {B n cap : Nat} {a : Option Addr} {l : List Int} (h : w.ownsRow B 3 1 (.slice a n cap) n (l.map intC).flatten) (hn : 0 < n) (hl : n = l.length) : ∃ g, a = some ⟨g, 0, none⟩ ∧ B ≤ g ∧ g < w.heap.size ∧ n ≤ cap ∧ cap ≤ maxLen ∧ ∀ i, i < n → w.cell? ⟨g, i, none⟩ = some (.int .i64 (l.getD i 0)) := by
  have hc := own_cap h
  obtain ⟨g, rfl, h1, h2, h3, h4, _⟩ := own_at h hn
  refine ⟨g, rfl, h1, h2, h3, hc.2.2, fun i hi => h4 i _ (flat_one (fun x => Value.int .i64 x) l i _ ?_)⟩
  rw [List.getElem?_eq_getElem (by omega)]
  simp [List.getD, List.getElem?_eq_getElem (show i < l.length by omega)]

end Go.Proofs.Ytapeoeakiphfpaa
