import Derived.Test.YthcdecgecabgaaaBPathpRefcRefd
import Derived.Test.YthcdecgecabgaaaBRefgCodeLawgNeed
/- The contracts of word.Down, tree.first, tree.table, tree.may, tree.Path. -/
namespace Go.Proofs.Ythcdecgecabgaaa
open Go.RowKit
set_option linter.unusedVariables false
set_option linter.unusedSimpArgs false
attribute [local go_sem] setCell_drewN alloc_drewN lt_moreE le_moreE lt_moreK le_moreK cell_more frozen_more set_more drew_more drewN_more

theorem and511 (p : Int) (h0 : 0 ≤ p) (h1 : p < 4096) : Go.bits .andNot .i64 p 511 = p - p % 512 := (and_low_i64 p 9 (by omega) h0 h1).2
theorem and63 (p : Int) (h0 : 0 ≤ p) (h1 : p < 4096) : Go.bits .andNot .i64 p 63 = p - p % 64 := (and_low_i64 p 6 (by omega) h0 h1).2

theorem word_may (w : World) (n k : Int) (h0 : 0 ≤ n) (h1 : n < 4096) (k0 : 0 ≤ k) (k1 : k ≤ 9) :
    Calls Try.prog 149 #[.int .i64 n, .int .i64 k] w fun e w' => e = .returned (.bool true) ∧ w' = w := by
  have g : n ≤ 1099511627776 := by omega
  have g2 : k ≤ 20 := by omega
  go_enter Try.func149, Try.ntmps149
  go_wp2_with fail
  go_ret
  exact ⟨by first | rfl | exact ret_bool (by simp; omega), rfl⟩
set_option maxHeartbeats 1000000 in
theorem word_Down (w : World) (page : Int) (l : Nat) (hl : l ≤ 3) (p0 : 0 ≤ page) (p1 : page < 4096) :
    Calls Try.prog 117 #[.int .i64 page, .int .i64 (3 * (3 - (l : Int)))] w fun e w' => e = .returned (.tuple #[.int .i64 (firstP page l), .nilIface]) ∧ w' = w := by
  have h9 := and511 page p0 p1
  have h6 := and63 page p0 p1
  have h3 := (and7 page p0 p1).2
  have h0 := (and0 page p0 p1).2
  have hls : l = 0 ∨ l = 1 ∨ l = 2 ∨ l = 3 := by omega
  clear hl
  have hs0 : spanL ((0 : Nat) : Int) = 512 := by decide
  have hs1 : spanL ((1 : Nat) : Int) = 64 := by decide
  have hs2 : spanL ((2 : Nat) : Int) = 8 := by decide
  have hs3 : spanL ((3 : Nat) : Int) = 1 := by decide
  have HS := Lib.hid (And.intro hs0 (And.intro hs1 (And.intro hs2 hs3)))
  clear hs0 hs1 hs2 hs3
  rcases hls with rfl | rfl | rfl | rfl
  · have HM := Lib.hid (word_may w page 9 p0 p1 (by omega) (by omega))
    show Calls _ _ #[.int .i64 page, .int .i64 9] _ _
    go_enter Try.func117, Try.ntmps117
    go_wp2_with fail
    refine HM.out.mono ?_
    rintro e w' ⟨rfl, rfl⟩
    go_wp2_with fail
    go_ret2
    exact ⟨by unfold firstP; rw [HS.out.1]; rfl, rfl⟩
  · have HM := Lib.hid (word_may w page 6 p0 p1 (by omega) (by omega))
    show Calls _ _ #[.int .i64 page, .int .i64 6] _ _
    go_enter Try.func117, Try.ntmps117
    go_wp2_with fail
    refine HM.out.mono ?_
    rintro e w' ⟨rfl, rfl⟩
    go_wp2_with fail
    go_ret2
    exact ⟨by unfold firstP; rw [HS.out.2.1]; rfl, rfl⟩
  · have HM := Lib.hid (word_may w page 3 p0 p1 (by omega) (by omega))
    show Calls _ _ #[.int .i64 page, .int .i64 3] _ _
    go_enter Try.func117, Try.ntmps117
    go_wp2_with fail
    refine HM.out.mono ?_
    rintro e w' ⟨rfl, rfl⟩
    go_wp2_with fail
    go_ret2
    exact ⟨by unfold firstP; rw [HS.out.2.2.1]; rfl, rfl⟩
  · have HM := Lib.hid (word_may w page 0 p0 p1 (by omega) (by omega))
    show Calls _ _ #[.int .i64 page, .int .i64 0] _ _
    go_enter Try.func117, Try.ntmps117
    go_wp2_with fail
    refine HM.out.mono ?_
    rintro e w' ⟨rfl, rfl⟩
    go_wp2_with fail
    go_ret2
    exact ⟨by unfold firstP; rw [HS.out.2.2.2]; simp, rfl⟩
/-- What Path tells. -/
inductive PathR where
  | yes (s : List Step) (at_ : Int × Int)
  | no (k : Nat)
def PathRet (B : Nat) (w' : World) (r : PathR) (e : Ending) : Prop := match r with
  | .yes s t => ∃ a cap, e = .returned (.tuple #[.slice a s.length cap, .agg #[.int .i64 t.1, .int .i64 t.2], .nilIface]) ∧ OwnS w' B (.slice a s.length cap) s
  | .no k => e = .returned (.tuple #[.slice none 0 0, .agg #[.int .i64 0, .int .i64 0], errW k])

theorem pathRet_yes {B B' n : Nat} {w' : World} {r : PathR} {s : List Step} {t : Int × Int} {v : Value} {xs : List Value} (hr : r = .yes s t) (h : w'.ownsRow B' 46 10 v n xs) (hb : B ≤ B') (hn : n = s.length) (hx : xs = (s.map Step.cells).flatten) : PathRet B w' r (.returned (.tuple #[v, .agg #[.int .i64 t.1, .int .i64 t.2], .nilIface])) := by
  obtain ⟨a, cap, rfl⟩ := own_form h
  subst hn hx hr
  exact ⟨a, cap, rfl, own_low h hb⟩
def lastS (s : List (Int × Int)) : Int × Int := s.getD (s.length - 1) (0, 0)
def goodF (n : Nat) (f : Int) : Bool := decide (0 ≤ f ∧ f < n)
def pathT (asid page : Int) (L : Nat) (fresh : List Int) (s : List (Int × Int)) : List Step × (Int × Int) := pathS asid page (s.length - 1) (lastS s).1 (lastS s).2 (fresh.take (L + 1 - s.length))
/-- What Path tells of a way. -/
def pathRes (n : Nat) (asid page : Int) (L : Nat) (fresh : List Int) : Option (List (Int × Int) × Desc) → PathR
  | none => .no 2
  | some (s, d) => if (0 : Int) < L + 1 - s.length ∧ d.fKind ≠ 0 then .no 7 else if asid < 0 ∨ 255 < asid then .no 1 else if fresh.all (goodF n) = false then .no 1
      else if fresh.length < L + 1 - s.length then .no 5 else .yes (pathT asid page L fresh s).1 (pathT asid page L fresh s).2
theorem all_bad {n : Nat} {l : List Int} {q : Nat} {f : Int} (h : l[q]? = some f) (hf : ¬ (0 ≤ f ∧ f < n)) : l.all (goodF n) = false := by
  cases ha : l.all (goodF n) with
  | false => rfl
  | true =>
    have := List.all_eq_true.1 ha f (List.mem_of_getElem? h)
    simp only [goodF, decide_eq_true_eq] at this
    exact absurd this hf
theorem all_good {n : Nat} {l : List Int} (h : ∀ (j : Nat) (f : Int), l[j]? = some f → 0 ≤ f ∧ f < n) : l.all (goodF n) = true := by
  refine List.all_eq_true.2 fun f hf => ?_
  obtain ⟨j, hj, rfl⟩ := List.getElem_of_mem hf
  exact decide_eq_true (h j _ (List.getElem?_eq_getElem hj))
theorem slot_at {w : World} {g : Nat} {l : List (Int × Int)} (h : ∀ i u, ((l.map slotC).flatten)[i]? = some u → w.cell? ⟨g, i, none⟩ = some u) (q : Nat) (f : Int × Int) (hq : l[q]? = some f) :
    w.cell? ⟨g, q * 2, none⟩ = some (.int .i64 f.1) ∧ w.cell? ⟨g, q * 2 + 1, none⟩ = some (.int .i64 f.2) := by
  have key := fun j u hj => h (q * 2 + j) u (flatten_at 2 (l.map slotC) q j (slotC f) u (by intro c hc; obtain ⟨z, _, rfl⟩ := List.mem_map.1 hc; rfl) (by simp [hq]) hj)
  exact ⟨key 0 _ rfl, key 1 _ rfl⟩

end Go.Proofs.Ythcdecgecabgaaa
