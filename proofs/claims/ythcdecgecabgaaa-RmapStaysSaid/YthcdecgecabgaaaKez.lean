/- Maps keyed by a struct of two numbers: the walk's laws of a range, a store; one block turned. -/
import Derived.Test.YthcdecgecabgaaaKey
import Derived.Maps.RangeWalk
namespace Go.Proofs.Ythcdecgecabgaaa
open Go.RowKit
open Go.ChangeMaps (setBlock)
set_option linter.unusedVariables false
set_option linter.unusedSimpArgs false

theorem heap_setBlock (w : World) (b : Nat) (o : Obj) (k : Nat) : (setBlock w b o).heap[k]? = if k = b ∧ b < w.heap.size then some o else w.heap[k]? := by
  unfold setBlock
  rw [Array.getElem?_setIfInBounds]
  by_cases h : b = k
  · subst h
    by_cases h2 : b < w.heap.size
    · simp [h2]
    · simp [h2]
  · rw [if_neg h, if_neg (fun hh => h hh.1.symm)]
theorem grow_setBlock (w : World) (b : Nat) (o : Obj) : w.grownBy (setBlock w b o) (some b) :=
  ⟨rfl, rfl, rfl, by simp [setBlock], fun i hi e => by rw [heap_setBlock, if_neg (fun hh => e (by rw [hh.1]))]⟩
theorem ext_grow {W w w' : World} {g : Nat} (h : Ext W w) (k : w.grownBy w' (some g)) (hg : W.heap.size ≤ g) : Ext W w' := .of (grow_new h.grow k hg)

section
variable {P : Program} {w : World} {ops : Array Oper} {rest : List Oper} {o : Oper} {a : Act} {Q : Exit → Act → World → Prop}
/-- 'range m'. -/
theorem wpList_range2 (hg : o.guard = none) (m : Operand) (t k e : TypeId) (hop : o.op = Op.range t m) (ht : P.underlying t = some (.map k e)) (mb : Nat) (es : Array MapEntry) (clock : Nat) (hm : a.eval m = .map (some mb)) (hb : w.heap[mb]? = some (.map es clock))
    (h : wpList P ops Q rest (a.put o.dst (.pointer (some ⟨w.heap.size, 0, none⟩))) (w.alloc (.mapIter (some mb) clock #[] clock))) : wpList P ops Q (o :: rest) a w := by
  refine wpList_plain hg fun K' hK' => ?_
  unfold Oper.wp
  simp [execOp, hop, hm, run_range_map w t k e mb es clock ht hb, Result.andThen]
  exact hK' _ _ h
/-- m[key] = value, keyed by a struct of two numbers. -/
theorem wpList_update2 (hg : o.guard = none) (m x v : Operand) (t k e : TypeId) (hop : o.op = Op.mapUpdate t m x v) (K : Key2 P k) (ht : P.underlying t = some (.map k e)) (mb : Nat) (l : List KE) (clock : Nat) (p q : Int) (val : Value) (hm : a.eval m = .map (some mb)) (hx : a.eval x = key2 p q) (hv : a.eval v = val) (hb : w.heap[mb]? = some (.map (entsK l) clock))
    (h : wpList P ops Q rest (a.put o.dst undef) (setBlock w mb (.map (entsK (setK p q val clock l)) (clockK p q clock l)))) : wpList P ops Q (o :: rest) a w := by
  refine wpList_plain hg fun K' hK' => ?_
  unfold Oper.wp
  simp [execOp, hop, hm, hx, hv, run_update2 w mb l clock K ht hb p q val, Result.andThen]
  exact hK' _ _ h
/-- An entry that the loop's step hands out. -/
structure Came (P : Program) (w w2 : World) (r mb since clock : Nat) (seen : Array Nat) (l : List KE) (e : KE) : Prop where
  mem : e ∈ l
  new : e.born ∉ seen.toList
  iter : w2.heap[r]? = some (.mapIter (some mb) since (seen.push e.born) clock)
  oth : ∀ (k : Nat) (ob : Obj), w.heap[k]? = some ob → k ≠ r → w2.heap[k]? = some ob
  grow : w.grownBy w2 (some r)
  entry : (Instr.entry (.pointer (some ⟨r, 0, none⟩))).run P w2 = .ok (.tuple #[key2 e.a e.b, e.val]) w2
def AllSeen (l : List KE) (seen : Array Nat) : Prop := ∀ e ∈ l, e.born ∈ seen.toList
def Fresh2 (l : List KE) (since : Nat) : Prop := (∀ e ∈ l, e.born < since) ∧ (l.map KE.born).Nodup
/-- The loop's step: nothing is left, or an entry comes. -/
theorem wpList_next2 (hg : o.guard = none) (it : Operand) (hop : o.op = Op.next it false) (r mb since : Nat) (seen : Array Nat) (l : List KE) (clock : Nat) (hit : a.eval it = .pointer (some ⟨r, 0, none⟩))
    (hr : w.heap[r]? = some (.mapIter (some mb) since seen clock)) (hb : w.heap[mb]? = some (.map (entsK l) clock)) (hf : Fresh2 l since) (hsc : since ≤ clock)
    (hDone : AllSeen l seen → wpList P ops Q rest (a.put o.dst (.tuple #[.bool false])) w)
    (hMore : ∀ (e : KE) (w2 : World), Came P w w2 r mb since clock seen l e → wpList P ops Q rest (a.put o.dst (.tuple #[.bool true, key2 e.a e.b, e.val])) w2) : wpList P ops Q (o :: rest) a w := by
  have hold : ∀ x ∈ (entsK l).toList, x.born < since := by
    intro x hx
    unfold entsK at hx
    rw [List.toList_toArray] at hx
    obtain ⟨e, he, rfl⟩ := List.mem_map.1 hx
    exact hf.1 e he
  have hn : ((entsK l).toList.map (·.born)).Nodup := by
    unfold entsK
    rw [List.toList_toArray, List.map_map]
    exact hf.2
  refine wpList_plain hg fun K' hK' => ?_
  unfold Oper.wp
  rcases run_next_at (P := P) w o.type r mb since clock seen (entsK l) clock hr hb hold hsc with ⟨h0, hrun⟩ | ⟨e, he, w1, hw1, hrun⟩
  · simp [execOp, hop, hit, hrun, Result.andThen]
    refine hK' _ _ (hDone fun x hx => ?_)
    have hl : leftOf (entsK l) seen = #[] := Array.eq_empty_of_size_eq_zero h0
    unfold leftOf at hl
    rw [Array.filter_eq_empty_iff] at hl
    have := hl x.ent (by unfold entsK; simpa using ⟨x, hx, rfl⟩)
    simpa [KE.ent] using this
  · simp [execOp, hop, hit, hrun, Result.andThen]
    have hel : e ∈ (entsK l).toList ∧ e.born ∉ seen.toList := by
      unfold leftOf at he
      simpa using he
    have hmr : mb ≠ r := by intro e2; subst e2; rw [hr] at hb; cases hb
    have hrl : r < w1.heap.size := by have := (Array.getElem?_eq_some_iff.1 hr).1; rcases hw1 with rfl | rfl <;> simpa using this
    have hb1 : w1.heap[mb]? = some (.map (entsK l) clock) := by rcases hw1 with rfl | rfl <;> exact hb
    have hen := run_entry_at (P := P) (setBlock w1 r (.mapIter (some mb) since (seen.push e.born) clock)) r mb since seen (entsK l) clock e (by rw [heap_setBlock, if_pos ⟨rfl, hrl⟩]) (by rw [heap_setBlock, if_neg (fun hh => hmr hh.1)]; exact hb1) hel.1 hn
    obtain ⟨h1, h2⟩ := hel
    unfold entsK at h1
    rw [List.toList_toArray] at h1
    obtain ⟨x, hx, rfl⟩ := List.mem_map.1 h1
    refine hK' _ _ (hMore x _ ⟨hx, h2, by rw [heap_setBlock, if_pos ⟨rfl, hrl⟩]; rfl, fun k ob hk hne => ?_, ?_, hen⟩)
    · rw [heap_setBlock, if_neg (fun hh => hne hh.1)]
      rcases hw1 with rfl | rfl <;> exact hk
    · rcases hw1 with rfl | rfl
      · exact grow_setBlock _ r _
      · exact grow_trans (grow_drew (grow_refl _ _)) (grow_setBlock _ r _)
end

theorem part_int (w : World) (xs : Array Value) (i : Nat) (x : Int) (h : xs[i]? = some (.int .i64 x)) : (part 3 xs i).run Try.prog w = .ok (.int .i64 x) w := by
  simp [part, isAgg, run_underlying Try.underlying3, h]
end Go.Proofs.Ythcdecgecabgaaa
