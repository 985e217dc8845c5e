/- More laws of the walk on slices: a row appended to a row; a literal; the empty slice appended. -/
import Derived.Test.YthcdecgecabgaaaMore
import Derived.Laws.AppendOwnNone
namespace Go.Proofs.Ythcdecgecabgaaa
open Go.RowKit
set_option linter.unusedVariables false
set_option linter.unusedSimpArgs false

/-- A slice that was just written out. -/
theorem own_lit (w : World) (cs : Array Value) (T : TypeId) (m sz : Nat) (h : cs.size = m * sz) (hm : m ≤ maxLen) : (w.alloc (.cells cs T)).ownsRow w.heap.size T sz (.slice (some ⟨w.heap.size, 0, none⟩) m m) m cs.toList :=
  ⟨by simpa using h, .inr ⟨w.heap.size, m, cs, rfl, Nat.le_refl _, heap_alloc_new w _, Nat.le_refl _, hm, h, List.take_of_length_le (by simp; omega)⟩⟩

/-- A row of the call's own, of at least one element, is appended to another one. -/
theorem wpList_append_row {P : Program} (W : World) {w : World} {ops : Array Oper} {rest : List Oper} {o : Oper} {a : Act} {Q : Exit → Act → World → Prop} {t e : TypeId} {z : Value} {size bytes : Nat} (el : ElemAt P t e z size bytes)
    (hgd : o.guard = none) (s x : Operand) (ho : o.op = .call { callee := .builtin .append, args := #[s, x], argTypes := #[t, t] })
    (v : Value) (n : Nat) (xs : List Value) (hs : a.eval s = v) (hown : w.ownsRow W.heap.size e size v n xs) (hW : Ext W w)
    (B2 : Nat) (v2 : Value) (m : Nat) (xs2 : List Value) (hx : a.eval x = v2) (hown2 : w.ownsRow B2 e size v2 m xs2) (hm : 1 ≤ m) (h1 : xs2.all Value.oneCell' = true) (hn : n + m ≤ 1000000)
    (h : ∀ v' x', Hid ((more W x').ownsRow W.heap.size e size v' (n + m) (xs ++ xs2)) → (∀ k ob, w.heap[k]? = some ob → v.ownBlock ≠ some k → (more W x').heap[k]? = some ob) → wpList P ops Q rest (a.put o.dst v') (more W x')) : wpList P ops Q (o :: rest) a w := by
  obtain ⟨i, hi, hz, h3, h4⟩ := info_parts el.info
  have hb : (n + m) * bytes ≤ 1000000 * 1000 := Nat.mul_le_mul hn el.small
  rcases hown2.2 with ⟨_, h0⟩ | ⟨g2, cap2, cur, rfl, _⟩
  · omega
  refine wpList_append_own w hgd s x t ho W.heap.size e i z size bytes el.sl hi hz h3 h4 el.zs el.pos v n xs hs hown ⟨g2, 0, none⟩ m cap2 xs2 hx hown2.1
    (hown2.cells (g := g2) rfl) (by intro u hu; exact List.all_eq_true.1 h1 u hu) (by unfold maxLen; omega) (by omega) hW.size ?_
  intro v' w' ho' hg' _
  obtain ⟨x', rfl⟩ := more_of_grow (grow_row hW.grow hown hg')
  exact h v' x' ho' fun k ob hk hne => (hg'.block k (Array.getElem?_eq_some_iff.1 hk).1 (fun e => hne e.symm)).trans hk
/-- As wpList_append_new, in a region that draws its order; the elements lie in a block that is known whole. -/
theorem step_append_new {P : Program} (W : World) {w : World} {ops : Array Oper} {o : Oper} {a : Act} {K : Act → World → Prop} {Q : Exit → Act → World → Prop} {E : Prop} {t e : TypeId} {z : Value} {size bytes : Nat} (el : ElemAt P t e z size bytes)
    (hgd : o.guard = none) (s x : Operand) (ho : o.op = .call { callee := .builtin .append, args := #[s, x], argTypes := #[t, t] })
    (v : Value) (n : Nat) (xs : List Value) (hs : a.eval s = v) (hown : w.ownsRow W.heap.size e size v n xs) (hW : Ext W w)
    (cs : Array Value) (T : TypeId) (m ad : Nat) (hx : a.eval x = .slice (some ⟨ad, 0, none⟩) m m) (hbox : w.heap[ad]? = some (.cells cs T (0, 0))) (hl : cs.size = m * size) (h1 : cs.toList.all Value.oneCell' = true) (hn : n + m ≤ 1000000)
    (h : ∀ v' x', Hid ((more W x').ownsRow W.heap.size e size v' (n + m) (xs ++ cs.toList)) → (∀ k ob, w.heap[k]? = some ob → v.ownBlock ≠ some k → (more W x').heap[k]? = some ob) → K (a.put o.dst v') (more W x')) :
    if Region.wanted o (yielded ops a.tmps) = true then Oper.wp P o a w K Q else E := by
  have hw : Region.wanted o (yielded ops a.tmps) = true := by simp [Region.wanted, hgd]
  rw [if_pos hw]
  obtain ⟨i, hi, hz, h3, h4⟩ := info_parts el.info
  have hb : (n + m) * bytes ≤ 1000000 * 1000 := Nat.mul_le_mul hn el.small
  refine wp_append_own w s x t ho W.heap.size e i z size bytes el.sl hi hz h3 h4 el.zs el.pos v n xs hs hown ⟨ad, 0, none⟩ m m cs.toList hx (by simpa using hl)
    (block_news' hbox) (by intro u hu; exact List.all_eq_true.1 h1 u hu) (by unfold maxLen; omega) (by omega) hW.size ?_
  intro v' w' ho' hg' _
  obtain ⟨x', rfl⟩ := more_of_grow (grow_row hW.grow hown hg')
  exact h v' x' ho' fun k ob hk hne => (hg'.block k (Array.getElem?_eq_some_iff.1 hk).1 (fun e => hne e.symm)).trans hk
/-- A row of the call's own, empty or not, is appended to another one. -/
theorem wpList_append_any {P : Program} (W : World) {w : World} {ops : Array Oper} {rest : List Oper} {o : Oper} {a : Act} {Q : Exit → Act → World → Prop} {t e : TypeId} {z : Value} {size bytes : Nat} (el : ElemAt P t e z size bytes)
    (hgd : o.guard = none) (s x : Operand) (ho : o.op = .call { callee := .builtin .append, args := #[s, x], argTypes := #[t, t] })
    (v : Value) (n : Nat) (xs : List Value) (hs : a.eval s = v) (hown : w.ownsRow W.heap.size e size v n xs) (hW : Ext W w)
    (B2 : Nat) (v2 : Value) (m : Nat) (xs2 : List Value) (hx : a.eval x = v2) (hown2 : w.ownsRow B2 e size v2 m xs2) (h1 : xs2.all Value.oneCell' = true) (hn : n + m ≤ 1000000)
    (h : ∀ v' x', Hid ((more W x').ownsRow W.heap.size e size v' (n + m) (xs ++ xs2)) → (∀ k ob, w.heap[k]? = some ob → v.ownBlock ≠ some k → (more W x').heap[k]? = some ob) → wpList P ops Q rest (a.put o.dst v') (more W x')) : wpList P ops Q (o :: rest) a w := by
  by_cases hv : v2 = .slice none 0 0
  · subst hv
    obtain ⟨i, hi, _⟩ := info_parts el.info
    have hm : m = 0 := by
      rcases hown2.2 with ⟨_, h0⟩ | ⟨g2, cap2, cur, h0, _⟩
      · exact h0
      · cases h0
    subst hm
    have hxs : xs2 = [] := List.eq_nil_of_length_eq_zero (by simpa using hown2.1)
    subst hxs
    obtain ⟨x', rfl⟩ := hW
    refine wpList_append_own_none hgd s x t ho W.heap.size e i size el.sl hi v n xs hs hown hx ?_
    exact h v x' (show World.ownsRow _ _ _ _ _ _ _ by simpa using hown) (fun k ob hk _ => hk)
  · obtain ⟨i, hi, hz, h3, h4⟩ := info_parts el.info
    have hb : (n + m) * bytes ≤ 1000000 * 1000 := Nat.mul_le_mul hn el.small
    rcases hown2.2 with ⟨h0, _⟩ | ⟨g2, cap2, cur, rfl, _⟩
    · exact absurd h0 hv
    refine wpList_append_own w hgd s x t ho W.heap.size e i z size bytes el.sl hi hz h3 h4 el.zs el.pos v n xs hs hown ⟨g2, 0, none⟩ m cap2 xs2 hx hown2.1
      (hown2.cells (g := g2) rfl) (by intro u hu; exact List.all_eq_true.1 h1 u hu) (by unfold maxLen; omega) (by omega) hW.size ?_
    intro v' w' ho' hg' _
    obtain ⟨x', rfl⟩ := more_of_grow (grow_row hW.grow hown hg')
    exact h v' x' ho' fun k ob hk hne => (hg'.block k (Array.getElem?_eq_some_iff.1 hk).1 (fun e => hne e.symm)).trans hk
/-- A contract's row, its base lowered. -/
theorem all_flat {α β : Type} (f : α → List β) (p : β → Bool) (h : ∀ a, (f a).all p = true) (l : List α) : (l.map f).flatten.all p = true := by
  induction l with
  | nil => rfl
  | cons a t ih => simp only [List.map_cons, List.flatten_cons, List.all_append, h a, ih, Bool.and_self]

/-- An element of a row of the call's own. -/
theorem own_at {w : World} {B sz n cap : Nat} {E : TypeId} {a : Option Addr} {xs : List Value} (h : w.ownsRow B E sz (.slice a n cap) n xs) (hn : 0 < n) : ∃ g, a = some ⟨g, 0, none⟩ ∧ B ≤ g ∧ g < w.heap.size ∧ n ≤ cap ∧ (∀ i u, xs[i]? = some u → w.cell? ⟨g, i, none⟩ = some u) ∧ ∀ i, w.frozen? ⟨g, i, none⟩ = false := by
  rcases h.2 with ⟨h1, h2⟩ | ⟨g, cap', cur, h1, h2, h3, h4, h5, h6, h7⟩
  · omega
  · simp only [Value.slice.injEq] at h1
    obtain ⟨rfl, _, rfl⟩ := h1
    refine ⟨g, rfl, h2, (Array.getElem?_eq_some_iff.1 h3).1, h4, fun i u hu => ?_, fun i => frozen_of_row _ _ _ _ _ h3⟩
    rw [cell_of_row w g i _ _ _ h3]
    rw [← h7, List.getElem?_take] at hu
    split at hu
    · simpa using hu
    · cases hu
theorem own_cap {w : World} {B sz n cap m : Nat} {E : TypeId} {a : Option Addr} {xs : List Value} (h : w.ownsRow B E sz (.slice a m cap) n xs) : m = n ∧ n ≤ cap ∧ cap ≤ maxLen := by
  rcases h.2 with ⟨h1, h2⟩ | ⟨g, cap', cur, h1, h2, h3, h4, h5, h6, h7⟩
  · simp only [Value.slice.injEq] at h1
    omega
  · simp only [Value.slice.injEq] at h1
    omega
theorem flat_one {α : Type} (f : α → Value) (l : List α) (i : Nat) (x : α) (h : l[i]? = some x) : ((l.map fun a => [f a]).flatten)[i]? = some (f x) := by
  have := flatten_at 1 (l.map fun a => [f a]) i 0 [f x] (f x) (by simp) (by simp [h]) rfl
  simpa using this

end Go.Proofs.Ythcdecgecabgaaa
