import Derived.Test.YtapeoeakiphfpaaBRefbFoldpMore
import Derived.Laws.AppendOwnNone
import Derived.Deep.RegionHeld3
/- More laws of the walk on slices: a row appended to a row; a literal; the empty slice appended. -/
namespace Go.Proofs.Ytapeoeakiphfpaa
open Go.RowKit
set_option linter.unusedVariables false
set_option linter.unusedSimpArgs false

/-- A slice that was just written out. -/
theorem own_lit (w : World) (cs : Array Value) (T : TypeId) (m sz : Nat) (h : cs.size = m * sz) (hm : m ≤ maxLen) : (w.alloc (.cells cs T)).ownsRow w.heap.size T sz (.slice (some ⟨w.heap.size, 0, none⟩) m m) m cs.toList :=
  ⟨by simpa using h, .inr ⟨w.heap.size, m, cs, rfl, Nat.le_refl _, heap_alloc_new w _, Nat.le_refl _, hm, h, List.take_of_length_le (by simp; omega)⟩⟩

/-- A row of the call's own, of at least one element, is appended to another one. -/
theorem wpList_append_row {P : Program} (W : World) {w : World} {ops : Array Oper} {rest : List Oper} {o : Oper} {a : Act} {Q : Exit → Act → World → Prop} {t e : TypeId} {z : Value} {size bytes : Nat} (el : ElemAt P t e z size bytes)
    (hgd : o.guard = none) (s x : Operand) (ho : o.op = .call { callee := .builtin .append, args := #[s, x], argTypes := #[t, t] })
    (v : Value) (n : Nat) (xs : List Value) (hs : a.eval s = v) (hown : w.ownsRow W.heap.size e size v n xs) (hW : Ext W w)
    (B2 : Nat) (v2 : Value) (m : Nat) (xs2 : List Value) (hx : a.eval x = v2) (hown2 : w.ownsRow B2 e size v2 m xs2) (hm : 1 ≤ m) (h1 : xs2.all Value.oneCell' = true) (hn : n + m ≤ 1000000)
    (h : ∀ v' x', Hid ((more W x').ownsRow W.heap.size e size v' (n + m) (xs ++ xs2)) → (∀ k ob, w.heap[k]? = some ob → v.ownBlock ≠ some k → (more W x').heap[k]? = some ob) → wpList P ops Q rest (a.put o.dst v') (more W x')) : wpList P ops Q (o :: rest) a w := by
  obtain ⟨i, hi, hz, h3, h4⟩ := info_parts el.info
  have hb : (n + m) * bytes ≤ 1000000 * 1000 := Nat.mul_le_mul hn el.small
  rcases hown2.2 with ⟨_, h0⟩ | ⟨g2, cap2, cur, rfl, _⟩
  · omega
  refine wpList_append_own w hgd s x t ho W.heap.size e i z size bytes el.sl hi hz h3 h4 el.zs el.pos v n xs hs hown ⟨g2, 0, none⟩ m cap2 xs2 hx hown2.1
    (hown2.cells (g := g2) rfl) (by intro u hu; exact List.all_eq_true.1 h1 u hu) (by unfold maxLen; omega) (by omega) hW.size ?_
  intro v' w' ho' hg' _
  obtain ⟨x', rfl⟩ := more_of_grow (grow_row hW.grow hown hg')
  exact h v' x' ho' fun k ob hk hne => (hg'.block k (Array.getElem?_eq_some_iff.1 hk).1 (fun e => hne e.symm)).trans hk
/-- As wpList_append_new, in a region that draws its order; the elements lie in a block that is known whole. -/
theorem step_append_new {P : Program} (W : World) {w : World} {ops : Array Oper} {o : Oper} {a : Act} {K : Act → World → Prop} {Q : Exit → Act → World → Prop} {E : Prop} {t e : TypeId} {z : Value} {size bytes : Nat} (el : ElemAt P t e z size bytes)
    (hgd : o.guard = none) (s x : Operand) (ho : o.op = .call { callee := .builtin .append, args := #[s, x], argTypes := #[t, t] })
    (v : Value) (n : Nat) (xs : List Value) (hs : a.eval s = v) (hown : w.ownsRow W.heap.size e size v n xs) (hW : Ext W w)
    (cs : Array Value) (T : TypeId) (m ad : Nat) (hx : a.eval x = .slice (some ⟨ad, 0, none⟩) m m) (hbox : w.heap[ad]? = some (.cells cs T (0, 0))) (hl : cs.size = m * size) (h1 : cs.toList.all Value.oneCell' = true) (hn : n + m ≤ 1000000)
    (h : ∀ v' x', Hid ((more W x').ownsRow W.heap.size e size v' (n + m) (xs ++ cs.toList)) → (∀ k ob, w.heap[k]? = some ob → v.ownBlock ≠ some k → (more W x').heap[k]? = some ob) → K (a.put o.dst v') (more W x')) :
    if Region.wanted o (yielded ops a.tmps) = true then Oper.wp P o a w K Q else E := by
  have hw : Region.wanted o (yielded ops a.tmps) = true := by simp [Region.wanted, hgd]
  rw [if_pos hw]
  obtain ⟨i, hi, hz, h3, h4⟩ := info_parts el.info
  have hb : (n + m) * bytes ≤ 1000000 * 1000 := Nat.mul_le_mul hn el.small
  refine wp_append_own w s x t ho W.heap.size e i z size bytes el.sl hi hz h3 h4 el.zs el.pos v n xs hs hown ⟨ad, 0, none⟩ m m cs.toList hx (by simpa using hl)
    (block_news' hbox) (by intro u hu; exact List.all_eq_true.1 h1 u hu) (by unfold maxLen; omega) (by omega) hW.size ?_
  intro v' w' ho' hg' _
  obtain ⟨x', rfl⟩ := more_of_grow (grow_row hW.grow hown hg')
  exact h v' x' ho' fun k ob hk hne => (hg'.block k (Array.getElem?_eq_some_iff.1 hk).1 (fun e => hne e.symm)).trans hk
/-- A row of the call's own, empty or not, is appended to another one. -/
theorem wpList_append_any {P : Program} (W : World) {w : World} {ops : Array Oper} {rest : List Oper} {o : Oper} {a : Act} {Q : Exit → Act → World → Prop} {t e : TypeId} {z : Value} {size bytes : Nat} (el : ElemAt P t e z size bytes)
    (hgd : o.guard = none) (s x : Operand) (ho : o.op = .call { callee := .builtin .append, args := #[s, x], argTypes := #[t, t] })
    (v : Value) (n : Nat) (xs : List Value) (hs : a.eval s = v) (hown : w.ownsRow W.heap.size e size v n xs) (hW : Ext W w)
    (B2 : Nat) (v2 : Value) (m : Nat) (xs2 : List Value) (hx : a.eval x = v2) (hown2 : w.ownsRow B2 e size v2 m xs2) (h1 : xs2.all Value.oneCell' = true) (hn : n + m ≤ 1000000)
    (h : ∀ v' x', Hid ((more W x').ownsRow W.heap.size e size v' (n + m) (xs ++ xs2)) → (∀ k ob, w.heap[k]? = some ob → v.ownBlock ≠ some k → (more W x').heap[k]? = some ob) → wpList P ops Q rest (a.put o.dst v') (more W x')) : wpList P ops Q (o :: rest) a w := by
  by_cases hv : v2 = .slice none 0 0
  · subst hv
    obtain ⟨i, hi, _⟩ := info_parts el.info
    have hm : m = 0 := by
      rcases hown2.2 with ⟨_, h0⟩ | ⟨g2, cap2, cur, h0, _⟩
      · exact h0
      · cases h0
    subst hm
    have hxs : xs2 = [] := List.eq_nil_of_length_eq_zero (by simpa using hown2.1)
    subst hxs
    obtain ⟨x', rfl⟩ := hW
    refine wpList_append_own_none hgd s x t ho W.heap.size e i size el.sl hi v n xs hs hown hx ?_
    exact h v x' (show World.ownsRow _ _ _ _ _ _ _ by simpa using hown) (fun k ob hk _ => hk)
  · obtain ⟨i, hi, hz, h3, h4⟩ := info_parts el.info
    have hb : (n + m) * bytes ≤ 1000000 * 1000 := Nat.mul_le_mul hn el.small
    rcases hown2.2 with ⟨h0, _⟩ | ⟨g2, cap2, cur, rfl, _⟩
    · exact absurd h0 hv
    refine wpList_append_own w hgd s x t ho W.heap.size e i z size bytes el.sl hi hz h3 h4 el.zs el.pos v n xs hs hown ⟨g2, 0, none⟩ m cap2 xs2 hx hown2.1
      (hown2.cells (g := g2) rfl) (by intro u hu; exact List.all_eq_true.1 h1 u hu) (by unfold maxLen; omega) (by omega) hW.size ?_
    intro v' w' ho' hg' _
    obtain ⟨x', rfl⟩ := more_of_grow (grow_row hW.grow hown hg')
    exact h v' x' ho' fun k ob hk hne => (hg'.block k (Array.getElem?_eq_some_iff.1 hk).1 (fun e => hne e.symm)).trans hk
/-- A contract's row, its base lowered. -/
theorem all_flat {α β : Type} (f : α → List β) (p : β → Bool) (h : ∀ a, (f a).all p = true) (l : List α) : (l.map f).flatten.all p = true := by
  induction l with
  | nil => rfl
  | cons a t ih => simp only [List.map_cons, List.flatten_cons, List.all_append, h a, ih, Bool.and_self]

/-- An element of a row of the call's own. -/
theorem own_at {w : World} {B sz n cap : Nat} {E : TypeId} {a : Option Addr} {xs : List Value} (h : w.ownsRow B E sz (.slice a n cap) n xs) (hn : 0 < n) : ∃ g, a = some ⟨g, 0, none⟩ ∧ B ≤ g ∧ g < w.heap.size ∧ n ≤ cap ∧ (∀ i u, xs[i]? = some u → w.cell? ⟨g, i, none⟩ = some u) ∧ ∀ i, w.frozen? ⟨g, i, none⟩ = false := by
  rcases h.2 with ⟨h1, h2⟩ | ⟨g, cap', cur, h1, h2, h3, h4, h5, h6, h7⟩
  · omega
  · simp only [Value.slice.injEq] at h1
    obtain ⟨rfl, _, rfl⟩ := h1
    refine ⟨g, rfl, h2, (Array.getElem?_eq_some_iff.1 h3).1, h4, fun i u hu => ?_, fun i => frozen_of_row _ _ _ _ _ h3⟩
    rw [cell_of_row w g i _ _ _ h3]
    rw [← h7, List.getElem?_take] at hu
    split at hu
    · simpa using hu
    · cases hu
theorem own_cap {w : World} {B sz n cap m : Nat} {E : TypeId} {a : Option Addr} {xs : List Value} (h : w.ownsRow B E sz (.slice a m cap) n xs) : m = n ∧ n ≤ cap ∧ cap ≤ maxLen := by
  rcases h.2 with ⟨h1, h2⟩ | ⟨g, cap', cur, h1, h2, h3, h4, h5, h6, h7⟩
  · simp only [Value.slice.injEq] at h1
    omega
  · simp only [Value.slice.injEq] at h1
    omega
theorem flat_one {α : Type} (f : α → Value) (l : List α) (i : Nat) (x : α) (h : l[i]? = some x) : ((l.map fun a => [f a]).flatten)[i]? = some (f x) := by
  have := flatten_at 1 (l.map fun a => [f a]) i 0 [f x] (f x) (by simp) (by simp [h]) rfl
  simpa using this

end Go.Proofs.Ytapeoeakiphfpaa

/- Several rows of the call's own, beside each other: what an append to one of them leaves of the others. -/
namespace Go.Proofs.Ytapeoeakiphfpaa
open Go.RowKit
set_option linter.unusedVariables false
set_option linter.unusedSimpArgs false

section
variable {P : Program} (w : World)
/-- As run_append_own, and which block the answer has. -/
theorem run_append_blk (base : Nat) (t ty e : TypeId) (i : TypeInfo) (z : Value) (size bytes : Nat) (ht : P.underlying t = some (.slice e)) (hi : P.info? e = some i) (hz : i.zero = some z)
    (hsize : i.size = size) (hby : i.bytes = bytes) (hzs : z.cells.size = size) (hsz : 0 < size)
    (v : Value) (n : Nat) (xs : List Value) (hown : w.ownsRow base e size v n xs)
    (a : Addr) (m c : Nat) (news : List Value) (hl : news.length = m * size) (hnews : ∀ j u, news[j]? = some u → w.cell? (a.add j) = some u) (h1 : ∀ u ∈ news, u.oneCell' = true)
    (h63 : n + m ≤ maxLen) (hbytes : (n + m) * bytes ≤ 140737488355328) (hbase : base ≤ w.heap.size) :
    ∃ v' w', (Builtin.append_ #[t, t] ty #[v, .slice (some a) m c]).run P w = .ok v' w' ∧ w'.ownsRow base e size v' (n + m) (xs ++ news) ∧ w.grownBy w' v.ownBlock ∧
      (v'.ownBlock = v.ownBlock ∨ v'.ownBlock = some w.heap.size) := by
  obtain ⟨v', w', hr, h2, h3, h4⟩ := run_append_own (P := P) w base t ty e i z size bytes ht hi hz hsize hby hzs hsz v n xs hown a m c news hl hnews h1 h63 hbytes hbase
  refine ⟨v', w', hr, h2, h3, ?_⟩
  subst hsize
  subst hby
  simp only [maxLen] at h63
  rcases hown.2 with ⟨rfl, rfl⟩ | ⟨g, cap, cur, rfl, hbg, hg, hnc, hcm, hcs, htake⟩
  · by_cases hm : m = 0
    · exact .inl (by rw [h4.2 ⟨rfl, hm⟩])
    · have hr' := run_append_nil (P := P) w t ty e i z ht hi hz a m c news hl hnews (by omega) (by omega) (by have hb := hbytes; simp only [Nat.zero_add] at hb; omega)
      rw [hr] at hr'
      cases hr'
      exact .inr rfl
  · by_cases hroom : n + m ≤ cap
    · have hfit : n * i.size + news.length ≤ cur.size := by rw [hl, hcs, ← Nat.add_mul]; exact Nat.mul_le_mul_right _ hroom
      have hr' := run_append_room (P := P) w t ty e i ht hi g n cap cur hg a m c news hl hnews h1 hroom hfit
      rw [hr] at hr'
      cases hr'
      exact .inl rfl
    · have holds : ∀ j u, xs[j]? = some u → w.cell? ((⟨g, 0, none⟩ : Addr).add j) = some u := hown.cells (g := g) rfl
      have hr' := run_append_grow (P := P) w t ty e i z ht hi hz ⟨g, 0, none⟩ n cap xs hown.1 holds a m c news hl hnews (by omega) (by omega) (growslice_fits (by omega) hbytes)
      rw [hr] at hr'
      cases hr'
      exact .inr rfl
theorem wp_append_blk {o : Oper} {a : Act} {K : Act → World → Prop} {Q : Exit → Act → World → Prop} (s x : Operand) (t : TypeId)
    (ho : o.op = .call { callee := .builtin .append, args := #[s, x], argTypes := #[t, t] })
    (base : Nat) (e : TypeId) (i : TypeInfo) (z : Value) (size bytes : Nat) (ht : P.underlying t = some (.slice e)) (hi : P.info? e = some i) (hz : i.zero = some z)
    (hsize : i.size = size) (hby : i.bytes = bytes) (hzs : z.cells.size = size) (hsz : 0 < size)
    (v : Value) (n : Nat) (xs : List Value) (hs : a.eval s = v) (hown : w.ownsRow base e size v n xs)
    (ad : Addr) (m c : Nat) (news : List Value) (hx : a.eval x = .slice (some ad) m c) (hl : news.length = m * size) (hnews : ∀ j u, news[j]? = some u → w.cell? (ad.add j) = some u) (h1 : ∀ u ∈ news, u.oneCell' = true)
    (h63 : n + m ≤ maxLen) (hbytes : (n + m) * bytes ≤ 140737488355328) (hbase : base ≤ w.heap.size)
    (h : ∀ v' w', w'.ownsRow base e size v' (n + m) (xs ++ news) → w.grownBy w' v.ownBlock → (v'.ownBlock = v.ownBlock ∨ v'.ownBlock = some w.heap.size) → K (a.put o.dst v') w') : o.wp P a w K Q := by
  obtain ⟨v', w', hr, h2, h3, h4⟩ := run_append_blk (P := P) w base t o.type e i z size bytes ht hi hz hsize hby hzs hsz v n xs hown ad m c news hl hnews h1 h63 hbytes hbase
  unfold Oper.wp execOp
  simp only [ho, resolve, invoke, builtin, Sem.run_bind, Sem.run_pure, Result.andThen_ok, List.map_toArray, List.map_cons, List.map_nil, hs, hx, hr]
  exact h v' w' h2 h3 h4
end

/-- Two rows of the call's own lie in different blocks. -/
def Sep (u v : Value) : Prop := ∀ g, u.ownBlock = some g → v.ownBlock ≠ some g
theorem Sep.symm {u v : Value} (h : Sep u v) : Sep v u := fun g h1 h2 => h g h2 h1
theorem sep_nil (v : Value) : Sep (.slice none 0 0) v := fun g h => by cases h
/-- Beds of the call's own, of one kind, in different blocks. -/
structure Beds (w : World) (B : Nat) (T : TypeId) (sz : Nat) (l : List (Value × Nat × List Value)) : Prop where
  all : ∀ r ∈ l, w.ownsRow B T sz r.1 r.2.1 r.2.2
  seps : l.Pairwise fun a b => Sep a.1 b.1
section
variable {w : World} {B : Nat} {T : TypeId} {sz : Nat} {l : List (Value × Nat × List Value)}
theorem Beds.more (h : Beds w B T sz l) (x : Array Obj × Nat) : Beds (more w x) B T sz l := ⟨fun r hr => own_more (h.1 r hr) x, h.2⟩
theorem Beds.alloc (h : Beds w B T sz l) (o : Obj) : Beds (w.alloc o) B T sz l := ⟨fun r hr => own_alloc (h.1 r hr) o, h.2⟩
theorem Beds.drew (h : Beds w B T sz l) : Beds w.drew B T sz l := ⟨h.1, h.2⟩
theorem Beds.drewN (h : Beds w B T sz l) (k : Nat) : Beds (w.drewN k) B T sz l := ⟨h.1, h.2⟩
theorem Beds.own (h : Beds w B T sz l) (i : Nat) (r : Value × Nat × List Value) (hr : l[i]? = some r) : w.ownsRow B T sz r.1 r.2.1 r.2.2 := h.1 r (List.mem_of_getElem? hr)
theorem beds_nil3 (w : World) (B : Nat) (T : TypeId) (sz : Nat) : Beds w B T sz [(.slice none 0 0, 0, []), (.slice none 0 0, 0, []), (.slice none 0 0, 0, [])] :=
  ⟨fun r hr => by simp at hr; subst hr; exact World.ownsRow_nil _ _ _ _, by refine .cons (fun a _ => sep_nil _) (.cons (fun a _ => sep_nil _) (.cons (fun a _ => sep_nil _) .nil))⟩
theorem beds_nil2 (w : World) (B : Nat) (T : TypeId) (sz : Nat) : Beds w B T sz [(.slice none 0 0, 0, []), (.slice none 0 0, 0, [])] :=
  ⟨fun r hr => by simp at hr; subst hr; exact World.ownsRow_nil _ _ _ _, by refine .cons (fun a _ => sep_nil _) (.cons (fun a _ => sep_nil _) .nil)⟩
/-- The same rows in another order. -/
theorem Beds.perm (h : Beds w B T sz l) {l' : List (Value × Nat × List Value)} (hp : l.Perm l') : Beds w B T sz l' := ⟨fun r hr => h.1 r (hp.mem_iff.2 hr), hp.pairwise h.2 (fun s => s.symm)⟩
theorem own_beside {w w' : World} {B sz n : Nat} {T : TypeId} {v : Value} {xs : List Value} (h : w.ownsRow B T sz v n xs) (hk : ∀ k ob, w.heap[k]? = some ob → v.ownBlock = some k → w'.heap[k]? = some ob) : w'.ownsRow B T sz v n xs :=
  ⟨h.1, h.2.imp id fun ⟨g, cap, cur, a, b, c, d⟩ => ⟨g, cap, cur, a, b, hk g _ c (by rw [a]; rfl), d⟩⟩
/-- What an append to the first leaves. -/
theorem Beds.put {w' : World} {v v' : Value} {n n' : Nat} {xs xs' : List Value} (h : Beds w B T sz ((v, n, xs) :: l)) (ho : w'.ownsRow B T sz v' n' xs')
    (keep : ∀ k ob, w.heap[k]? = some ob → v.ownBlock ≠ some k → w'.heap[k]? = some ob) (blk : v'.ownBlock = v.ownBlock ∨ ∃ g, v'.ownBlock = some g ∧ w.heap.size ≤ g) : Beds w' B T sz ((v', n', xs') :: l) := by
  have h2 := List.pairwise_cons.1 h.2
  refine ⟨fun r hr => ?_, List.pairwise_cons.2 ⟨fun r hr => ?_, h2.2⟩⟩
  · rcases List.mem_cons.1 hr with rfl | hr
    · exact ho
    · exact own_beside (h.1 r (.tail _ hr)) fun k ob hk e => keep k ob hk fun e' => h2.1 r hr k e' e
  · rcases blk with e | ⟨g, e, hg⟩
    · intro k hk
      exact h2.1 r hr k (e ▸ hk)
    · intro k hk hk'
      have := (World.ownsRow.lt (h.1 r (.tail _ hr)) k hk').2
      rw [e] at hk
      cases hk
      omega
theorem Beds.swap {a b : Value × Nat × List Value} (h : Beds w B T sz (a :: b :: l)) : Beds w B T sz (b :: a :: l) := h.perm (.swap _ _ _)
theorem Beds.third {a b c : Value × Nat × List Value} (h : Beds w B T sz (a :: b :: c :: l)) : Beds w B T sz (c :: a :: b :: l) := h.perm ((List.Perm.cons _ (.swap _ _ _)).trans (.swap _ _ _))
theorem Beds.fourth {a b c d : Value × Nat × List Value} (h : Beds w B T sz (a :: b :: c :: d :: l)) : Beds w B T sz (d :: a :: b :: c :: l) := h.perm ((List.Perm.cons _ ((List.Perm.cons _ (.swap _ _ _)).trans (.swap _ _ _))).trans (.swap _ _ _))
theorem Beds.rev3 {a b c : Value × Nat × List Value} (h : Beds w B T sz [a, b, c]) : Beds w B T sz [c, b, a] := h.third.perm (.cons _ (.swap _ _ _))
theorem Beds.tail {r : Value × Nat × List Value} (h : Beds w B T sz (r :: l)) : Beds w B T sz l := ⟨fun a ha => h.1 a (.tail _ ha), (List.pairwise_cons.1 h.2).2⟩
/-- A fresh block beside them. -/
theorem Beds.new (h : Beds w B T sz l) (hB : B ≤ w.heap.size) (cs : Array Value) (m : Nat) (hm : m ≤ maxLen) (hc : cs.size = m * sz) : Beds (w.alloc (.cells cs T)) B T sz ((.slice (some ⟨w.heap.size, 0, none⟩) m m, m, cs.toList) :: l) := by
  refine ⟨fun r hr => ?_, List.pairwise_cons.2 ⟨fun r hr k hk hk' => ?_, h.2⟩⟩
  · rcases List.mem_cons.1 hr with rfl | hr
    · exact own_low (own_lit w cs T m sz hc hm) hB
    · exact own_alloc (h.1 r hr) _
  · have := (World.ownsRow.lt (h.1 r hr) k hk').2
    cases hk
    exact absurd this (Nat.lt_irrefl _)
/-- A cell of the first's block is set. -/
theorem Beds.set {k m : Nat} {cs : List Value} (h : Beds w B T sz ((.slice (some ⟨k, 0, none⟩) m m, m, cs) :: l)) (i : Nat) (u : Value) (hi : i < cs.length) : Beds (w.setCell ⟨k, i, none⟩ u) B T sz ((.slice (some ⟨k, 0, none⟩) m m, m, cs.set i u) :: l) := by
  have h2 := List.pairwise_cons.1 h.2
  refine ⟨fun r hr => ?_, List.pairwise_cons.2 ⟨fun r hr => h2.1 r hr, h2.2⟩⟩
  rcases List.mem_cons.1 hr with rfl | hr
  · have ho : w.ownsRow B T sz (.slice (some ⟨k, 0, none⟩) m m) m cs := h.1 _ (.head _)
    have hl : cs.length = m * sz := ho.1
    rcases ho.2 with ⟨e, _⟩ | ⟨g, cap, cur, e, h3, h4, h5, h6, h7, h8⟩
    · cases e
    · simp only [Value.slice.injEq] at e
      obtain ⟨e1, _, rfl⟩ := e
      cases e1
      refine ⟨by simpa using hl, .inr ⟨k, m, cur.set! i u, rfl, h3, heap_setCell_same w k i _ _ u h4, h5, h6, by simpa using h7, ?_⟩⟩
      have e2 : cur.toList = cs := by rw [← h8, List.take_of_length_le (by simp; omega)]
      simp [e2, List.take_of_length_le, hl]
  · exact ownsRow_setCell_other (h.1 r (.tail _ hr)) (fun e => h2.1 r hr k rfl e) u
theorem Beds.box {k m : Nat} {cs : List Value} (h : Beds w B T sz ((.slice (some ⟨k, 0, none⟩) m m, m, cs) :: l)) : w.heap[k]? = some (.cells cs.toArray T (0, 0)) ∧ B ≤ k := by
  have ho : w.ownsRow B T sz (.slice (some ⟨k, 0, none⟩) m m) m cs := h.1 _ (.head _)
  have hl : cs.length = m * sz := ho.1
  rcases ho.2 with ⟨e, _⟩ | ⟨g, cap, cur, e, h3, h4, h5, h6, h7, h8⟩
  · cases e
  · simp only [Value.slice.injEq] at e
    obtain ⟨e1, _, rfl⟩ := e
    cases e1
    have e2 : cur.toList = cs := by rw [← h8, List.take_of_length_le (by simp; omega)]
    rw [← e2]
    exact ⟨h4, h3⟩
end

theorem wpList_append_newB {P : Program} (W : World) {w : World} {ops : Array Oper} {rest : List Oper} {o : Oper} {a : Act} {Q : Exit → Act → World → Prop} {t e : TypeId} {z : Value} {size bytes : Nat} (el : ElemAt P t e z size bytes)
    (hgd : o.guard = none) (s x : Operand) (ho : o.op = .call { callee := .builtin .append, args := #[s, x], argTypes := #[t, t] })
    (v : Value) (n : Nat) (xs : List Value) (hs : a.eval s = v) (hown : w.ownsRow W.heap.size e size v n xs) (hW : Ext W w)
    (cs : Array Value) (T : TypeId) (m ad : Nat) (hx : a.eval x = .slice (some ⟨ad, 0, none⟩) m m) (had : ad = w.heap.size) (hl : cs.size = m * size) (h1 : cs.toList.all Value.oneCell' = true) (hn : n + m ≤ 1000000)
    (h : ∀ v' x', Hid ((more W x').ownsRow W.heap.size e size v' (n + m) (xs ++ cs.toList)) → (∀ k ob, w.heap[k]? = some ob → v.ownBlock ≠ some k → (more W x').heap[k]? = some ob) → (v'.ownBlock = v.ownBlock ∨ ∃ g, v'.ownBlock = some g ∧ w.heap.size ≤ g) → wpList P ops Q rest (a.put o.dst v') (more W x')) : wpList P ops Q (o :: rest) a (w.alloc (.cells cs T)) := by
  obtain ⟨i, hi, hz, h3, h4⟩ := info_parts el.info
  subst had
  have hb : (n + m) * bytes ≤ 1000000 * 1000 := Nat.mul_le_mul hn el.small
  refine wpList_plain hgd fun _ hK => wp_append_blk (w.alloc (.cells cs T)) s x t ho W.heap.size e i z size bytes el.sl hi hz h3 h4 el.zs el.pos v n xs hs (hown.alloc _) ⟨w.heap.size, 0, none⟩ m m cs.toList hx (by simpa using hl)
    (block_news' (heap_alloc_new w _)) (by intro u hu; exact List.all_eq_true.1 h1 u hu) (by unfold maxLen; omega) (by omega) (by have := hW.size; simp; omega) ?_
  intro v' w' ho' hg' hb'
  obtain ⟨x', rfl⟩ := more_of_grow (grow_row (hW.alloc (.cells cs T)).grow hown hg')
  refine hK _ _ (h v' x' ho' (fun k ob hk hne => (hg'.block k (by have := (Array.getElem?_eq_some_iff.1 hk).1; simp; omega) (fun e => hne e.symm)).trans (box_alloc hk _)) (hb'.imp id fun e => ⟨_, e, by simp⟩))
theorem wpList_append_rowB {P : Program} (W : World) {w : World} {ops : Array Oper} {rest : List Oper} {o : Oper} {a : Act} {Q : Exit → Act → World → Prop} {t e : TypeId} {z : Value} {size bytes : Nat} (el : ElemAt P t e z size bytes)
    (hgd : o.guard = none) (s x : Operand) (ho : o.op = .call { callee := .builtin .append, args := #[s, x], argTypes := #[t, t] })
    (v : Value) (n : Nat) (xs : List Value) (hs : a.eval s = v) (hown : w.ownsRow W.heap.size e size v n xs) (hW : Ext W w)
    (B2 : Nat) (v2 : Value) (m : Nat) (xs2 : List Value) (hx : a.eval x = v2) (hown2 : w.ownsRow B2 e size v2 m xs2) (hm : 1 ≤ m) (h1 : xs2.all Value.oneCell' = true) (hn : n + m ≤ 1000000)
    (h : ∀ v' x', Hid ((more W x').ownsRow W.heap.size e size v' (n + m) (xs ++ xs2)) → (∀ k ob, w.heap[k]? = some ob → v.ownBlock ≠ some k → (more W x').heap[k]? = some ob) → (v'.ownBlock = v.ownBlock ∨ ∃ g, v'.ownBlock = some g ∧ w.heap.size ≤ g) → wpList P ops Q rest (a.put o.dst v') (more W x')) : wpList P ops Q (o :: rest) a w := by
  obtain ⟨i, hi, hz, h3, h4⟩ := info_parts el.info
  have hb : (n + m) * bytes ≤ 1000000 * 1000 := Nat.mul_le_mul hn el.small
  rcases hown2.2 with ⟨_, h0⟩ | ⟨g2, cap2, cur, rfl, _⟩
  · omega
  refine wpList_plain hgd fun _ hK => wp_append_blk w s x t ho W.heap.size e i z size bytes el.sl hi hz h3 h4 el.zs el.pos v n xs hs hown ⟨g2, 0, none⟩ m cap2 xs2 hx hown2.1
    (hown2.cells (g := g2) rfl) (by intro u hu; exact List.all_eq_true.1 h1 u hu) (by unfold maxLen; omega) (by omega) hW.size ?_
  intro v' w' ho' hg' hb'
  obtain ⟨x', rfl⟩ := more_of_grow (grow_row hW.grow hown hg')
  exact hK _ _ (h v' x' ho' (fun k ob hk hne => (hg'.block k (Array.getElem?_eq_some_iff.1 hk).1 (fun e => hne e.symm)).trans hk) (hb'.imp id fun e => ⟨_, e, Nat.le_refl _⟩))
/-- A world in which a new block's cell was set, spelled anew. -/
theorem wp_settle {P : Program} (W : World) {w : World} {ops : Array Oper} {l : List Oper} {a : Act} {Q : Exit → Act → World → Prop} {k i : Nat} {u : Value} (hW : Ext W w) (hk : W.heap.size ≤ k)
    (h : ∀ x', more W x' = w.setCell ⟨k, i, none⟩ u → wpList P ops Q l a (more W x')) : wpList P ops Q l a (w.setCell ⟨k, i, none⟩ u) := by
  have hg : W.grownBy (w.setCell ⟨k, i, none⟩ u) none := ⟨hW.grow.os, hW.grow.tape, hW.grow.output, by simpa using hW.size, fun j hj e => by rw [heap_setCell_other _ _ _ _ (by show j ≠ k; omega)]; exact hW.grow.block j hj e⟩
  obtain ⟨x', hx⟩ := more_of_grow hg
  rw [hx]
  exact h x' hx.symm

end Go.Proofs.Ytapeoeakiphfpaa

/- Steps: what they are, and that two rows of them are the same. -/
namespace Go.Proofs.Ytapeoeakiphfpaa
open Go.RowKit
set_option linter.unusedVariables false
set_option linter.unusedSimpArgs false
attribute [local go_sem] setCell_drewN alloc_drewN lt_moreE le_moreE lt_moreK le_moreK cell_more frozen_more set_more drew_more drewN_more

/-- A step that writes, and one that tells. -/
def wrS (asid : Int) (f : Found) (first v : Int) : Step := ⟨1, asid, f.fLevel, f.fTable, f.fPlace, first, v, 0, 0, 0⟩
def tellS (asid first : Int) : Step := ⟨2, asid, 0, 0, 0, first, 0, 0, 0, 0⟩
/-- A found page's word, folded or not. -/
def foldW (ws : List Int) (fold : Bool) (f : Found) : Int := encW { decD f.fLevel (ws.getD (f.fTable.toNat * 8 + f.fPlace.toNat) 0) with fFold := fold }
def goneL (l : List Found) (asid first : Int) : List Step := l.mapIdx fun i f => wrS asid f (first + i) 0
def toldL (l : List Found) (asid first : Int) : List Step := l.mapIdx fun i _ => tellS asid (first + i)
def backL (ws : List Int) (l : List Found) (asid first : Int) (fold : Bool) : List Step := l.mapIdx fun i f => wrS asid f (first + i) (foldW ws fold f)
theorem goneL_snoc (l : List Found) (f : Found) (asid first : Int) : goneL (l ++ [f]) asid first = goneL l asid first ++ [wrS asid f (first + l.length) 0] := by unfold goneL; rw [List.mapIdx_append]; simp
theorem toldL_snoc (l : List Found) (f : Found) (asid first : Int) : toldL (l ++ [f]) asid first = toldL l asid first ++ [tellS asid (first + l.length)] := by unfold toldL; rw [List.mapIdx_append]; simp
theorem backL_snoc (ws : List Int) (l : List Found) (f : Found) (asid first : Int) (fold : Bool) : backL ws (l ++ [f]) asid first fold = backL ws l asid first fold ++ [wrS asid f (first + l.length) (foldW ws fold f)] := by unfold backL; rw [List.mapIdx_append]; simp
theorem goneL_len (l : List Found) (asid first : Int) : (goneL l asid first).length = l.length := by simp [goneL]
theorem toldL_len (l : List Found) (asid first : Int) : (toldL l asid first).length = l.length := by simp [toldL]
theorem backL_len (ws : List Int) (l : List Found) (asid first : Int) (fold : Bool) : (backL ws l asid first fold).length = l.length := by simp [backL]
theorem take_snoc {α : Type} {l : List α} {q : Nat} {f : α} (h : l[q]? = some f) : l.take (q + 1) = l.take q ++ [f] := by rw [List.take_add_one, h]; rfl
/-- A page's slot and word. -/
def goodP (ws : List Int) (n : Int) (f : Found) : Prop := 0 ≤ f.fTable ∧ f.fTable < n ∧ 0 ≤ f.fPlace ∧ f.fPlace < 8 ∧ f.fLevel = 3 ∧ okD 3 (decD 3 (ws.getD (f.fTable.toNat * 8 + f.fPlace.toNat) 0)) = true ∧ (decD 3 (ws.getD (f.fTable.toNat * 8 + f.fPlace.toNat) 0)).fKind = 3
theorem okD_fold {d : Desc} (h : okD 3 d = true) (hk : d.fKind = 3) (b : Bool) : okD 3 { d with fFold := b } = true := by
  simp only [okD, mayD, hk, Bool.and_eq_true, decide_eq_true_eq] at h ⊢
  simpa using h
theorem run_good {ws : List Int} {n root first : Int} {i : Nat} {l : List Found} (h : runN ws n root first i = some l) : ∀ f ∈ l, f.fKind = 3 → goodP ws n f := by
  intro f hf hk
  obtain ⟨j, hj, rfl⟩ := List.getElem_of_mem hf
  have hw := runN_at i l h j _ (List.getElem?_eq_getElem hj)
  obtain ⟨h1, h2, h3, _⟩ := walkAt_word 4 0 root _ (by omega) (by omega) hw
  obtain ⟨h4, _, d, h5, h6, h7, _⟩ := walk_page hw hk
  exact ⟨h1, h2, h3 ▸ placeN_lo _ _, h3 ▸ placeN_hi _ _, h4, by rw [h5]; exact h6, by rw [h5]; exact h7⟩
def anewL (ws : List Int) (l : List Found) (asid first : Int) (fold : Bool) : List Step := goneL l asid first ++ toldL l asid first ++ backL ws l asid first fold


theorem el_Step : ElemAt Try.prog 59 73 (.agg #[.int .i64 0, .int .i64 0, .int .i64 0, .int .i64 0, .int .i64 0, .int .i64 0, .int .u64 0, .int .i64 0, .int .i64 0, .int .i64 0]) 10 80 := ⟨Try.underlying59, by kernel_rfl, rfl, by decide, by decide⟩
/-- A row of steps of the call's own. -/
abbrev OwnS (w : World) (B : Nat) (v : Value) (l : List Step) : Prop := w.ownsRow B 73 10 v l.length (l.map Step.cells).flatten

/-- Steps, or what is amiss: as the program tells it, and as the document does. -/
inductive StepsR where
  | yes (l : List Step)
  | no (k : Nat)
def StepsRet (B : Nat) (w' : World) (r : StepsR) (e : Ending) : Prop := match r with
  | .yes s => ∃ a cap, e = .returned (.tuple #[.slice a s.length cap, .nilIface]) ∧ OwnS w' B (.slice a s.length cap) s
  | .no k => e = .returned (.tuple #[.slice none 0 0, errW k])
theorem stepsRet_yes {B B' n : Nat} {w' : World} {r : StepsR} {s : List Step} {v : Value} {xs : List Value} (hr : r = .yes s) (h : w'.ownsRow B' 73 10 v n xs) (hb : B ≤ B') (hn : n = s.length) (hx : xs = (s.map Step.cells).flatten) : StepsRet B w' r (.returned (.tuple #[v, .nilIface])) := by
  obtain ⟨a, cap, rfl⟩ := own_form h
  subst hn hx hr
  exact ⟨a, cap, rfl, own_low h hb⟩
/-- Cells of steps. -/
abbrev CS (l : List Step) : List Value := (l.map Step.cells).flatten
theorem CS_snoc (l : List Step) (s : Step) : CS (l ++ [s]) = CS l ++ s.cells := by simp [CS]
theorem CS_append (l m : List Step) : CS (l ++ m) = CS l ++ CS m := by simp [CS]
theorem CS_one (l : List Step) : (CS l).all Value.oneCell' = true := all_flat Step.cells _ (fun a => rfl) l
/-- The cells of a block of ten. -/
theorem cells10 {w : World} {n : Nat} {T : TypeId} {a0 a1 a2 a3 a4 a5 a6 a7 a8 a9 : Value} (h : w.heap[n]? = some (.cells #[a0, a1, a2, a3, a4, a5, a6, a7, a8, a9] T (0, 0))) :
    w.cell? ⟨n, 0, none⟩ = some a0 ∧ w.cell? ⟨n, 1, none⟩ = some a1 ∧ w.cell? ⟨n, 2, none⟩ = some a2 ∧ w.cell? ⟨n, 3, none⟩ = some a3 ∧ w.cell? ⟨n, 4, none⟩ = some a4 ∧ w.cell? ⟨n, 5, none⟩ = some a5 ∧ w.cell? ⟨n, 6, none⟩ = some a6 ∧ w.cell? ⟨n, 7, none⟩ = some a7 ∧ w.cell? ⟨n, 8, none⟩ = some a8 ∧ w.cell? ⟨n, 9, none⟩ = some a9 ∧ (∀ i, w.frozen? ⟨n, i, none⟩ = false) ∧ n < w.heap.size := by
  have key := fun i => cell_of_row w n i _ _ _ h
  exact ⟨key 0, key 1, key 2, key 3, key 4, key 5, key 6, key 7, key 8, key 9, fun i => frozen_of_row w n i _ _ h, (Array.getElem?_eq_some_iff.1 h).1⟩

end Go.Proofs.Ytapeoeakiphfpaa

/- The contract of paviorref12.Same: two rows of the same steps. -/
namespace Go.Proofs.Ytapeoeakiphfpaa
open Go.RowKit
set_option linter.unusedVariables false
set_option linter.unusedSimpArgs false
attribute [local go_sem] setCell_drewN alloc_drewN lt_moreE le_moreE lt_moreK le_moreK cell_more frozen_more set_more drew_more drewN_more

/-- The cells of an element. -/
theorem step_at {w : World} {g : Nat} {l : List Step} (h : ∀ i u, ((l.map Step.cells).flatten)[i]? = some u → w.cell? ⟨g, i, none⟩ = some u) (q : Nat) (f : Step) (hq : l[q]? = some f) :
    w.cell? ⟨g, q * 10, none⟩ = some (.int .i64 f.fKind) ∧ w.cell? ⟨g, q * 10 + 1, none⟩ = some (.int .i64 f.fAsid) ∧ w.cell? ⟨g, q * 10 + 2, none⟩ = some (.int .i64 f.fLevel) ∧ w.cell? ⟨g, q * 10 + 3, none⟩ = some (.int .i64 f.fTable) ∧ w.cell? ⟨g, q * 10 + 4, none⟩ = some (.int .i64 f.fPlace) ∧ w.cell? ⟨g, q * 10 + 5, none⟩ = some (.int .i64 f.fFirst) ∧ w.cell? ⟨g, q * 10 + 6, none⟩ = some (.int .u64 f.fValue) ∧ w.cell? ⟨g, q * 10 + 7, none⟩ = some (.int .i64 f.fTo) ∧ w.cell? ⟨g, q * 10 + 8, none⟩ = some (.int .i64 f.fFrom) ∧ w.cell? ⟨g, q * 10 + 9, none⟩ = some (.int .i64 f.fI) := by
  have key := fun j u hj => h (q * 10 + j) u (flatten_at 10 (l.map Step.cells) q j f.cells u (by simp [Step.cells]) (by simp [hq]) hj)
  exact ⟨key 0 _ rfl, key 1 _ rfl, key 2 _ rfl, key 3 _ rfl, key 4 _ rfl, key 5 _ rfl, key 6 _ rfl, key 7 _ rfl, key 8 _ rfl, key 9 _ rfl⟩

set_option maxRecDepth 100000 in
set_option maxHeartbeats 4000000 in
theorem ref12_Same (w : World) {B1 B2 : Nat} {a1 a2 : Option Addr} {c1 c2 : Nat} {s : List Step} (HO1 : OwnS w B1 (.slice a1 s.length c1) s) (HO2 : OwnS w B2 (.slice a2 s.length c2) s) :
    Calls Try.prog 70 #[.slice a1 s.length c1, .slice a2 s.length c2] w fun e w' => Ext w w' ∧ e = .returned (.bool true) := by
  have hc1 := own_cap HO1
  have hc2 := own_cap HO2
  have HA1 := Lib.hid (own_at HO1)
  have HA2 := Lib.hid (own_at HO2)
  have hm1 : c1 ≤ 9223372036854775807 := by have := hc1.2.2; unfold maxLen at this; exact this
  have hm2 : c2 ≤ 9223372036854775807 := by have := hc2.2.2; unfold maxLen at this; exact this
  have hs1 := hc1.2.1
  have hs2 := hc2.2.1
  clear HO1 HO2 hc1 hc2
  go_enter Try.func70, Try.ntmps70
  go_wp2_with fail
  go_loopw [5] (fun i wr => ∃ q : Nat, q ≤ s.length ∧ i = .int .i64 q ∧ Ext w wr) (fun i _ => s.length - (intOf i).toNat)
  case atStart => exact ⟨0, by omega, rfl, Ext.refl _⟩
  case round =>
    obtain ⟨q, hq, rfl, ⟨x, rfl⟩⟩ := hrel
    by_cases hlt : q < s.length
    · obtain ⟨g1, rfl, _, hg1, _, hx1, _⟩ := HA1.out (by omega)
      obtain ⟨g2, rfl, _, hg2, _, hx2, _⟩ := HA2.out (by omega)
      have hz : s[q]? = some s[q] := List.getElem?_eq_getElem hlt
      obtain ⟨x0, x1, x2, x3, x4, x5, x6, x7, x8, x9⟩ := step_at hx1 q _ hz
      obtain ⟨y0, y1, y2, y3, y4, y5, y6, y7, y8, y9⟩ := step_at hx2 q _ hz
      generalize s[q] = z at *
      obtain ⟨F0, F1, F2, F3, F4, F5, F6, F7, F8, F9⟩ := z
      clear hz hx1 hx2 HA1 HA2
      go_wp2_with fail
      go_region
      all_goals go_wp2_with fail
      go_roundw
      case rel => exact ⟨q + 1, by omega, by go_num, (by repeat (first | exact Ext.refl _ | apply Ext.more | apply Ext.alloc | apply Ext.drew | apply Ext.drewN))⟩
      case measure => simp [intOf]; omega
    · obtain rfl : q = s.length := by omega
      go_wp2_with fail
      go_ret
      exact ⟨(by repeat (first | exact Ext.refl _ | apply Ext.more | apply Ext.alloc | apply Ext.drew | apply Ext.drewN)), rfl⟩

end Go.Proofs.Ytapeoeakiphfpaa

/- Steps that part a block: plain laws; the contracts of huge.tell, huge.swap, huge.has, paviorref16.step, paviorref16.swap. -/
namespace Go.Proofs.Ytapeoeakiphfpaa
open Go.RowKit
set_option linter.unusedVariables false
set_option linter.unusedSimpArgs false
attribute [local go_sem] setCell_drewN alloc_drewN lt_moreE le_moreE lt_moreK le_moreK cell_more frozen_more set_more drew_more drewN_more

def wr0 (asid level table place first v : Int) : Step := ⟨1, asid, level, table, place, first, v, 0, 0, 0⟩
def clearS (f : Int) : Step := ⟨4, 0, 0, 0, 0, 0, 0, f, 0, 0⟩
def dropS (t : Int) : Step := ⟨6, 0, 0, t, 0, 0, 0, 0, 0, 0⟩
/-- The steps that tell pages side by side. -/
def tellsN (asid first : Int) (k : Nat) : List Step := (List.range k).map fun i : Nat => tellS asid (first + (i : Int))
theorem tellsN_succ (asid first : Int) (k : Nat) : tellsN asid first (k + 1) = tellsN asid first k ++ [tellS asid (first + k)] := by unfold tellsN; rw [List.range_succ, List.map_append]; rfl
theorem tellsN_len (asid first : Int) (k : Nat) : (tellsN asid first k).length = k := by simp [tellsN]
def swapS (asid table place first v : Int) : List Step := wr0 asid 2 table place first 0 :: (tellsN asid first 8 ++ [wr0 asid 2 table place first v])
theorem swapS_len (asid table place first v : Int) : (swapS asid table place first v).length = 10 := by simp [swapS, tellsN_len]
def partD (d : Desc) (i : Nat) : Desc := { d with fKind := 3, fFrame := d.fFrame + i }
def partsN (asid fresh first : Int) (d : Desc) (k : Nat) : List Step := (List.range k).map fun i : Nat => wr0 asid 3 fresh i (first + (i : Int)) (encW (partD d i))
theorem partsN_succ (asid fresh first : Int) (d : Desc) (k : Nat) : partsN asid fresh first d (k + 1) = partsN asid fresh first d k ++ [wr0 asid 3 fresh k (first + k) (encW (partD d k))] := by unfold partsN; rw [List.range_succ, List.map_append]; rfl
theorem partsN_len (asid fresh first : Int) (d : Desc) (k : Nat) : (partsN asid fresh first d k).length = k := by simp [partsN]
def splitS (asid fresh : Int) (f : Found) (d : Desc) : List Step := (clearS fresh :: partsN asid fresh f.fFirst d 8) ++ swapS asid f.fTable f.fPlace f.fFirst (fresh * 4096 + 3)
theorem splitS_len (asid fresh : Int) (f : Found) (d : Desc) : (splitS asid fresh f d).length = 19 := by simp [splitS, partsN_len, swapS_len]
/-- A block that a walk found: its word. -/
theorem walk_block {ws : List Int} {n p root : Int} {f : Found} (h : walkAt ws n p 4 0 root = some f) (hk : f.fKind = 2) :
    f.fLevel = 2 ∧ f.fFirst = p - p % 8 ∧ 0 ≤ f.fTable ∧ f.fTable < n ∧ 0 ≤ f.fPlace ∧ f.fPlace < 8 ∧ ∃ d, decD 2 (ws.getD (f.fTable.toNat * 8 + f.fPlace.toNat) 0) = d ∧ okD 2 d = true ∧ d.fKind = 2 := by
  obtain ⟨h1, h2, h3, _, _, _, hf⟩ := walkAt_word 4 0 root f (by omega) (by omega) h
  generalize hd : decD f.fLevel (ws.getD (f.fTable.toNat * 8 + f.fPlace.toNat) 0) = d at hf
  have hkd : d.fKind = 2 := by rw [← hk, hf, (foundD_parts _ _ _ _ _).2.2.2]
  have hl : f.fLevel = 2 := decD_block _ _ (by rw [hd]; exact hkd)
  have hfirst : f.fFirst = p - p % 8 := by rw [hf]; unfold foundD; rw [if_pos hkd]
  rw [hl] at hd
  refine ⟨hl, hfirst, h1, h2, h3 ▸ placeN_lo _ _, h3 ▸ placeN_hi _ _, d, hd, ?_, hkd⟩
  have := (decD_ok (level := 2) (x := ws.getD (f.fTable.toNat * 8 + f.fPlace.toNat) 0) (by rw [hd, hkd]; omega)).1
  rwa [hd] at this
theorem okD_block {d : Desc} (h : okD 2 d = true) (hk : d.fKind = 2) : d.fFold = false ∧ d.fFrame % 8 = 0 ∧ 0 ≤ d.fFrame ∧ d.fFrame + 8 ≤ 512 := by
  obtain ⟨_, _, h0, h1, _, _, h2⟩ := okD_parts h
  unfold mayD at h2
  rw [if_neg (by omega), if_neg (by omega), if_pos hk] at h2
  simp only [Bool.and_eq_true, beq_iff_eq, Bool.not_eq_true'] at h2
  exact ⟨h2.1.2, h2.2, h0, by omega⟩
theorem okD_part {d : Desc} (h : okD 2 d = true) (hk : d.fKind = 2) (i : Nat) (hi : i < 8) : okD 3 (partD d i) = true := by
  obtain ⟨_, _, h0, h1, h3, h4, h2⟩ := okD_parts h
  obtain ⟨hfo, hmod, _, h5⟩ := okD_block h hk
  unfold okD mayD partD
  dsimp only
  simp
  omega
theorem okD_tab {level f : Int} (h0 : 0 ≤ level) (h2 : level ≤ 2) (hf0 : 0 ≤ f) (hf1 : f < 512) : okD level (tableD f) = true := by
  unfold okD mayD tableD
  simp
  omega

/-- Cells of steps, in a row of the call's own. -/
def SlRet (B : Nat) (w' : World) (L : List Step) (n : Nat) (e : Ending) : Prop := ∃ a cap, e = .returned (.slice a n cap) ∧ w'.ownsRow B 73 10 (.slice a n cap) n (CS L)
theorem slRet_mk {B B' m n : Nat} {w' : World} {L : List Step} {v : Value} {xs : List Value} (h : w'.ownsRow B' 73 10 v m xs) (hb : B ≤ B') (hn : m = n) (hx : xs = CS L) : SlRet B w' L n (.returned v) := by
  obtain ⟨a, cap, rfl⟩ := own_form h
  subst hn hx
  exact ⟨a, cap, rfl, own_low h hb⟩
theorem own_lit' {w : World} {B n m sz g : Nat} {xs : List Value} {cs : Array Value} {T : TypeId} (hg : g = w.heap.size) (hB : B ≤ w.heap.size) (h : cs.size = m * sz) (hm : m ≤ 1000) (hn : n = m) (hx : xs = cs.toList) : (w.alloc (.cells cs T)).ownsRow B T sz (.slice (some ⟨g, 0, none⟩) m m) n xs := by
  subst hn hx hg
  exact own_low (own_lit w cs T _ sz h (by unfold maxLen; omega)) hB
/-- As wpList_append_row, in a region that draws its order. -/
theorem step_append_row {P : Program} (W : World) {w : World} {ops : Array Oper} {o : Oper} {a : Act} {K : Act → World → Prop} {Q : Exit → Act → World → Prop} {E : Prop} {t e : TypeId} {z : Value} {size bytes : Nat} (el : ElemAt P t e z size bytes)
    (hgd : o.guard = none) (s x : Operand) (ho : o.op = .call { callee := .builtin .append, args := #[s, x], argTypes := #[t, t] })
    (v : Value) (n : Nat) (xs : List Value) (hs : a.eval s = v) (hown : w.ownsRow W.heap.size e size v n xs) (hW : Ext W w)
    (B2 : Nat) (v2 : Value) (m : Nat) (xs2 : List Value) (hx : a.eval x = v2) (hown2 : w.ownsRow B2 e size v2 m xs2) (hm : 1 ≤ m) (h1 : xs2.all Value.oneCell' = true) (hn : n + m ≤ 1000000)
    (h : ∀ v' x', Hid ((more W x').ownsRow W.heap.size e size v' (n + m) (xs ++ xs2)) → (∀ k ob, w.heap[k]? = some ob → v.ownBlock ≠ some k → (more W x').heap[k]? = some ob) → K (a.put o.dst v') (more W x')) :
    if Region.wanted o (yielded ops a.tmps) = true then Oper.wp P o a w K Q else E := by
  have hw : Region.wanted o (yielded ops a.tmps) = true := by simp [Region.wanted, hgd]
  rw [if_pos hw]
  obtain ⟨i, hi, hz, h3, h4⟩ := info_parts el.info
  have hb : (n + m) * bytes ≤ 1000000 * 1000 := Nat.mul_le_mul hn el.small
  rcases hown2.2 with ⟨_, h0⟩ | ⟨g2, cap2, cur, rfl, _⟩
  · omega
  refine wp_append_own w s x t ho W.heap.size e i z size bytes el.sl hi hz h3 h4 el.zs el.pos v n xs hs hown ⟨g2, 0, none⟩ m cap2 xs2 hx hown2.1
    (hown2.cells (g := g2) rfl) (by intro u hu; exact List.all_eq_true.1 h1 u hu) (by unfold maxLen; omega) (by omega) hW.size ?_
  intro v' w' ho' hg' _
  obtain ⟨x', rfl⟩ := more_of_grow (grow_row hW.grow hown hg')
  exact h v' x' ho' fun k ob hk hne => (hg'.block k (Array.getElem?_eq_some_iff.1 hk).1 (fun e => hne e.symm)).trans hk

set_option maxHeartbeats 2000000 in
theorem huge_tell (w : World) (asid first : Int) (h0 : 0 ≤ first) (h1 : first + 7 < 4096) :
    Calls Try.prog 137 #[.int .i64 asid, .int .i64 first] w fun e w' => Ext w w' ∧ SlRet w.heap.size w' (tellsN asid first 8) 8 e := by
  go_enter Try.func137, Try.ntmps137
  go_wp2_with fail
  go_loopw [5, 7] (fun o i wr => ∃ q : Nat, q ≤ 8 ∧ i = .int .i64 q ∧ Ext w wr ∧ Hid (wr.ownsRow w.heap.size 73 10 o q (CS (tellsN asid first q)))) (fun _ i _ => 8 - (intOf i).toNat)
  case atStart => exact ⟨0, by omega, rfl, (by repeat (first | exact Ext.refl _ | apply Ext.more | apply Ext.alloc | apply Ext.drew | apply Ext.drewN)), by show World.ownsRow _ _ _ _ _ _ _; exact World.ownsRow_nil _ _ _ _⟩
  case round =>
    obtain ⟨q, hq, rfl, ⟨x, rfl⟩, HO⟩ := hrel
    by_cases hlt : q < 8
    · have E := Lib.hid (show CS (tellsN asid first (q + 1)) = CS (tellsN asid first q) ++ (tellS asid (first + q)).cells from by rw [tellsN_succ, CS_snoc])
      go_wp2_with ((at_builtin; refine wpList_append_new w el_Step rfl _ _ rfl u5 q _ rfl (by repeat (first | exact HO.out | apply own_more | apply own_alloc | apply own_drew | apply own_drewN)) (by repeat (first | exact Ext.refl _ | apply Ext.more | apply Ext.alloc | apply Ext.drew | apply Ext.drewN)) _ _ 1 _ rfl (by simp) rfl rfl (by omega) ?_); intro v' x' HO' keep; clear keep)
      go_roundw
      case rel => exact ⟨q + 1, by omega, by go_num, (by repeat (first | exact Ext.refl _ | apply Ext.more | apply Ext.alloc | apply Ext.drew | apply Ext.drewN)), by
        show World.ownsRow _ _ _ _ _ _ _
        rw [E.out]
        exact HO'.out⟩
      case measure => simp [intOf]; omega
    · obtain rfl : q = 8 := by omega
      go_wp2_with fail
      go_ret
      exact ⟨(by repeat (first | exact Ext.refl _ | apply Ext.more | apply Ext.alloc | apply Ext.drew | apply Ext.drewN)), slRet_mk HO.out (Nat.le_refl _) rfl rfl⟩

set_option maxRecDepth 100000 in
set_option maxHeartbeats 4000000 in
theorem huge_swap (w : World) (asid table place first v : Int) (h0 : 0 ≤ first) (h1 : first + 7 < 4096) :
    Calls Try.prog 92 #[.agg #[.int .i64 1, .int .i64 asid, .int .i64 2, .int .i64 table, .int .i64 place, .int .i64 first, .int .u64 0, .int .i64 0, .int .i64 0, .int .i64 0], .int .u64 v] w fun e w' => Ext w w' ∧ SlRet w.heap.size w' (swapS asid table place first v) 10 e := by
  have HT := Lib.hid (fun w => huge_tell w asid first h0 h1)
  go_enter Try.func92, Try.ntmps92
  go_wp2_with fail
  go_region_held3? (fun w' => w'.cell? ⟨w.heap.size, 0, none⟩ = some (.int .i64 1) ∧ w'.cell? ⟨w.heap.size, 1, none⟩ = some (.int .i64 asid) ∧ w'.cell? ⟨w.heap.size, 2, none⟩ = some (.int .i64 2) ∧ w'.cell? ⟨w.heap.size, 3, none⟩ = some (.int .i64 table) ∧ w'.cell? ⟨w.heap.size, 4, none⟩ = some (.int .i64 place) ∧ w'.cell? ⟨w.heap.size, 5, none⟩ = some (.int .i64 first) ∧ w'.cell? ⟨w.heap.size, 6, none⟩ = some (.int .u64 0) ∧ w'.cell? ⟨w.heap.size, 7, none⟩ = some (.int .i64 0) ∧ w'.cell? ⟨w.heap.size, 8, none⟩ = some (.int .i64 0) ∧ w'.cell? ⟨w.heap.size, 9, none⟩ = some (.int .i64 0)) (first | (go_simp; done) | (dsimp only; refine ⟨?_, ?_, ?_, ?_, ?_, ?_, ?_, ?_, ?_, ?_⟩ <;> go_simp))
    ((first
      | (go_at_call 137; refine (HT.out _).mono ?_; rintro e w' ⟨⟨ex1, rfl⟩, a, cap, rfl, HO⟩; have HT8 := Lib.hid (own_low HO (Nat.zero_le _)); clear HO)
      | (refine step_append_row (w.alloc (.cells #[.int .i64 1, .int .i64 asid, .int .i64 2, .int .i64 table, .int .i64 place, .int .i64 first, .int .u64 0, .int .i64 0, .int .i64 0, .int .i64 0] 73)) el_Step (by rfl) _ _ (by rfl) (.slice (some ⟨w.heap.size + 1, 0, none⟩) 1 1) 1 (wr0 asid 2 table place first 0).cells (by rfl) (by repeat (first | ((with_reducible refine own_lit' ?_ ?_ ?_ ?_ ?_ ?_); all_goals (first | rfl | (simp; done) | decide | (simp [size_more]; done) | (simp [size_more]; omega))) | (with_reducible apply own_more) | (with_reducible apply own_alloc) | (with_reducible apply own_drew) | (with_reducible apply own_drewN))) (by repeat (first | exact Ext.refl _ | apply Ext.more | apply Ext.alloc | apply Ext.drew | apply Ext.drewN)) 0 (.slice a 8 cap) 8 (CS (tellsN asid first 8)) (by rfl) (by repeat (first | (with_reducible apply own_alloc) | (with_reducible apply own_drew) | (with_reducible apply own_drewN) | exact HT8.out | (with_reducible apply own_more))) (by omega) (CS_one _) (by omega) ?_; intro v' x' HO' keep; clear keep)
      | (refine step_append_row (w.alloc (.cells #[.int .i64 1, .int .i64 asid, .int .i64 2, .int .i64 table, .int .i64 place, .int .i64 first, .int .u64 0, .int .i64 0, .int .i64 0, .int .i64 0] 73)) el_Step (by rfl) _ _ (by rfl) (.slice (some ⟨(more (w.alloc (.cells #[.int .i64 1, .int .i64 asid, .int .i64 2, .int .i64 table, .int .i64 place, .int .i64 first, .int .u64 0, .int .i64 0, .int .i64 0, .int .i64 0] 73)) ex1).heap.size, 0, none⟩) 1 1) 1 (wr0 asid 2 table place first 0).cells (by rfl) (by repeat (first | ((with_reducible refine own_lit' ?_ ?_ ?_ ?_ ?_ ?_); all_goals (first | rfl | (simp; done) | decide | (simp [size_more]; done) | (simp [size_more]; omega))) | (with_reducible apply own_more) | (with_reducible apply own_alloc) | (with_reducible apply own_drew) | (with_reducible apply own_drewN))) (by repeat (first | exact Ext.refl _ | apply Ext.more | apply Ext.alloc | apply Ext.drew | apply Ext.drewN)) 0 (.slice a 8 cap) 8 (CS (tellsN asid first 8)) (by rfl) (by repeat (first | (with_reducible apply own_alloc) | (with_reducible apply own_drew) | (with_reducible apply own_drewN) | exact HT8.out | (with_reducible apply own_more))) (by omega) (CS_one _) (by omega) ?_; intro v' x' HO' keep; clear keep)))
  all_goals
    go_wp2_with ((at_builtin; refine wpList_append_new (w.alloc (.cells #[.int .i64 1, .int .i64 asid, .int .i64 2, .int .i64 table, .int .i64 place, .int .i64 first, .int .u64 v, .int .i64 0, .int .i64 0, .int .i64 0] 73)) el_Step rfl _ _ rfl v' 9 _ rfl (by repeat (first | exact own_re HO'.out (by simp) | apply own_more | apply own_alloc | apply own_drew | apply own_drewN)) (by repeat (first | exact Ext.refl _ | apply Ext.more | apply Ext.alloc | apply Ext.drew | apply Ext.drewN)) _ _ 1 _ rfl (by simp) rfl rfl (by omega) ?_); intro v2 x2' HO2 keep; clear keep)
    go_ret
    exact ⟨(by repeat (first | exact Ext.refl _ | apply Ext.more | apply Ext.alloc | apply Ext.drew | apply Ext.drewN)), slRet_mk HO2.out (by simp) rfl (by simp [swapS, CS, wr0, Step.cells])⟩

end Go.Proofs.Ytapeoeakiphfpaa
