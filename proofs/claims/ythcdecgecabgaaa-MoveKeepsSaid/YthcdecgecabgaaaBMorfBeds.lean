import Derived.Test.YthcdecgecabgaaaBRefbFoldpMore
import Derived.Laws.AppendOwnNone
/- More laws of the walk on slices: a row appended to a row; a literal; the empty slice appended. -/
namespace Go.Proofs.Ythcdecgecabgaaa
open Go.RowKit
set_option linter.unusedVariables false
set_option linter.unusedSimpArgs false

/-- A slice that was just written out. -/
theorem own_lit (w : World) (cs : Array Value) (T : TypeId) (m sz : Nat) (h : cs.size = m * sz) (hm : m ≤ maxLen) : (w.alloc (.cells cs T)).ownsRow w.heap.size T sz (.slice (some ⟨w.heap.size, 0, none⟩) m m) m cs.toList :=
  ⟨by simpa using h, .inr ⟨w.heap.size, m, cs, rfl, Nat.le_refl _, heap_alloc_new w _, Nat.le_refl _, hm, h, List.take_of_length_le (by simp; omega)⟩⟩

/-- A row of the call's own, of at least one element, is appended to another one. -/
theorem wpList_append_row {P : Program} (W : World) {w : World} {ops : Array Oper} {rest : List Oper} {o : Oper} {a : Act} {Q : Exit → Act → World → Prop} {t e : TypeId} {z : Value} {size bytes : Nat} (el : ElemAt P t e z size bytes)
    (hgd : o.guard = none) (s x : Operand) (ho : o.op = .call { callee := .builtin .append, args := #[s, x], argTypes := #[t, t] })
    (v : Value) (n : Nat) (xs : List Value) (hs : a.eval s = v) (hown : w.ownsRow W.heap.size e size v n xs) (hW : Ext W w)
    (B2 : Nat) (v2 : Value) (m : Nat) (xs2 : List Value) (hx : a.eval x = v2) (hown2 : w.ownsRow B2 e size v2 m xs2) (hm : 1 ≤ m) (h1 : xs2.all Value.oneCell' = true) (hn : n + m ≤ 1000000)
    (h : ∀ v' x', Hid ((more W x').ownsRow W.heap.size e size v' (n + m) (xs ++ xs2)) → (∀ k ob, w.heap[k]? = some ob → v.ownBlock ≠ some k → (more W x').heap[k]? = some ob) → wpList P ops Q rest (a.put o.dst v') (more W x')) : wpList P ops Q (o :: rest) a w := by
  obtain ⟨i, hi, hz, h3, h4⟩ := info_parts el.info
  have hb : (n + m) * bytes ≤ 1000000 * 1000 := Nat.mul_le_mul hn el.small
  rcases hown2.2 with ⟨_, h0⟩ | ⟨g2, cap2, cur, rfl, _⟩
  · omega
  refine wpList_append_own w hgd s x t ho W.heap.size e i z size bytes el.sl hi hz h3 h4 el.zs el.pos v n xs hs hown ⟨g2, 0, none⟩ m cap2 xs2 hx hown2.1
    (hown2.cells (g := g2) rfl) (by intro u hu; exact List.all_eq_true.1 h1 u hu) (by unfold maxLen; omega) (by omega) hW.size ?_
  intro v' w' ho' hg' _
  obtain ⟨x', rfl⟩ := more_of_grow (grow_row hW.grow hown hg')
  exact h v' x' ho' fun k ob hk hne => (hg'.block k (Array.getElem?_eq_some_iff.1 hk).1 (fun e => hne e.symm)).trans hk
/-- As wpList_append_new, in a region that draws its order; the elements lie in a block that is known whole. -/
theorem step_append_new {P : Program} (W : World) {w : World} {ops : Array Oper} {o : Oper} {a : Act} {K : Act → World → Prop} {Q : Exit → Act → World → Prop} {E : Prop} {t e : TypeId} {z : Value} {size bytes : Nat} (el : ElemAt P t e z size bytes)
    (hgd : o.guard = none) (s x : Operand) (ho : o.op = .call { callee := .builtin .append, args := #[s, x], argTypes := #[t, t] })
    (v : Value) (n : Nat) (xs : List Value) (hs : a.eval s = v) (hown : w.ownsRow W.heap.size e size v n xs) (hW : Ext W w)
    (cs : Array Value) (T : TypeId) (m ad : Nat) (hx : a.eval x = .slice (some ⟨ad, 0, none⟩) m m) (hbox : w.heap[ad]? = some (.cells cs T (0, 0))) (hl : cs.size = m * size) (h1 : cs.toList.all Value.oneCell' = true) (hn : n + m ≤ 1000000)
    (h : ∀ v' x', Hid ((more W x').ownsRow W.heap.size e size v' (n + m) (xs ++ cs.toList)) → (∀ k ob, w.heap[k]? = some ob → v.ownBlock ≠ some k → (more W x').heap[k]? = some ob) → K (a.put o.dst v') (more W x')) :
    if Region.wanted o (yielded ops a.tmps) = true then Oper.wp P o a w K Q else E := by
  have hw : Region.wanted o (yielded ops a.tmps) = true := by simp [Region.wanted, hgd]
  rw [if_pos hw]
  obtain ⟨i, hi, hz, h3, h4⟩ := info_parts el.info
  have hb : (n + m) * bytes ≤ 1000000 * 1000 := Nat.mul_le_mul hn el.small
  refine wp_append_own w s x t ho W.heap.size e i z size bytes el.sl hi hz h3 h4 el.zs el.pos v n xs hs hown ⟨ad, 0, none⟩ m m cs.toList hx (by simpa using hl)
    (block_news' hbox) (by intro u hu; exact List.all_eq_true.1 h1 u hu) (by unfold maxLen; omega) (by omega) hW.size ?_
  intro v' w' ho' hg' _
  obtain ⟨x', rfl⟩ := more_of_grow (grow_row hW.grow hown hg')
  exact h v' x' ho' fun k ob hk hne => (hg'.block k (Array.getElem?_eq_some_iff.1 hk).1 (fun e => hne e.symm)).trans hk
/-- A row of the call's own, empty or not, is appended to another one. -/
theorem wpList_append_any {P : Program} (W : World) {w : World} {ops : Array Oper} {rest : List Oper} {o : Oper} {a : Act} {Q : Exit → Act → World → Prop} {t e : TypeId} {z : Value} {size bytes : Nat} (el : ElemAt P t e z size bytes)
    (hgd : o.guard = none) (s x : Operand) (ho : o.op = .call { callee := .builtin .append, args := #[s, x], argTypes := #[t, t] })
    (v : Value) (n : Nat) (xs : List Value) (hs : a.eval s = v) (hown : w.ownsRow W.heap.size e size v n xs) (hW : Ext W w)
    (B2 : Nat) (v2 : Value) (m : Nat) (xs2 : List Value) (hx : a.eval x = v2) (hown2 : w.ownsRow B2 e size v2 m xs2) (h1 : xs2.all Value.oneCell' = true) (hn : n + m ≤ 1000000)
    (h : ∀ v' x', Hid ((more W x').ownsRow W.heap.size e size v' (n + m) (xs ++ xs2)) → (∀ k ob, w.heap[k]? = some ob → v.ownBlock ≠ some k → (more W x').heap[k]? = some ob) → wpList P ops Q rest (a.put o.dst v') (more W x')) : wpList P ops Q (o :: rest) a w := by
  by_cases hv : v2 = .slice none 0 0
  · subst hv
    obtain ⟨i, hi, _⟩ := info_parts el.info
    have hm : m = 0 := by
      rcases hown2.2 with ⟨_, h0⟩ | ⟨g2, cap2, cur, h0, _⟩
      · exact h0
      · cases h0
    subst hm
    have hxs : xs2 = [] := List.eq_nil_of_length_eq_zero (by simpa using hown2.1)
    subst hxs
    obtain ⟨x', rfl⟩ := hW
    refine wpList_append_own_none hgd s x t ho W.heap.size e i size el.sl hi v n xs hs hown hx ?_
    exact h v x' (show World.ownsRow _ _ _ _ _ _ _ by simpa using hown) (fun k ob hk _ => hk)
  · obtain ⟨i, hi, hz, h3, h4⟩ := info_parts el.info
    have hb : (n + m) * bytes ≤ 1000000 * 1000 := Nat.mul_le_mul hn el.small
    rcases hown2.2 with ⟨h0, _⟩ | ⟨g2, cap2, cur, rfl, _⟩
    · exact absurd h0 hv
    refine wpList_append_own w hgd s x t ho W.heap.size e i z size bytes el.sl hi hz h3 h4 el.zs el.pos v n xs hs hown ⟨g2, 0, none⟩ m cap2 xs2 hx hown2.1
      (hown2.cells (g := g2) rfl) (by intro u hu; exact List.all_eq_true.1 h1 u hu) (by unfold maxLen; omega) (by omega) hW.size ?_
    intro v' w' ho' hg' _
    obtain ⟨x', rfl⟩ := more_of_grow (grow_row hW.grow hown hg')
    exact h v' x' ho' fun k ob hk hne => (hg'.block k (Array.getElem?_eq_some_iff.1 hk).1 (fun e => hne e.symm)).trans hk
/-- A contract's row, its base lowered. -/
theorem all_flat {α β : Type} (f : α → List β) (p : β → Bool) (h : ∀ a, (f a).all p = true) (l : List α) : (l.map f).flatten.all p = true := by
  induction l with
  | nil => rfl
  | cons a t ih => simp only [List.map_cons, List.flatten_cons, List.all_append, h a, ih, Bool.and_self]

/-- An element of a row of the call's own. -/
theorem own_at {w : World} {B sz n cap : Nat} {E : TypeId} {a : Option Addr} {xs : List Value} (h : w.ownsRow B E sz (.slice a n cap) n xs) (hn : 0 < n) : ∃ g, a = some ⟨g, 0, none⟩ ∧ B ≤ g ∧ g < w.heap.size ∧ n ≤ cap ∧ (∀ i u, xs[i]? = some u → w.cell? ⟨g, i, none⟩ = some u) ∧ ∀ i, w.frozen? ⟨g, i, none⟩ = false := by
  rcases h.2 with ⟨h1, h2⟩ | ⟨g, cap', cur, h1, h2, h3, h4, h5, h6, h7⟩
  · omega
  · simp only [Value.slice.injEq] at h1
    obtain ⟨rfl, _, rfl⟩ := h1
    refine ⟨g, rfl, h2, (Array.getElem?_eq_some_iff.1 h3).1, h4, fun i u hu => ?_, fun i => frozen_of_row _ _ _ _ _ h3⟩
    rw [cell_of_row w g i _ _ _ h3]
    rw [← h7, List.getElem?_take] at hu
    split at hu
    · simpa using hu
    · cases hu
theorem own_cap {w : World} {B sz n cap m : Nat} {E : TypeId} {a : Option Addr} {xs : List Value} (h : w.ownsRow B E sz (.slice a m cap) n xs) : m = n ∧ n ≤ cap ∧ cap ≤ maxLen := by
  rcases h.2 with ⟨h1, h2⟩ | ⟨g, cap', cur, h1, h2, h3, h4, h5, h6, h7⟩
  · simp only [Value.slice.injEq] at h1
    omega
  · simp only [Value.slice.injEq] at h1
    omega
theorem flat_one {α : Type} (f : α → Value) (l : List α) (i : Nat) (x : α) (h : l[i]? = some x) : ((l.map fun a => [f a]).flatten)[i]? = some (f x) := by
  have := flatten_at 1 (l.map fun a => [f a]) i 0 [f x] (f x) (by simp) (by simp [h]) rfl
  simpa using this

end Go.Proofs.Ythcdecgecabgaaa

/- Several rows of the call's own, beside each other: what an append to one of them leaves of the others. -/
namespace Go.Proofs.Ythcdecgecabgaaa
open Go.RowKit
set_option linter.unusedVariables false
set_option linter.unusedSimpArgs false

section
variable {P : Program} (w : World)
/-- As run_append_own, and which block the answer has. -/
theorem run_append_blk (base : Nat) (t ty e : TypeId) (i : TypeInfo) (z : Value) (size bytes : Nat) (ht : P.underlying t = some (.slice e)) (hi : P.info? e = some i) (hz : i.zero = some z)
    (hsize : i.size = size) (hby : i.bytes = bytes) (hzs : z.cells.size = size) (hsz : 0 < size)
    (v : Value) (n : Nat) (xs : List Value) (hown : w.ownsRow base e size v n xs)
    (a : Addr) (m c : Nat) (news : List Value) (hl : news.length = m * size) (hnews : ∀ j u, news[j]? = some u → w.cell? (a.add j) = some u) (h1 : ∀ u ∈ news, u.oneCell' = true)
    (h63 : n + m ≤ maxLen) (hbytes : (n + m) * bytes ≤ 140737488355328) (hbase : base ≤ w.heap.size) :
    ∃ v' w', (Builtin.append_ #[t, t] ty #[v, .slice (some a) m c]).run P w = .ok v' w' ∧ w'.ownsRow base e size v' (n + m) (xs ++ news) ∧ w.grownBy w' v.ownBlock ∧
      (v'.ownBlock = v.ownBlock ∨ v'.ownBlock = some w.heap.size) := by
  obtain ⟨v', w', hr, h2, h3, h4⟩ := run_append_own (P := P) w base t ty e i z size bytes ht hi hz hsize hby hzs hsz v n xs hown a m c news hl hnews h1 h63 hbytes hbase
  refine ⟨v', w', hr, h2, h3, ?_⟩
  subst hsize
  subst hby
  simp only [maxLen] at h63
  rcases hown.2 with ⟨rfl, rfl⟩ | ⟨g, cap, cur, rfl, hbg, hg, hnc, hcm, hcs, htake⟩
  · by_cases hm : m = 0
    · exact .inl (by rw [h4.2 ⟨rfl, hm⟩])
    · have hr' := run_append_nil (P := P) w t ty e i z ht hi hz a m c news hl hnews (by omega) (by omega) (by have hb := hbytes; simp only [Nat.zero_add] at hb; omega)
      rw [hr] at hr'
      cases hr'
      exact .inr rfl
  · by_cases hroom : n + m ≤ cap
    · have hfit : n * i.size + news.length ≤ cur.size := by rw [hl, hcs, ← Nat.add_mul]; exact Nat.mul_le_mul_right _ hroom
      have hr' := run_append_room (P := P) w t ty e i ht hi g n cap cur hg a m c news hl hnews h1 hroom hfit
      rw [hr] at hr'
      cases hr'
      exact .inl rfl
    · have holds : ∀ j u, xs[j]? = some u → w.cell? ((⟨g, 0, none⟩ : Addr).add j) = some u := hown.cells (g := g) rfl
      have hr' := run_append_grow (P := P) w t ty e i z ht hi hz ⟨g, 0, none⟩ n cap xs hown.1 holds a m c news hl hnews (by omega) (by omega) (growslice_fits (by omega) hbytes)
      rw [hr] at hr'
      cases hr'
      exact .inr rfl
theorem wp_append_blk {o : Oper} {a : Act} {K : Act → World → Prop} {Q : Exit → Act → World → Prop} (s x : Operand) (t : TypeId)
    (ho : o.op = .call { callee := .builtin .append, args := #[s, x], argTypes := #[t, t] })
    (base : Nat) (e : TypeId) (i : TypeInfo) (z : Value) (size bytes : Nat) (ht : P.underlying t = some (.slice e)) (hi : P.info? e = some i) (hz : i.zero = some z)
    (hsize : i.size = size) (hby : i.bytes = bytes) (hzs : z.cells.size = size) (hsz : 0 < size)
    (v : Value) (n : Nat) (xs : List Value) (hs : a.eval s = v) (hown : w.ownsRow base e size v n xs)
    (ad : Addr) (m c : Nat) (news : List Value) (hx : a.eval x = .slice (some ad) m c) (hl : news.length = m * size) (hnews : ∀ j u, news[j]? = some u → w.cell? (ad.add j) = some u) (h1 : ∀ u ∈ news, u.oneCell' = true)
    (h63 : n + m ≤ maxLen) (hbytes : (n + m) * bytes ≤ 140737488355328) (hbase : base ≤ w.heap.size)
    (h : ∀ v' w', w'.ownsRow base e size v' (n + m) (xs ++ news) → w.grownBy w' v.ownBlock → (v'.ownBlock = v.ownBlock ∨ v'.ownBlock = some w.heap.size) → K (a.put o.dst v') w') : o.wp P a w K Q := by
  obtain ⟨v', w', hr, h2, h3, h4⟩ := run_append_blk (P := P) w base t o.type e i z size bytes ht hi hz hsize hby hzs hsz v n xs hown ad m c news hl hnews h1 h63 hbytes hbase
  unfold Oper.wp execOp
  simp only [ho, resolve, invoke, builtin, Sem.run_bind, Sem.run_pure, Result.andThen_ok, List.map_toArray, List.map_cons, List.map_nil, hs, hx, hr]
  exact h v' w' h2 h3 h4
end

/-- Two rows of the call's own lie in different blocks. -/
def Sep (u v : Value) : Prop := ∀ g, u.ownBlock = some g → v.ownBlock ≠ some g
theorem Sep.symm {u v : Value} (h : Sep u v) : Sep v u := fun g h1 h2 => h g h2 h1
theorem sep_nil (v : Value) : Sep (.slice none 0 0) v := fun g h => by cases h
/-- Beds of the call's own, of one kind, in different blocks. -/
structure Beds (w : World) (B : Nat) (T : TypeId) (sz : Nat) (l : List (Value × Nat × List Value)) : Prop where
  all : ∀ r ∈ l, w.ownsRow B T sz r.1 r.2.1 r.2.2
  seps : l.Pairwise fun a b => Sep a.1 b.1
section
variable {w : World} {B : Nat} {T : TypeId} {sz : Nat} {l : List (Value × Nat × List Value)}
theorem Beds.more (h : Beds w B T sz l) (x : Array Obj × Nat) : Beds (more w x) B T sz l := ⟨fun r hr => own_more (h.1 r hr) x, h.2⟩
theorem Beds.alloc (h : Beds w B T sz l) (o : Obj) : Beds (w.alloc o) B T sz l := ⟨fun r hr => own_alloc (h.1 r hr) o, h.2⟩
theorem Beds.drew (h : Beds w B T sz l) : Beds w.drew B T sz l := ⟨h.1, h.2⟩
theorem Beds.drewN (h : Beds w B T sz l) (k : Nat) : Beds (w.drewN k) B T sz l := ⟨h.1, h.2⟩
theorem Beds.own (h : Beds w B T sz l) (i : Nat) (r : Value × Nat × List Value) (hr : l[i]? = some r) : w.ownsRow B T sz r.1 r.2.1 r.2.2 := h.1 r (List.mem_of_getElem? hr)
theorem beds_nil3 (w : World) (B : Nat) (T : TypeId) (sz : Nat) : Beds w B T sz [(.slice none 0 0, 0, []), (.slice none 0 0, 0, []), (.slice none 0 0, 0, [])] :=
  ⟨fun r hr => by simp at hr; subst hr; exact World.ownsRow_nil _ _ _ _, by refine .cons (fun a _ => sep_nil _) (.cons (fun a _ => sep_nil _) (.cons (fun a _ => sep_nil _) .nil))⟩
theorem beds_nil2 (w : World) (B : Nat) (T : TypeId) (sz : Nat) : Beds w B T sz [(.slice none 0 0, 0, []), (.slice none 0 0, 0, [])] :=
  ⟨fun r hr => by simp at hr; subst hr; exact World.ownsRow_nil _ _ _ _, by refine .cons (fun a _ => sep_nil _) (.cons (fun a _ => sep_nil _) .nil)⟩
/-- The same rows in another order. -/
theorem Beds.perm (h : Beds w B T sz l) {l' : List (Value × Nat × List Value)} (hp : l.Perm l') : Beds w B T sz l' := ⟨fun r hr => h.1 r (hp.mem_iff.2 hr), hp.pairwise h.2 (fun s => s.symm)⟩
theorem own_beside {w w' : World} {B sz n : Nat} {T : TypeId} {v : Value} {xs : List Value} (h : w.ownsRow B T sz v n xs) (hk : ∀ k ob, w.heap[k]? = some ob → v.ownBlock = some k → w'.heap[k]? = some ob) : w'.ownsRow B T sz v n xs :=
  ⟨h.1, h.2.imp id fun ⟨g, cap, cur, a, b, c, d⟩ => ⟨g, cap, cur, a, b, hk g _ c (by rw [a]; rfl), d⟩⟩
/-- What an append to the first leaves. -/
theorem Beds.put {w' : World} {v v' : Value} {n n' : Nat} {xs xs' : List Value} (h : Beds w B T sz ((v, n, xs) :: l)) (ho : w'.ownsRow B T sz v' n' xs')
    (keep : ∀ k ob, w.heap[k]? = some ob → v.ownBlock ≠ some k → w'.heap[k]? = some ob) (blk : v'.ownBlock = v.ownBlock ∨ ∃ g, v'.ownBlock = some g ∧ w.heap.size ≤ g) : Beds w' B T sz ((v', n', xs') :: l) := by
  have h2 := List.pairwise_cons.1 h.2
  refine ⟨fun r hr => ?_, List.pairwise_cons.2 ⟨fun r hr => ?_, h2.2⟩⟩
  · rcases List.mem_cons.1 hr with rfl | hr
    · exact ho
    · exact own_beside (h.1 r (.tail _ hr)) fun k ob hk e => keep k ob hk fun e' => h2.1 r hr k e' e
  · rcases blk with e | ⟨g, e, hg⟩
    · intro k hk
      exact h2.1 r hr k (e ▸ hk)
    · intro k hk hk'
      have := (World.ownsRow.lt (h.1 r (.tail _ hr)) k hk').2
      rw [e] at hk
      cases hk
      omega
theorem Beds.swap {a b : Value × Nat × List Value} (h : Beds w B T sz (a :: b :: l)) : Beds w B T sz (b :: a :: l) := h.perm (.swap _ _ _)
theorem Beds.third {a b c : Value × Nat × List Value} (h : Beds w B T sz (a :: b :: c :: l)) : Beds w B T sz (c :: a :: b :: l) := h.perm ((List.Perm.cons _ (.swap _ _ _)).trans (.swap _ _ _))
theorem Beds.fourth {a b c d : Value × Nat × List Value} (h : Beds w B T sz (a :: b :: c :: d :: l)) : Beds w B T sz (d :: a :: b :: c :: l) := h.perm ((List.Perm.cons _ ((List.Perm.cons _ (.swap _ _ _)).trans (.swap _ _ _))).trans (.swap _ _ _))
theorem Beds.rev3 {a b c : Value × Nat × List Value} (h : Beds w B T sz [a, b, c]) : Beds w B T sz [c, b, a] := h.third.perm (.cons _ (.swap _ _ _))
theorem Beds.tail {r : Value × Nat × List Value} (h : Beds w B T sz (r :: l)) : Beds w B T sz l := ⟨fun a ha => h.1 a (.tail _ ha), (List.pairwise_cons.1 h.2).2⟩
/-- A fresh block beside them. -/
theorem Beds.new (h : Beds w B T sz l) (hB : B ≤ w.heap.size) (cs : Array Value) (m : Nat) (hm : m ≤ maxLen) (hc : cs.size = m * sz) : Beds (w.alloc (.cells cs T)) B T sz ((.slice (some ⟨w.heap.size, 0, none⟩) m m, m, cs.toList) :: l) := by
  refine ⟨fun r hr => ?_, List.pairwise_cons.2 ⟨fun r hr k hk hk' => ?_, h.2⟩⟩
  · rcases List.mem_cons.1 hr with rfl | hr
    · exact own_low (own_lit w cs T m sz hc hm) hB
    · exact own_alloc (h.1 r hr) _
  · have := (World.ownsRow.lt (h.1 r hr) k hk').2
    cases hk
    exact absurd this (Nat.lt_irrefl _)
/-- A cell of the first's block is set. -/
theorem Beds.set {k m : Nat} {cs : List Value} (h : Beds w B T sz ((.slice (some ⟨k, 0, none⟩) m m, m, cs) :: l)) (i : Nat) (u : Value) (hi : i < cs.length) : Beds (w.setCell ⟨k, i, none⟩ u) B T sz ((.slice (some ⟨k, 0, none⟩) m m, m, cs.set i u) :: l) := by
  have h2 := List.pairwise_cons.1 h.2
  refine ⟨fun r hr => ?_, List.pairwise_cons.2 ⟨fun r hr => h2.1 r hr, h2.2⟩⟩
  rcases List.mem_cons.1 hr with rfl | hr
  · have ho : w.ownsRow B T sz (.slice (some ⟨k, 0, none⟩) m m) m cs := h.1 _ (.head _)
    have hl : cs.length = m * sz := ho.1
    rcases ho.2 with ⟨e, _⟩ | ⟨g, cap, cur, e, h3, h4, h5, h6, h7, h8⟩
    · cases e
    · simp only [Value.slice.injEq] at e
      obtain ⟨e1, _, rfl⟩ := e
      cases e1
      refine ⟨by simpa using hl, .inr ⟨k, m, cur.set! i u, rfl, h3, heap_setCell_same w k i _ _ u h4, h5, h6, by simpa using h7, ?_⟩⟩
      have e2 : cur.toList = cs := by rw [← h8, List.take_of_length_le (by simp; omega)]
      simp [e2, List.take_of_length_le, hl]
  · exact ownsRow_setCell_other (h.1 r (.tail _ hr)) (fun e => h2.1 r hr k rfl e) u
theorem Beds.box {k m : Nat} {cs : List Value} (h : Beds w B T sz ((.slice (some ⟨k, 0, none⟩) m m, m, cs) :: l)) : w.heap[k]? = some (.cells cs.toArray T (0, 0)) ∧ B ≤ k := by
  have ho : w.ownsRow B T sz (.slice (some ⟨k, 0, none⟩) m m) m cs := h.1 _ (.head _)
  have hl : cs.length = m * sz := ho.1
  rcases ho.2 with ⟨e, _⟩ | ⟨g, cap, cur, e, h3, h4, h5, h6, h7, h8⟩
  · cases e
  · simp only [Value.slice.injEq] at e
    obtain ⟨e1, _, rfl⟩ := e
    cases e1
    have e2 : cur.toList = cs := by rw [← h8, List.take_of_length_le (by simp; omega)]
    rw [← e2]
    exact ⟨h4, h3⟩
end

theorem wpList_append_newB {P : Program} (W : World) {w : World} {ops : Array Oper} {rest : List Oper} {o : Oper} {a : Act} {Q : Exit → Act → World → Prop} {t e : TypeId} {z : Value} {size bytes : Nat} (el : ElemAt P t e z size bytes)
    (hgd : o.guard = none) (s x : Operand) (ho : o.op = .call { callee := .builtin .append, args := #[s, x], argTypes := #[t, t] })
    (v : Value) (n : Nat) (xs : List Value) (hs : a.eval s = v) (hown : w.ownsRow W.heap.size e size v n xs) (hW : Ext W w)
    (cs : Array Value) (T : TypeId) (m ad : Nat) (hx : a.eval x = .slice (some ⟨ad, 0, none⟩) m m) (had : ad = w.heap.size) (hl : cs.size = m * size) (h1 : cs.toList.all Value.oneCell' = true) (hn : n + m ≤ 1000000)
    (h : ∀ v' x', Hid ((more W x').ownsRow W.heap.size e size v' (n + m) (xs ++ cs.toList)) → (∀ k ob, w.heap[k]? = some ob → v.ownBlock ≠ some k → (more W x').heap[k]? = some ob) → (v'.ownBlock = v.ownBlock ∨ ∃ g, v'.ownBlock = some g ∧ w.heap.size ≤ g) → wpList P ops Q rest (a.put o.dst v') (more W x')) : wpList P ops Q (o :: rest) a (w.alloc (.cells cs T)) := by
  obtain ⟨i, hi, hz, h3, h4⟩ := info_parts el.info
  subst had
  have hb : (n + m) * bytes ≤ 1000000 * 1000 := Nat.mul_le_mul hn el.small
  refine wpList_plain hgd fun _ hK => wp_append_blk (w.alloc (.cells cs T)) s x t ho W.heap.size e i z size bytes el.sl hi hz h3 h4 el.zs el.pos v n xs hs (hown.alloc _) ⟨w.heap.size, 0, none⟩ m m cs.toList hx (by simpa using hl)
    (block_news' (heap_alloc_new w _)) (by intro u hu; exact List.all_eq_true.1 h1 u hu) (by unfold maxLen; omega) (by omega) (by have := hW.size; simp; omega) ?_
  intro v' w' ho' hg' hb'
  obtain ⟨x', rfl⟩ := more_of_grow (grow_row (hW.alloc (.cells cs T)).grow hown hg')
  refine hK _ _ (h v' x' ho' (fun k ob hk hne => (hg'.block k (by have := (Array.getElem?_eq_some_iff.1 hk).1; simp; omega) (fun e => hne e.symm)).trans (box_alloc hk _)) (hb'.imp id fun e => ⟨_, e, by simp⟩))
theorem wpList_append_rowB {P : Program} (W : World) {w : World} {ops : Array Oper} {rest : List Oper} {o : Oper} {a : Act} {Q : Exit → Act → World → Prop} {t e : TypeId} {z : Value} {size bytes : Nat} (el : ElemAt P t e z size bytes)
    (hgd : o.guard = none) (s x : Operand) (ho : o.op = .call { callee := .builtin .append, args := #[s, x], argTypes := #[t, t] })
    (v : Value) (n : Nat) (xs : List Value) (hs : a.eval s = v) (hown : w.ownsRow W.heap.size e size v n xs) (hW : Ext W w)
    (B2 : Nat) (v2 : Value) (m : Nat) (xs2 : List Value) (hx : a.eval x = v2) (hown2 : w.ownsRow B2 e size v2 m xs2) (hm : 1 ≤ m) (h1 : xs2.all Value.oneCell' = true) (hn : n + m ≤ 1000000)
    (h : ∀ v' x', Hid ((more W x').ownsRow W.heap.size e size v' (n + m) (xs ++ xs2)) → (∀ k ob, w.heap[k]? = some ob → v.ownBlock ≠ some k → (more W x').heap[k]? = some ob) → (v'.ownBlock = v.ownBlock ∨ ∃ g, v'.ownBlock = some g ∧ w.heap.size ≤ g) → wpList P ops Q rest (a.put o.dst v') (more W x')) : wpList P ops Q (o :: rest) a w := by
  obtain ⟨i, hi, hz, h3, h4⟩ := info_parts el.info
  have hb : (n + m) * bytes ≤ 1000000 * 1000 := Nat.mul_le_mul hn el.small
  rcases hown2.2 with ⟨_, h0⟩ | ⟨g2, cap2, cur, rfl, _⟩
  · omega
  refine wpList_plain hgd fun _ hK => wp_append_blk w s x t ho W.heap.size e i z size bytes el.sl hi hz h3 h4 el.zs el.pos v n xs hs hown ⟨g2, 0, none⟩ m cap2 xs2 hx hown2.1
    (hown2.cells (g := g2) rfl) (by intro u hu; exact List.all_eq_true.1 h1 u hu) (by unfold maxLen; omega) (by omega) hW.size ?_
  intro v' w' ho' hg' hb'
  obtain ⟨x', rfl⟩ := more_of_grow (grow_row hW.grow hown hg')
  exact hK _ _ (h v' x' ho' (fun k ob hk hne => (hg'.block k (Array.getElem?_eq_some_iff.1 hk).1 (fun e => hne e.symm)).trans hk) (hb'.imp id fun e => ⟨_, e, Nat.le_refl _⟩))
/-- A world in which a new block's cell was set, spelled anew. -/
theorem wp_settle {P : Program} (W : World) {w : World} {ops : Array Oper} {l : List Oper} {a : Act} {Q : Exit → Act → World → Prop} {k i : Nat} {u : Value} (hW : Ext W w) (hk : W.heap.size ≤ k)
    (h : ∀ x', more W x' = w.setCell ⟨k, i, none⟩ u → wpList P ops Q l a (more W x')) : wpList P ops Q l a (w.setCell ⟨k, i, none⟩ u) := by
  have hg : W.grownBy (w.setCell ⟨k, i, none⟩ u) none := ⟨hW.grow.os, hW.grow.tape, hW.grow.output, by simpa using hW.size, fun j hj e => by rw [heap_setCell_other _ _ _ _ (by show j ≠ k; omega)]; exact hW.grow.block j hj e⟩
  obtain ⟨x', hx⟩ := more_of_grow hg
  rw [hx]
  exact h x' hx.symm

end Go.Proofs.Ythcdecgecabgaaa
