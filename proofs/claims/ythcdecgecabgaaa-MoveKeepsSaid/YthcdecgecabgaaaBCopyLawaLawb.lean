import Derived.Test.YthcdecgecabgaaaReff
import Derived.Test.YthcdecgecabgaaaPrune
import Derived.Test.YthcdecgecabgaaaBPhytWalk
import Derived.Test.YthcdecgecabgaaaOpen
/- The contract of the document's answer paviorref12.Copy: words in new memory. -/
namespace Go.Proofs.Ythcdecgecabgaaa
open Go.RowKit
set_option linter.unusedVariables false
set_option linter.unusedSimpArgs false
attribute [local go_sem] setCell_drewN alloc_drewN lt_moreE le_moreE lt_moreK le_moreK cell_more frozen_more set_more drew_more drewN_more

/-- Elements that lie anywhere are appended to a slice of the call's own. -/
theorem wpList_append_at {P : Program} (W : World) {w : World} {ops : Array Oper} {rest : List Oper} {o : Oper} {a : Act} {Q : Exit → Act → World → Prop} {t e : TypeId} {z : Value} {size bytes : Nat} (el : ElemAt P t e z size bytes)
    (hgd : o.guard = none) (s x : Operand) (ho : o.op = .call { callee := .builtin .append, args := #[s, x], argTypes := #[t, t] })
    (v : Value) (n : Nat) (xs : List Value) (hs : a.eval s = v) (hown : w.ownsRow W.heap.size e size v n xs) (hW : Ext W w)
    (b cap m : Nat) (cs : List Value) (hx : a.eval x = .slice (some ⟨b, 0, none⟩) m cap) (hl : cs.length = m * size) (hc : ∀ j u, cs[j]? = some u → w.cell? ⟨b, j, none⟩ = some u) (h1 : cs.all Value.oneCell' = true) (hn : n + m ≤ 1000000)
    (h : ∀ v' x', Hid ((more W x').ownsRow W.heap.size e size v' (n + m) (xs ++ cs)) → (∀ k ob, w.heap[k]? = some ob → v.ownBlock ≠ some k → (more W x').heap[k]? = some ob) → wpList P ops Q rest (a.put o.dst v') (more W x')) : wpList P ops Q (o :: rest) a w := by
  obtain ⟨i, hi, hz, h3, h4⟩ := info_parts el.info
  have hb : (n + m) * bytes ≤ 1000000 * 1000 := Nat.mul_le_mul hn el.small
  refine wpList_append_own w hgd s x t ho W.heap.size e i z size bytes el.sl hi hz h3 h4 el.zs el.pos v n xs hs hown ⟨b, 0, none⟩ m cap cs hx hl
    (by
      intro j u hu
      have hadd : (⟨b, 0, none⟩ : Addr).add j = ⟨b, j, none⟩ := by unfold Addr.add; split <;> simp_all
      rw [hadd]; exact hc j u hu) (by intro u hu; exact List.all_eq_true.1 h1 u hu) (by unfold maxLen; omega) (by omega) hW.size ?_
  intro v' w' ho' hg' _
  obtain ⟨x', rfl⟩ := more_of_grow (grow_row hW.grow hown hg')
  exact h v' x' ho' fun k ob hk hne => (hg'.block k (Array.getElem?_eq_some_iff.1 hk).1 (fun e => hne e.symm)).trans hk

theorem el_words : ElemAt Try.prog 49 44 (.int .u64 0) 1 8 := ⟨Try.underlying49, by kernel_rfl, rfl, by decide, by decide⟩
theorem el_rows : ElemAt Try.prog 28 49 (.slice none 0 0) 1 24 := ⟨Try.underlying28, by kernel_rfl, rfl, by decide, by decide⟩
/-- A frame's words. -/
def rowW (us : List Int) (i : Nat) : List Value := (List.range 8).map fun j => .int .u64 (us.getD (i * 8 + j) 0)
theorem rowW_len (us : List Int) (i : Nat) : (rowW us i).length = 8 := by simp [rowW]
theorem rowW_at (us : List Int) (i j : Nat) (hj : j < 8) : (rowW us i)[j]? = some (.int .u64 (us.getD (i * 8 + j) 0)) := by simp [rowW, hj]
theorem rowW_one (us : List Int) (i : Nat) : (rowW us i).all Value.oneCell' = true := by simp [rowW, Value.oneCell']
theorem RefAt.rowc {w : World} {h hc n : Nat} {gb gc : Nat → Nat} {us : List Int} (r : RefAt w h hc n gb gc us) (i : Nat) (hi : i < n) : ∀ j u, (rowW us i)[j]? = some u → w.cell? ⟨gb i, j, none⟩ = some u := by
  intro j u hu
  have hj : j < 8 := by have := (List.getElem?_eq_some_iff.1 hu).1; rwa [rowW_len] at this
  rw [rowW_at _ _ _ hj] at hu
  rw [← Option.some.inj hu]
  exact r.cell i j hi hj
/-- So many rows are copied. -/
def CopyRows (W wr : World) (us : List Int) (v : Value) (k : Nat) : Prop := ∃ gb gc : Nat → Nat, wr.ownsRow W.heap.size 49 1 v k ((List.range k).map fun j => .slice (some ⟨gb j, 0, none⟩) 8 (gc j)) ∧
    (∀ j, j < k → W.heap.size ≤ gb j ∧ 8 ≤ gc j ∧ ∃ cur, wr.heap[gb j]? = some (.cells cur 44 (0, 0)) ∧ ∀ i, i < 8 → cur[i]? = some (.int .u64 (us.getD (j * 8 + i) 0))) ∧ (∀ i j, i < k → j < k → gb i = gb j → i = j)
theorem copyRows_nil (W wr : World) (us : List Int) : CopyRows W wr us (.slice none 0 0) 0 := ⟨fun _ => 0, fun _ => 0, World.ownsRow_nil _ _ _ _, by omega, by omega⟩
/-- One row more: it lies in a block behind the world at the round's head. -/
theorem copyRows_step {W wr w1 w2 : World} {us : List Int} {v v' : Value} {k g c : Nat} {gb gc : Nat → Nat} (hW : W.heap.size ≤ wr.heap.size)
    (hown : wr.ownsRow W.heap.size 49 1 v k ((List.range k).map fun j => .slice (some ⟨gb j, 0, none⟩) 8 (gc j)))
    (hrows : ∀ j, j < k → W.heap.size ≤ gb j ∧ 8 ≤ gc j ∧ ∃ cur, wr.heap[gb j]? = some (.cells cur 44 (0, 0)) ∧ ∀ i, i < 8 → cur[i]? = some (.int .u64 (us.getD (j * 8 + i) 0)))
    (hinj : ∀ i j, i < k → j < k → gb i = gb j → i = j) (hE : Ext wr w1)
    (hrow : w1.ownsRow wr.heap.size 44 1 (.slice (some ⟨g, 0, none⟩) 8 c) 8 (rowW us k))
    (hown' : w2.ownsRow W.heap.size 49 1 v' (k + 1) (((List.range k).map fun j => .slice (some ⟨gb j, 0, none⟩) 8 (gc j)) ++ [.slice (some ⟨g, 0, none⟩) 8 c]))
    (keep : ∀ q ob, w1.heap[q]? = some ob → v.ownBlock ≠ some q → w2.heap[q]? = some ob) : CopyRows W w2 us v' (k + 1) := by
  have hown1 : w1.ownsRow W.heap.size 49 1 v k ((List.range k).map fun j => .slice (some ⟨gb j, 0, none⟩) 8 (gc j)) := own_ext hown hE
  have hgb : ∀ j, j < k → gb j < wr.heap.size := fun j hj => by
    obtain ⟨_, _, cur, h, _⟩ := hrows j hj
    exact (Array.getElem?_eq_some_iff.1 h).1
  obtain ⟨g', hg', hge, hgl, hcap, hcells, hfz⟩ := own_at hrow (by omega)
  obtain rfl : g = g' := by simpa using hg'
  have hbox : ∃ cur, w1.heap[g]? = some (.cells cur 44 (0, 0)) ∧ ∀ i, i < 8 → cur[i]? = some (.int .u64 (us.getD (k * 8 + i) 0)) := by
    rcases hrow.2 with ⟨h1, _⟩ | ⟨g2, cap2, cur, h1, _, h3, h4, _, _, h7⟩
    · cases h1
    · simp only [Value.slice.injEq, Option.some.injEq, Addr.mk.injEq] at h1
      obtain ⟨⟨rfl, _⟩, _, rfl⟩ := h1
      refine ⟨cur, h3, fun i hi => ?_⟩
      have h2 : (cur.toList.take (8 * 1))[i]? = (rowW us k)[i]? := by rw [h7]
      rw [List.getElem?_take, if_pos (by omega), rowW_at _ _ _ hi] at h2
      simpa using h2
  refine ⟨fun j => if j = k then g else gb j, fun j => if j = k then c else gc j, ?_, ?_, ?_⟩
  · rw [List.range_succ, List.map_append]
    have e : (List.range k).map (fun j => Value.slice (some ⟨if j = k then g else gb j, 0, none⟩) 8 (if j = k then c else gc j)) = (List.range k).map (fun j => Value.slice (some ⟨gb j, 0, none⟩) 8 (gc j)) := by
      apply List.map_congr_left
      intro j hj
      have := List.mem_range.1 hj
      rw [if_neg (by omega), if_neg (by omega)]
    rw [e]
    simpa using hown'
  · intro j hj
    dsimp only
    by_cases e : j = k
    · subst e
      rw [if_pos rfl, if_pos rfl]
      obtain ⟨cur, h1, h2⟩ := hbox
      exact ⟨by omega, hcap, cur, keep _ _ h1 (own_ne_box hown1 h1 (by decide)), h2⟩
    · rw [if_neg e, if_neg e]
      obtain ⟨a1, a2, cur, h1, h2⟩ := hrows j (by omega)
      have h1' : w1.heap[gb j]? = some (.cells cur 44 (0, 0)) := (hE.grow.block _ (hgb j (by omega)) (by simp)).trans h1
      exact ⟨a1, a2, cur, keep _ _ h1' (own_ne_box hown1 h1' (by decide)), h2⟩
  · intro i j hi hj
    dsimp only
    by_cases e : i = k <;> by_cases e2 : j = k
    · intro _; omega
    · rw [if_pos e, if_neg e2]; intro e3; have := hgb j (by omega); omega
    · rw [if_neg e, if_pos e2]; intro e3; have := hgb i (by omega); omega
    · rw [if_neg e, if_neg e2]; exact hinj i j (by omega) (by omega)
theorem copyRows_end {W w' : World} {us : List Int} {v : Value} {n : Nat} (h1 : 1 ≤ n) (hl : us.length = n * 8) (h : CopyRows W w' us v n) : ∃ h hc gb gc, v = .slice (some ⟨h, 0, none⟩) n hc ∧ RefAt w' h hc n gb gc us ∧ W.heap.size ≤ h ∧ ∀ i, i < n → W.heap.size ≤ gb i := by
  obtain ⟨gb, gc, hown, hrows, hinj⟩ := h
  rcases hown.2 with ⟨_, h0⟩ | ⟨g, cap, cur, rfl, hb, hg, hnc, hcm, hcs, htk⟩
  · omega
  · refine ⟨g, cap, gb, gc, rfl, ?_, hb, fun i hi => (hrows i hi).1⟩
    refine { head := ⟨cur, hg, fun i hi => ?_⟩, row := fun i hi => (hrows i hi).2.2, inj := hinj, len := hl, nc := hnc, cc := fun i hi => (hrows i hi).2.1 }
    have h2 : (cur.toList.take (n * 1))[i]? = ((List.range n).map fun j => Value.slice (some ⟨gb j, 0, none⟩) 8 (gc j))[i]? := by rw [htk]
    rw [List.getElem?_take, if_pos (by omega), List.getElem?_map, List.getElem?_range hi] at h2
    simpa using h2

set_option maxRecDepth 100000 in
set_option maxHeartbeats 2000000 in
theorem ref12_Copy (W : World) {h hc n : Nat} {gb gc : Nat → Nat} {us : List Int} (hr : RefAt W h hc n gb gc us) (h1 : 1 ≤ n) (h2 : n ≤ 512) :
    Calls Try.prog 18 #[.slice (some ⟨h, 0, none⟩) n hc] W fun e w' => Ext W w' ∧ ∃ h' hc' gb' gc', e = .returned (.slice (some ⟨h', 0, none⟩) n hc') ∧ RefAt w' h' hc' n gb' gc' us ∧ W.heap.size ≤ h' ∧ ∀ i, i < n → W.heap.size ≤ gb' i := by
  have HR := Lib.hid hr
  have hnc := hr.nc
  clear hr
  go_enter Try.func18, Try.ntmps18
  go_wp2_with fail
  go_loopw [3, 4] (fun v i wr => ∃ k : Nat, k ≤ n ∧ i = .int .i64 k ∧ Ext W wr ∧ Hid (CopyRows W wr us v k)) (fun _ i _ => n - (intOf i).toNat)
  case atStart => exact ⟨0, Nat.zero_le _, rfl, Ext.refl _, copyRows_nil _ _ _⟩
  case round =>
    obtain ⟨k, hk, rfl, hE, HC⟩ := hrel
    have HE := Lib.hid hE
    clear hE
    have hRw : RefAt wr h hc n gb gc us := HR.out.kept0 HE.out.grow
    by_cases hlt : k < n
    · obtain ⟨gb', gc', ho, hrows, hinj⟩ := HC.out
      have HO := Lib.hid ho
      have HRows := Lib.hid hrows
      have HJ := Lib.hid hinj
      have HRw := Lib.hid hRw
      have y0 := hRw.hcell k hlt
      have hlt1 := hRw.lth
      have hlt2 := hRw.ltg k hlt
      have hcc := hRw.cc k hlt
      obtain ⟨p1, p2, p3⟩ := lt_facts hlt1
      obtain ⟨p4, p5, p6⟩ := lt_facts hlt2
      obtain ⟨va, vcap, rfl⟩ := own_form ho
      have tok1 : True := trivial
      have hWs := HE.out.size
      clear HC ho hrows hinj hRw
      go_wp2_with (first
        | (have _t := tok1; at_builtin; refine wpList_append_at wr el_words rfl _ _ rfl (.slice (some ⟨wr.heap.size, 0, none⟩) 0 0) 0 [] rfl (own_lit' rfl (Nat.le_refl _) rfl (by decide) rfl rfl) (by repeat (first | exact Ext.refl _ | apply Ext.more | apply Ext.alloc | apply Ext.drew | apply Ext.drewN)) (gb k) (gc k) 8 (rowW us k) rfl (rowW_len us k) (RefAt.rowc (by repeat (first | exact HRw.out | apply RefAt.more | apply RefAt.alloc | apply RefAt.drew | apply RefAt.drewN)) k hlt) (rowW_one us k) (by omega) ?_; intro v1 x1 HO1 keep1; obtain ⟨ra, rcap, rfl⟩ := own_form HO1.out; obtain ⟨g, rfl, hg1, hg2, hg3, _, _⟩ := own_at HO1.out (by omega); clear keep1 tok1)
        | (at_builtin; refine wpList_append_new W el_rows rfl _ _ rfl _ k _ rfl (by repeat (first | exact HO.out | apply own_more | apply own_alloc | apply own_drew | apply own_drewN)) (by repeat (first | exact HE.out | apply Ext.more | apply Ext.alloc | apply Ext.drew | apply Ext.drewN)) _ _ 1 _ rfl rfl rfl rfl (by omega) ?_; intro v2 x2 HO2 keep2))
      go_roundw
      case rel =>
        refine ⟨k + 1, by omega, by go_num, (by repeat (first | exact Ext.refl _ | apply Ext.more | apply Ext.alloc | apply Ext.drew | apply Ext.drewN)), copyRows_step hWs HO.out HRows.out HJ.out (w1 := more wr x1) (by repeat (first | exact Ext.refl _ | apply Ext.more | apply Ext.alloc | apply Ext.drew | apply Ext.drewN)) HO1.out HO2.out keep2⟩
      case measure => simp [intOf]; omega
    · have : k = n := by omega
      subst this
      have hl := HR.out.len
      obtain ⟨h', hc', gb', gc', rfl, hr', hh, hgs⟩ := copyRows_end h1 hl HC.out
      clear HC
      have HR' := Lib.hid hr'
      clear hr' hRw hl
      go_wp2_with fail
      go_ret
      exact ⟨HE.out, h', hc', gb', gc', rfl, HR'.out, hh, hgs⟩

end Go.Proofs.Ythcdecgecabgaaa

/- The walks of the laws of layer 3 (phys). -/
namespace Go.Proofs.Ythcdecgecabgaaa
open Go.RowKit
set_option linter.unusedVariables false
set_option linter.unusedSimpArgs false
theorem getD_replicate0 (n i : Nat) : (List.replicate n (0 : Int)).getD i 0 = 0 := by
  simp only [List.getD, List.getElem?_replicate]
  split <;> rfl

end Go.Proofs.Ythcdecgecabgaaa

/- The walk of the law PhysCopies. -/
namespace Go.Proofs.Ythcdecgecabgaaa
open Go.RowKit
set_option linter.unusedVariables false
set_option linter.unusedSimpArgs false

/-- Which of n things a raw number speaks of. -/
def pickN (c n : Int) : Int := (if c < 0 then -(c + 1) else c) % n
theorem pickN_lo (c n : Int) (h : 0 < n) : 0 ≤ pickN c n := Int.emod_nonneg _ (by omega)
theorem pickN_hi (c n : Int) (h : 0 < n) : pickN c n < n := Int.emod_lt_of_pos _ h

theorem drewN_grow (w : World) (m : Nat) : w.grownBy (w.drewN m) none := grow_drewN (grow_refl _ _) m

theorem copyW_len (ws : List Int) (t f : Nat) : (copyW ws t f).length = ws.length := by simp [copyW]
theorem getD_set (ws : List Int) (i j : Nat) (x : Int) : (ws.set i x).getD j 0 = if i = j ∧ i < ws.length then x else ws.getD j 0 := by
  simp only [List.getD, List.getElem?_set]
  by_cases h : i = j
  · subst h
    by_cases h2 : i < ws.length <;> simp [h2]
  · simp [h]
theorem copyW_in (ws : List Int) (t f i : Nat) (hi : i < 8) (h : t * 8 + 8 ≤ ws.length) : (copyW ws t f).getD (t * 8 + i) 0 = ws.getD (f * 8 + i) 0 := by
  unfold copyW
  simp only [getD_set, List.length_set]
  match i, hi with
  | 0, _ => simp; omega
  | 1, _ => simp; omega
  | 2, _ => simp; omega
  | 3, _ => simp; omega
  | 4, _ => simp; omega
  | 5, _ => simp; omega
  | 6, _ => simp; omega
  | 7, _ => simp; omega
theorem copyW_out (ws : List Int) (t f j : Nat) (h : j < t * 8 ∨ t * 8 + 8 ≤ j) : (copyW ws t f).getD j 0 = ws.getD j 0 := by
  unfold copyW
  repeat (rw [getD_set, if_neg (by omega)])

theorem ext_getD (xs ys : List Int) (hl : xs.length = ys.length) (h : ∀ j, j < xs.length → xs.getD j 0 = ys.getD j 0) : xs = ys := by
  apply List.ext_getElem hl
  intro j h1 h2
  have := h j h1
  simpa [List.getD, List.getElem?_eq_getElem h1, List.getElem?_eq_getElem h2] using this
theorem one_word (A I j : Nat) (v : Int) : ((List.replicate 32 (0 : Int)).set (A * 8 + I) v).getD j 0 = if A * 8 + I = j ∧ A * 8 + I < 32 then v else 0 := by
  rw [getD_set, List.length_replicate, getD_replicate0]
theorem copies_val (A B I : Nat) (v x : Int) (hA : A < 4) (hB : B < 4) (hI : I < 8) (hne : A ≠ B) :
    ((copyW ((List.replicate 32 (0 : Int)).set (A * 8 + I) v) B A).set (A * 8 + I) x).getD (B * 8 + I) 0 = v := by
  rw [getD_set, if_neg (by omega), copyW_in _ _ _ _ hI (by simp; omega), one_word, if_pos (by omega)]
theorem copies_same (A B I : Nat) (v x : Int) (hA : A < 4) (hB : B < 4) (hI : I < 8) :
    (copyW ((List.replicate 32 (0 : Int)).set (A * 8 + I) v) B A).set (A * 8 + I) x = (List.replicate 32 (0 : Int)).set (A * 8 + I) v ↔ v = x ∧ (A = B ∨ v = 0) := by
  constructor
  · intro h
    have h1 := congrArg (fun l => l.getD (A * 8 + I) 0) h
    simp only [getD_set, copyW_len, List.length_set, List.length_replicate, true_and, if_pos (show A * 8 + I < 32 by omega)] at h1
    refine ⟨h1.symm, ?_⟩
    by_cases e : A = B
    · exact .inl e
    · right
      have h2 := congrArg (fun l => l.getD (B * 8 + I) 0) h
      rw [copies_val A B I v x hA hB hI e, one_word, if_neg (by omega)] at h2
      exact h2
  · rintro ⟨rfl, h⟩
    apply ext_getD
    · simp [copyW_len]
    · intro j hj
      have hj : j < 32 := by simpa [copyW_len] using hj
      rw [getD_set, copyW_len, List.length_set, List.length_replicate]
      by_cases hb : B * 8 ≤ j ∧ j < B * 8 + 8
      · obtain ⟨q, hq, rfl⟩ : ∃ q, q < 8 ∧ j = B * 8 + q := ⟨j - B * 8, by omega, by omega⟩
        rw [copyW_in _ _ _ _ hq (by simp; omega), one_word, one_word]
        rcases h with rfl | rfl
        · split <;> simp_all
        · simp
      · rw [copyW_out _ _ _ _ (by omega), one_word]
        split <;> simp_all

end Go.Proofs.Ythcdecgecabgaaa
