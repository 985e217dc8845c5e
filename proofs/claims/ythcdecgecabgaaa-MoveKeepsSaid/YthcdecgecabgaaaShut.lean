import Derived.Test.YthcdecgecabgaaaWrit
/- The contracts of the watch: a write that closes a place; a new watch; is it broken; a table forgotten. -/
namespace Go.Proofs.Ythcdecgecabgaaa
open Go.RowKit
open Go.ChangeMaps (setBlock)
set_option linter.unusedVariables false
set_option linter.unusedSimpArgs false
attribute [local go_sem] setCell_drewN alloc_drewN lt_moreE le_moreE lt_moreK le_moreK cell_more frozen_more set_more drew_more drewN_more

section
variable {P : Program} {w : World} {ops : Array Oper} {rest : List Oper} {o : Oper} {a : Act} {Q : Exit → Act → World → Prop}
/-- delete(m, key), keyed by a struct of two numbers. -/
theorem wpList_delete2 (hg : o.guard = none) (m x : Operand) (t k e : TypeId) (hop : o.op = Op.call { callee := Callee.builtin Builtin.delete, args := #[m, x], argTypes := #[t, k] }) (K : Key2 P k) (ht : P.underlying t = some (.map k e)) (mb : Nat) (l : List KE) (clock : Nat) (p q : Int) (hm : a.eval m = .map (some mb)) (hx : a.eval x = key2 p q) (hb : w.heap[mb]? = some (.map (entsK l) clock))
    (h : wpList P ops Q rest (a.put o.dst (.tuple #[])) (setBlock w mb (.map (entsK (delK p q l)) clock))) : wpList P ops Q (o :: rest) a w := by
  refine wpList_plain hg fun K' hK' => ?_
  unfold Oper.wp
  simp [execOp, hop, resolve, invoke, builtin, hm, hx, run_delete2 w mb l clock K ht hb p q o.type, Result.andThen]
  exact hK' _ _ h
end
def keyNe (t p : Int) (g : Gap) : Bool := !decide (g.t = t ∧ g.p = p)
theorem delK_filter (t p : Int) : ∀ (gs : List Gap), (gs.map fun g => (g.t, g.p)).Nodup → delK t p (gs.map Gap.ke) = (gs.filter (keyNe t p)).map Gap.ke := by
  intro gs
  induction gs with
  | nil => intro _; rfl
  | cons g gs ih =>
    intro hn
    obtain ⟨h1, h2⟩ := List.nodup_cons.1 hn
    unfold delK
    rw [findK_ke, List.findIdx?_cons]
    by_cases hx : g.t = t ∧ g.p = p
    · rw [if_pos (decide_eq_true hx)]
      have e1 : (g :: gs).filter (keyNe t p) = gs := by
        rw [List.filter_cons, if_neg (by unfold keyNe; rw [decide_eq_true hx]; simp)]
        rw [List.filter_eq_self]
        intro y hy
        unfold keyNe
        rw [decide_eq_false]
        · rfl
        · intro hh
          exact h1 (List.mem_map.2 ⟨y, hy, by show (y.t, y.p) = (g.t, g.p); rw [hh.1, hh.2, hx.1, hx.2]⟩)
      rw [e1]
      rfl
    · rw [if_neg (by rw [decide_eq_false hx]; simp)]
      have e1 : (g :: gs).filter (keyNe t p) = g :: gs.filter (keyNe t p) := by
        rw [List.filter_cons, if_pos (by unfold keyNe; rw [decide_eq_false hx]; rfl)]
      rw [e1]
      show _ = g.ke :: (gs.filter (keyNe t p)).map Gap.ke
      rw [← ih h2]
      unfold delK
      rw [findK_ke]
      cases gs.findIdx? (fun g => decide (g.t = t ∧ g.p = p)) with
      | none => rfl
      | some j => rfl
theorem WatchAt.del {W w : World} {B wb mb clock : Nat} {gs : List Gap} {br : Bool} (h : WatchAt w B wb mb gs clock br) (hE : Ext W w) (hB : W.heap.size ≤ B) (f : Gap → Bool) :
    WatchAt (setBlock w mb (.map (entsK ((gs.filter f).map Gap.ke)) clock)) B wb mb (gs.filter f) clock br ∧ KeepG w (setBlock w mb (.map (entsK ((gs.filter f).map Gap.ke)) clock)) ∧ Ext W (setBlock w mb (.map (entsK ((gs.filter f).map Gap.ke)) clock)) := by
  have hmw := (Array.getElem?_eq_some_iff.1 h.map).1
  have hs : (gs.filter f).Sublist gs := List.filter_sublist
  have hmem : ∀ x ∈ gs.filter f, x ∈ gs := fun x hx => hs.subset hx
  refine ⟨{ hdr := ?_, map := ?_, told := ?_, tbs := h.tbs.sublist (hs.map _), borns := h.borns.sublist (hs.map _), keys := h.keys.sublist (hs.map _), fst := fun x hx => h.fst x (hmem x hx), old := fun x hx => h.old x (hmem x hx), len := fun x hx => h.len x (hmem x hx), wbB := h.wbB, mbB := h.mbB, tbB := fun x hx => h.tbB x (hmem x hx) }, KeepG.grow (grow_setBlock w mb _) h.map fun hn => hn.1 _ _ rfl, ext_grow hE (grow_setBlock w mb _) (Nat.le_trans hB h.mbB)⟩
  · rw [heap_setBlock, if_neg (fun hh => h.ne hh.1)]
    exact h.hdr
  · rw [heap_setBlock, if_pos ⟨rfl, hmw⟩]
  · intro x hx
    rw [heap_setBlock, if_neg (fun hh => (h.ne_tb (hmem x hx)).2 hh.1)]
    exact h.told x (hmem x hx)
/-- No gap of a place, or one. -/
theorem getK_gap (t p : Int) : ∀ (gs : List Gap), getK t p (gs.map Gap.ke) = none ∨ ∃ g ∈ gs, g.t = t ∧ g.p = p ∧ getK t p (gs.map Gap.ke) = some g.val := by
  intro gs
  unfold getK
  cases hf : findK t p (gs.map Gap.ke) with
  | none => exact .inl rfl
  | some j =>
    right
    obtain ⟨hj, h1, h2⟩ := findK_lt hf
    rw [List.length_map] at hj
    refine ⟨gs[j], List.getElem_mem hj, ?_, ?_, ?_⟩
    · simpa [Gap.ke] using h1
    · simpa [Gap.ke] using h2
    · simp [List.getElem?_eq_getElem hj, Gap.ke]
theorem look_left {t p : Int} {gs : List Gap} (hk : ∀ g ∈ gs, g.t = t ∧ g.p = p → g.left = 0) : ∃ (a0 a1 a2 a5 : Int) (sl : Value) (b : Bool), (getK t p (gs.map Gap.ke)).getD (.agg #[.int .i64 0, .int .i64 0, .int .i64 0, .int .i64 0, .slice none 0 0, .int .u64 0]) = .agg #[.int .i64 a0, .int .i64 a1, .int .i64 a2, .int .i64 0, sl, .int .u64 a5] ∧ (getK t p (gs.map Gap.ke)).isSome = b ∧ ∃ a n c, sl = .slice a n c := by
  rcases getK_gap t p gs with h | ⟨g, hg, h1, h2, h⟩
  · rw [h]; exact ⟨0, 0, 0, 0, _, false, rfl, rfl, _, _, _, rfl⟩
  · rw [h]
    have hl := hk g hg ⟨h1, h2⟩
    refine ⟨g.asid, g.level, g.first, g.last, .slice (some ⟨g.tb, 0, none⟩) g.told.length g.told.length, true, ?_, rfl, _, _, _, rfl⟩
    show g.val = _
    unfold Gap.val
    rw [hl]
    rfl
theorem zero_gap (w : World) : (zeroValue 145).run Try.prog w = .ok (.agg #[.int .i64 0, .int .i64 0, .int .i64 0, .int .i64 0, .slice none 0 0, .int .u64 0]) w := by
  have h : (Try.prog.info? 145).map (·.zero) = some (some (.agg #[.int .i64 0, .int .i64 0, .int .i64 0, .int .i64 0, .slice none 0 0, .int .u64 0])) := by kernel_rfl
  obtain ⟨i, hi, hz⟩ := Option.map_eq_some_iff.1 h
  simp [zeroValue, typeInfo, hi, hz]

set_option maxRecDepth 100000 in
set_option maxHeartbeats 4000000 in
theorem watch_open (W w : World) (hE : Ext W w) {B wb mb clock : Nat} {gs : List Gap} (hW : WatchAt w B wb mb gs clock false) (hB : W.heap.size ≤ B) (hBw : B ≤ w.heap.size) {asid : Int} {L : Nat} {t p first : Int} (hm : MayW asid L t p first) (old new : Int)
    (o0 : 0 ≤ old) (o1 : old < 18446744073709551616) (n0 : 0 ≤ new) (n1 : new < 18446744073709551616) (ho : old % 2 = 0) (hn : new % 2 = 1) (hk : ∀ g ∈ gs, g.t = t ∧ g.p = p → g.left = 0) :
    Calls Try.prog 20 #[.pointer (some ⟨wb, 0, none⟩), .int .i64 asid, .int .i64 L, .int .i64 t, .int .i64 p, .int .i64 first, .int .u64 old, .int .u64 new] w fun e w' => e = .returned .nilIface ∧ Ext W w' ∧ KeepG w w' ∧ WatchAt w' B wb mb (gs.filter fun g => !decide (g.t = t ∧ g.p = p)) clock false := by
  have HW := Lib.hid hW
  have HE := Lib.hid hE
  have HK := Lib.hid hk
  have HM := Lib.hid (bbm_may w hm)
  have HC := Lib.hid (fun w => pte_Change w L old new hm.lv o0 o1 n0 n1 (.inl ⟨ho, hn⟩))
  have b0 := (and_one old o0 o1).trans ho
  have b1 := (and_one new n0 n1).trans hn
  have hwl : wb < w.heap.size := (Array.getElem?_eq_some_iff.1 hW.hdr).1
  have hf0 := hm.f0
  have hf1 := hm.f1
  clear hW hE hk hm ho hn
  go_enter Try.func20, Try.ntmps20
  go_wp2_with fail
  refine HM.out.mono ?_
  rintro e w' ⟨rfl, hww⟩
  rw [hww]
  clear hww w'
  go_wp2_with fail
  refine (HC.out _).mono ?_
  rintro e w2 ⟨hE2, rfl⟩
  have HW2 := Lib.hid (HW.out.ext hE2)
  have HE2 := Lib.hid (HE.out.trans hE2)
  have HK2 := Lib.hid (KeepG.ext hE2)
  have hs2 := hE2.size
  have y1 : w2.cell? ⟨wb, 1, none⟩ = some (.bool false) := by rw [cell_of_row _ _ _ _ _ _ HW2.out.hdr]; rfl
  have yf := frozen_of_row w2 wb 1 _ _ HW2.out.hdr
  have hwl2 : wb < w2.heap.size := by omega
  obtain ⟨l1, l2, l3⟩ := lt_facts hwl2
  clear hE2
  obtain ⟨a0, a1, a2, a5, sl, bb, hgd, hgs, sa, sn, sc, rfl⟩ := look_left HK.out
  go_wp2_with fail
  have hb1 : ((w2.setCell ⟨wb, 1, none⟩ (.bool false)).alloc (.cells #[.int .i64 t, .int .i64 p] 142)).heap[w2.heap.size]? = some (.cells #[.int .i64 t, .int .i64 p] 142 (0, 0)) := heap_alloc_at _ _ (by simp)
  have hW4 : WatchAt ((w2.setCell ⟨wb, 1, none⟩ (.bool false)).alloc (.cells #[.int .i64 t, .int .i64 p] 142)) B wb mb gs clock false := (watch_heap HW2.out (set_same_mark HW2.out.hdr)).ext ((Ext.refl _).alloc _)
  have hE4 : Ext W ((w2.setCell ⟨wb, 1, none⟩ (.bool false)).alloc (.cells #[.int .i64 t, .int .i64 p] 142)) := (ext_set HE2.out (Nat.le_trans hB HW2.out.wbB) _ _).alloc _
  have hK4 : KeepG w ((w2.setCell ⟨wb, 1, none⟩ (.bool false)).alloc (.cells #[.int .i64 t, .int .i64 p] 142)) := HK2.out.trans (KeepG.trans (fun k ob hk _ => (set_same_mark HW2.out.hdr k).trans hk) (KeepG.ext ((Ext.refl _).alloc _)))
  obtain ⟨c0, c1, cf⟩ := cells2b hb1
  have z0 : ((w2.setCell ⟨wb, 1, none⟩ (.bool false)).alloc (.cells #[.int .i64 t, .int .i64 p] 142)).cell? ⟨wb, 0, none⟩ = some (.map (some mb)) := by rw [cell_of_row _ _ _ _ _ _ hW4.hdr]; rfl
  have HW4 := Lib.hid hW4
  have HE4 := Lib.hid hE4
  have HK4 := Lib.hid hK4
  have hxb : w2.heap.size < ((w2.setCell ⟨wb, 1, none⟩ (.bool false)).alloc (.cells #[.int .i64 t, .int .i64 p] 142)).heap.size := by simp
  have hwx : wb < ((w2.setCell ⟨wb, 1, none⟩ (.bool false)).alloc (.cells #[.int .i64 t, .int .i64 p] 142)).heap.size := by simp; omega
  have HB1 := Lib.hid hb1
  clear hb1 hW4 hE4 hK4 HW2 HE2 HK2 y1 yf l1 l2 l3
  generalize ((w2.setCell ⟨wb, 1, none⟩ (.bool false)).alloc (.cells #[.int .i64 t, .int .i64 p] 142)) = W4 at *
  generalize w2.heap.size = xb at *
  obtain ⟨l1, l2, l3⟩ := lt_facts hxb
  obtain ⟨l4, l5, l6⟩ := lt_facts hwx
  have hlk : ∀ W' : World, W'.heap[mb]? = some (.map (entsK (gs.map Gap.ke)) clock) → (Instr.lookup 135 (.map (some mb)) (.agg #[.int .i64 t, .int .i64 p]) true).run Try.prog W' = .ok (.tuple #[.agg #[.int .i64 a0, .int .i64 a1, .int .i64 a2, .int .i64 0, .slice sa sn sc, .int .u64 a5], .bool bb]) W' := by
    intro W' hm'
    have := run_lookup2 W' mb (gs.map Gap.ke) clock spotK Try.underlying135 hm' _ (zero_gap W') t p
    rw [hgd, hgs] at this
    exact this
  have e1 := hlk W4.drew HW4.out.map
  have e2 := hlk (W4.alloc (.cells #[.int .i64 0, .int .i64 0, .int .i64 0, .int .i64 0, .slice none 0 0, .int .u64 0] 145)).drew (box_drew (box_alloc HW4.out.map _))
  clear hlk hgd hgs HK
  go_region
  all_goals
    clear e1 e2 c0 c1 cf z0
    have HW5 := Lib.hid (HW4.out.ext (show Ext W4 (W4.alloc (.cells #[.int .i64 a0, .int .i64 a1, .int .i64 a2, .int .i64 0, .slice sa sn sc, .int .u64 a5] 145)).drew from (by repeat (first | exact Ext.refl _ | apply Ext.more | apply Ext.alloc | apply Ext.drew | apply Ext.drewN))))
    have HE5 := Lib.hid (show Ext W (W4.alloc (.cells #[.int .i64 a0, .int .i64 a1, .int .i64 a2, .int .i64 0, .slice sa sn sc, .int .u64 a5] 145)).drew from (by repeat (first | exact HE4.out | apply Ext.more | apply Ext.alloc | apply Ext.drew | apply Ext.drewN)))
    have HK5 := Lib.hid (HK4.out.trans (KeepG.ext (show Ext W4 (W4.alloc (.cells #[.int .i64 a0, .int .i64 a1, .int .i64 a2, .int .i64 0, .slice sa sn sc, .int .u64 a5] 145)).drew from (by repeat (first | exact Ext.refl _ | apply Ext.more | apply Ext.alloc | apply Ext.drew | apply Ext.drewN)))))
    have HB5 := Lib.hid (show (W4.alloc (.cells #[.int .i64 a0, .int .i64 a1, .int .i64 a2, .int .i64 0, .slice sa sn sc, .int .u64 a5] 145)).drew.heap[xb]? = some (.cells #[.int .i64 t, .int .i64 p] 142 (0, 0)) from (by repeat (first | (with_reducible exact HB1.out) | (with_reducible apply box_more) | (with_reducible apply box_alloc) | (with_reducible apply box_drew) | (with_reducible apply box_drewN))))
    clear HW4 HE4 HK4 HB1
    cases bb
    all_goals
      go_wp2_with fail
      generalize (W4.alloc (.cells #[.int .i64 a0, .int .i64 a1, .int .i64 a2, .int .i64 0, .slice sa sn sc, .int .u64 a5] 145)).drew = W5 at *
      obtain ⟨c0, c1, cf⟩ := cells2b HB5.out
      have z0 : W5.cell? ⟨wb, 0, none⟩ = some (.map (some mb)) := by rw [cell_of_row _ _ _ _ _ _ HW5.out.hdr]; rfl
      refine wp_region_still_tail 5 (by kernel_rfl) (by kernel_rfl) ?_
      simp only [List.take_succ_cons, List.take_zero, List.drop_succ_cons, List.drop_zero]
      repeat still_step
      refine wpStill_nil ?_
      have HD := Lib.hid (WatchAt.del (HW5.out.ext ((Ext.refl W5).drew)) HE5.out.drew hB (keyNe t p))
      have hkk := delK_filter t p gs HW5.out.keys
      rw [← hkk] at HD
      obtain ⟨L', hL'⟩ : ∃ L', delK t p (gs.map Gap.ke) = L' := ⟨_, rfl⟩
      rw [hL'] at HD
      have HL' := Lib.hid hL'
      clear hkk hL'
      refine wpList_delete2 rfl _ _ 135 142 145 rfl spotK Try.underlying135 mb (gs.map Gap.ke) clock t p rfl rfl HW5.out.map ?_
      rw [HL'.out]
      have HKx := Lib.hid (HK5.out.trans ((KeepG.ext ((Ext.refl W5).drew)).trans HD.out.2.1))
      go_wp2_with fail
      go_ret
      exact ⟨rfl, HD.out.2.2, HKx.out, HD.out.1⟩

set_option maxHeartbeats 1000000 in
/-- A new watch. -/
theorem watch_New (W w : World) (hE : Ext W w) : Calls Try.prog 17 #[] w fun e w' => Ext W w' ∧ KeepG w w' ∧ ∃ wb mb, e = .returned (.pointer (some ⟨wb, 0, none⟩)) ∧ WatchAt w' w.heap.size wb mb [] 0 false := by
  have hmk : (Instr.makeMap 135 none).run Try.prog w = .ok (.map (some w.heap.size)) (w.alloc (.map #[] 0)) := by
    simp [Instr.makeMap]
  have HE := Lib.hid hE
  clear hE
  go_enter Try.func17, Try.ntmps17
  go_wp2_with fail
  go_ret
  have hm : ((w.alloc (.map #[] 0)).alloc (.cells #[.map (some w.heap.size), .bool false] 137)).heap[w.heap.size]? = some (.map #[] 0) := box_alloc (heap_alloc_new w _) _
  have hh : ((w.alloc (.map #[] 0)).alloc (.cells #[.map (some w.heap.size), .bool false] 137)).heap[w.heap.size + 1]? = some (.cells #[.map (some w.heap.size), .bool false] 137 (0, 0)) := heap_alloc_at _ _ (by simp)
  refine ⟨(HE.out.alloc _).alloc _, KeepG.ext (((Ext.refl w).alloc _).alloc _), w.heap.size + 1, w.heap.size, rfl, ?_⟩
  exact { hdr := hh, map := hm, told := fun g hg => absurd hg (by simp), tbs := List.nodup_nil, borns := List.nodup_nil, keys := List.nodup_nil, fst := fun g hg => absurd hg (by simp), old := fun g hg => absurd hg (by simp), len := fun g hg => absurd hg (by simp), wbB := by omega, mbB := by omega, tbB := fun g hg => absurd hg (by simp) }
/-- Is it broken? -/
theorem watch_Broken (w : World) {B wb mb clock : Nat} {gs : List Gap} {br : Bool} (h : WatchAt w B wb mb gs clock br) : Calls Try.prog 23 #[.pointer (some ⟨wb, 0, none⟩)] w fun e w' => e = .returned (.bool br) ∧ w' = w := by
  have y1 : w.cell? ⟨wb, 1, none⟩ = some (.bool br) := by rw [cell_of_row _ _ _ _ _ _ h.hdr]; rfl
  clear h
  go_enter Try.func23, Try.ntmps23
  go_wp2_with fail
  go_ret
  exact ⟨rfl, rfl⟩

/-- A table's places up to the k-th are forgotten. -/
def keptT (table : Int) (k : Nat) (g : Gap) : Bool := !decide (g.t = table ∧ 0 ≤ g.p ∧ g.p < k)
theorem keptT_zero (table : Int) (gs : List Gap) : gs.filter (keptT table 0) = gs := by
  rw [List.filter_eq_self]
  intro g _
  unfold keptT
  rw [decide_eq_false (by omega)]
  rfl
theorem keptT_succ (table : Int) (k : Nat) (gs : List Gap) : (gs.filter (keptT table k)).filter (keyNe table k) = gs.filter (keptT table (k + 1)) := by
  rw [List.filter_filter]
  congr 1
  funext g
  unfold keptT keyNe
  rw [Bool.eq_iff_iff]
  simp only [Bool.and_eq_true, Bool.not_eq_true', decide_eq_false_iff_not]
  omega
set_option maxHeartbeats 2000000 in
theorem watch_Forget (W w : World) (hE : Ext W w) {B wb mb clock : Nat} {gs : List Gap} {br : Bool} (hW : WatchAt w B wb mb gs clock br) (hB : W.heap.size ≤ B) (table : Int) :
    Calls Try.prog 96 #[.pointer (some ⟨wb, 0, none⟩), .int .i64 table] w fun e w' => e = .returned (.tuple #[]) ∧ Ext W w' ∧ KeepG w w' ∧ WatchAt w' B wb mb (gs.filter (keptT table 8)) clock br := by
  have HW := Lib.hid hW
  have HE := Lib.hid hE
  clear hW hE
  go_enter Try.func96, Try.ntmps96
  go_wp2_with fail
  go_loopw [4, 5] (fun _ i wr => ∃ k : Nat, k ≤ 8 ∧ i = .int .i64 k ∧ Ext W wr ∧ Hid (KeepG w wr) ∧ Hid (WatchAt wr B wb mb (gs.filter (keptT table k)) clock br)) (fun _ i _ => 8 - (intOf i).toNat)
  case atStart => exact ⟨0, Nat.zero_le _, rfl, HE.out, KeepG.refl _, by rw [keptT_zero]; exact HW⟩
  case round =>
    obtain ⟨k, hk, rfl, hEr, HKr, HWr⟩ := hrel
    have HEr := Lib.hid hEr
    clear hEr
    by_cases hlt : k < 8
    · have hd := WatchAt.del HWr.out HEr.out hB (keyNe table k)
      have hkk := delK_filter table k _ HWr.out.keys
      rw [keptT_succ] at hd hkk
      have HMp := Lib.hid HWr.out.map
      obtain ⟨L, hL⟩ : ∃ L, (gs.filter (keptT table k)).map Gap.ke = L := ⟨_, rfl⟩
      obtain ⟨L', hL'⟩ : ∃ L', (gs.filter (keptT table (k + 1))).map Gap.ke = L' := ⟨_, rfl⟩
      rw [hL] at HMp hkk
      rw [hL'] at hd hkk
      have HD := Lib.hid hd
      have HKK := Lib.hid hkk
      have z0 : wr.cell? ⟨wb, 0, none⟩ = some (.map (some mb)) := by rw [cell_of_row _ _ _ _ _ _ HWr.out.hdr]; rfl
      clear hd hkk hL hL'
      go_wp2_with (refine wpList_delete2 rfl _ _ 135 142 145 rfl spotK Try.underlying135 mb L clock table k rfl rfl HMp.out ?_; rw [HKK.out])
      go_roundw
      case rel => exact ⟨k + 1, by omega, by go_num, HD.out.2.2, HKr.out.trans HD.out.2.1, HD.out.1⟩
      case measure => simp [intOf]; omega
    · obtain rfl : k = 8 := by omega
      go_wp2_with fail
      go_end0
      exact ⟨rfl, HEr.out, HKr.out, HWr.out⟩

end Go.Proofs.Ythcdecgecabgaaa
