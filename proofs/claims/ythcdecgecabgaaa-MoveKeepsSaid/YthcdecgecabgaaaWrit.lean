import Derived.Test.YthcdecgecabgaaaTold
import Derived.Test.YthcdecgecabgaaaPath
import Derived.Test.YthcdecgecabgaaaBPtdFound
/- The contracts of the watch: a write that opens a place, and one that closes it. -/
namespace Go.Proofs.Ythcdecgecabgaaa
open Go.RowKit
open Go.ChangeMaps (setBlock)
set_option linter.unusedVariables false
set_option linter.unusedSimpArgs false
attribute [local go_sem] setCell_drewN alloc_drewN lt_moreE le_moreE lt_moreK le_moreK cell_more frozen_more set_more drew_more drewN_more

theorem bbm_order (w : World) (l : Nat) (hl : l ≤ 3) :
    Calls Try.prog 71 #[.int .i64 l] w fun e w' => e = .returned (.int .i64 (3 * (3 - (l : Int)))) ∧ w' = w := by
  have hls : l = 0 ∨ l = 1 ∨ l = 2 ∨ l = 3 := by omega
  clear hl
  rcases hls with rfl | rfl | rfl | rfl
  all_goals
    go_enter Try.func71, Try.ntmps71
    go_wp2_with fail
    go_ret
    exact ⟨rfl, rfl⟩
theorem bbm_orderI (w : World) (l : Int) (h : l = 0 ∨ l = 1 ∨ l = 2 ∨ l = 3) :
    Calls Try.prog 71 #[.int .i64 l] w fun e w' => e = .returned (.int .i64 (3 * (3 - l))) ∧ w' = w := by
  rcases h with rfl | rfl | rfl | rfl
  all_goals
    go_enter Try.func71, Try.ntmps71
    go_wp2_with fail
    go_ret
    exact ⟨rfl, rfl⟩
/-- A write that may be noted. -/
structure MayW (asid : Int) (L : Nat) (t p first : Int) : Prop where
  a0 : 0 ≤ asid
  a1 : asid ≤ 255
  lv : L ≤ 3
  t0 : 0 ≤ t
  t1 : t < 512
  p0 : 0 ≤ p
  p1 : p < 8
  f0 : 0 ≤ first
  f1 : first < 4096
  al : firstP first L = first
set_option maxHeartbeats 1000000 in
theorem bbm_may (w : World) {asid : Int} {L : Nat} {t p first : Int} (h : MayW asid L t p first) :
    Calls Try.prog 69 #[.int .i64 asid, .int .i64 L, .int .i64 t, .int .i64 p, .int .i64 first] w fun e w' => e = .returned (.bool true) ∧ w' = w := by
  obtain ⟨a0, a1, lv, t0, t1, p0, p1, f0, f1, al⟩ := h
  have HD := Lib.hid (word_Down w first L lv f0 f1)
  rw [al] at HD
  clear al
  go_enter Try.func69, Try.ntmps69
  go_wp2_with (go_at_call 71; refine (bbm_order _ L lv).mono ?_; rintro e w' ⟨rfl, hww⟩; rw [hww]; clear hww w')
  refine HD.out.mono ?_
  rintro e w' ⟨rfl, hww⟩
  rw [hww]
  clear hww w'
  go_wp2_with fail
  go_ret
  exact ⟨rfl, rfl⟩

theorem and_one (x : Int) (h0 : 0 ≤ x) (h1 : x < 18446744073709551616) : Go.bits .and .u64 x 1 = x % 2 := by
  have := and_bit x 0 (by omega) h0 h1
  simpa using this
set_option maxHeartbeats 2000000 in
theorem pte_Change (w : World) (L : Nat) (old new : Int) (hL : L ≤ 3) (o0 : 0 ≤ old) (o1 : old < 18446744073709551616) (n0 : 0 ≤ new) (n1 : new < 18446744073709551616) (h : (old % 2 = 0 ∧ new % 2 = 1) ∨ (old % 2 = 1 ∧ new % 2 = 0)) :
    Calls Try.prog 70 #[.int .i64 L, .int .u64 old, .int .u64 new] w fun e w' => Ext w w' ∧ e = .returned (.tuple #[.bool true, .nilIface]) := by
  have b0 := and_one old o0 o1
  have b1 := and_one new n0 n1
  have hne : (old == new) = false := by simp; omega
  have HD1 := Lib.hid (fun w => pte_Decode w L old (by omega) (by omega) o0 o1)
  have HD2 := Lib.hid (fun w => pte_Decode w L new (by omega) (by omega) n0 n1)
  obtain ⟨A0, A1, A2, A3, A4, A5, A6⟩ := decD L old
  obtain ⟨B0, B1, B2, B3, B4, B5, B6⟩ := decD L new
  rcases h with ⟨h1, h2⟩ | ⟨h1, h2⟩
  all_goals
    rw [h1] at b0
    rw [h2] at b1
    clear h1 h2
    go_enter Try.func70, Try.ntmps70
    go_wp2_with fail
    refine (extC (HD1.out _)).mono ?_
    rintro e w' ⟨⟨ex1, rfl⟩, rfl⟩
    go_wp2_with fail
    refine (extC (HD2.out _)).mono ?_
    rintro e w' ⟨⟨ex2, rfl⟩, rfl⟩
    go_wp2_with fail
    go_ret2
    exact ⟨(by repeat (first | exact Ext.refl _ | apply Ext.more | apply Ext.alloc | apply Ext.drew | apply Ext.drewN)), rfl⟩

theorem watch_heap {w w' : World} {B wb mb clock : Nat} {gs : List Gap} {br : Bool} (h : WatchAt w B wb mb gs clock br) (hh : ∀ k : Nat, w'.heap[k]? = w.heap[k]?) : WatchAt w' B wb mb gs clock br :=
  { h with hdr := (hh _).trans h.hdr, map := (hh _).trans h.map, told := fun g hg => (hh _).trans (h.told g hg) }
/-- The mark of a broken watch is written as it is. -/
theorem set_same_mark {w : World} {wb mb : Nat} {br : Bool} (h : w.heap[wb]? = some (.cells #[.map (some mb), .bool br] 137 (0, 0))) : ∀ k : Nat, (w.setCell ⟨wb, 1, none⟩ (.bool br)).heap[k]? = w.heap[k]? := by
  intro k
  by_cases hk : k = wb
  · subst hk
    rw [heap_setCell_same w k 1 _ _ (.bool br) h, h]
    rfl
  · exact heap_setCell_other _ _ _ _ hk
theorem bools_len (n : Nat) : (List.replicate n false).count false = n := by simp
theorem setK_new {t p : Int} {v : Value} {clock : Nat} {gs : List Gap} (hk : ∀ g ∈ gs, ¬ (g.t = t ∧ g.p = p)) : setK t p v clock (gs.map Gap.ke) = gs.map Gap.ke ++ [⟨t, p, v, clock⟩] ∧ clockK t p clock (gs.map Gap.ke) = clock + 1 := by
  have hf : findK t p (gs.map Gap.ke) = none := by
    rw [findK_ke, List.findIdx?_eq_none_iff]
    intro g hg
    exact decide_eq_false (hk g hg)
  unfold setK clockK
  rw [hf]
  exact ⟨rfl, rfl⟩
/-- A place is opened. -/
theorem WatchAt.add {W w : World} {B wb mb clock : Nat} {gs : List Gap} {br : Bool} (h : WatchAt w B wb mb gs clock br) (hE : Ext W w) (hB : W.heap.size ≤ B) (hBw : B ≤ w.heap.size) (g : Gap) (hk : ∀ x ∈ gs, ¬ (x.t = g.t ∧ x.p = g.p)) (htb : g.tb = w.heap.size) (hb : g.born = clock) (hf : 0 ≤ g.first ∧ g.first < 4096) (hl : g.told.length ≤ 512) (w5 : World) (h5 : w5.heap = (w.alloc (.cells (boolsV g.told) 4)).heap) (hE5 : Ext w w5) :
    WatchAt (setBlock w5 mb (.map (entsK ((gs ++ [g]).map Gap.ke)) (clock + 1))) B wb mb (gs ++ [g]) (clock + 1) br ∧ KeepG w (setBlock w5 mb (.map (entsK ((gs ++ [g]).map Gap.ke)) (clock + 1))) ∧ Ext W (setBlock w5 mb (.map (entsK ((gs ++ [g]).map Gap.ke)) (clock + 1))) := by
  have hmw := (Array.getElem?_eq_some_iff.1 h.map).1
  have hnew : w5.heap[g.tb]? = some (.cells (boolsV g.told) 4 (0, 0)) := by rw [h5, htb]; exact heap_alloc_new w _
  have hsz : w5.heap.size = w.heap.size + 1 := by rw [h5]; simp
  have hold : ∀ (k : Nat) (ob : Obj), w.heap[k]? = some ob → w5.heap[k]? = some ob := fun k ob hk => by rw [h5]; exact box_alloc hk _
  have htl : ∀ x ∈ gs, x.tb < w.heap.size := fun x hx => (Array.getElem?_eq_some_iff.1 (h.told x hx)).1
  have hmem : ∀ x ∈ gs ++ [g], x ∈ gs ∨ x = g := fun x hx => (List.mem_append.1 hx).imp id List.mem_singleton.1
  refine ⟨{ hdr := ?_, map := ?_, told := ?_, tbs := ?_, borns := ?_, keys := ?_, fst := ?_, old := ?_, len := ?_, wbB := h.wbB, mbB := h.mbB, tbB := ?_ }, (KeepG.ext hE5).trans (KeepG.grow (grow_setBlock w5 mb _) (hold mb _ h.map) fun hn => hn.1 _ _ rfl), ext_grow (hE.trans hE5) (grow_setBlock w5 mb _) (Nat.le_trans hB h.mbB)⟩
  · rw [heap_setBlock, if_neg (fun hh => h.ne hh.1)]
    exact hold _ _ h.hdr
  · rw [heap_setBlock, if_pos ⟨rfl, by omega⟩]
  · intro x hx
    rcases hmem x hx with hx | rfl
    · rw [heap_setBlock, if_neg (fun hh => (h.ne_tb hx).2 hh.1)]
      exact hold _ _ (h.told x hx)
    · rw [heap_setBlock, if_neg (fun hh => by have := hh.1; omega)]
      exact hnew
  · rw [List.map_append]
    refine List.nodup_append.2 ⟨h.tbs, by simp, fun a ha b hb2 => ?_⟩
    obtain ⟨x, hx, rfl⟩ := List.mem_map.1 ha
    have := htl x hx
    simp at hb2
    omega
  · rw [List.map_append]
    refine List.nodup_append.2 ⟨h.borns, by simp, fun a ha b hb2 => ?_⟩
    obtain ⟨x, hx, rfl⟩ := List.mem_map.1 ha
    have := h.old x hx
    simp at hb2
    omega
  · rw [List.map_append]
    refine List.nodup_append.2 ⟨h.keys, by simp, fun a ha b hb2 => ?_⟩
    obtain ⟨x, hx, rfl⟩ := List.mem_map.1 ha
    simp at hb2
    subst hb2
    intro e
    simp only [Prod.mk.injEq] at e
    exact hk x hx e
  · intro x hx
    rcases hmem x hx with hx | rfl
    · exact h.fst x hx
    · exact hf
  · intro x hx
    rcases hmem x hx with hx | rfl
    · have := h.old x hx; omega
    · omega
  · intro x hx
    rcases hmem x hx with hx | rfl
    · exact h.len x hx
    · exact hl
  · intro x hx
    rcases hmem x hx with hx | rfl
    · exact h.tbB x hx
    · omega
theorem info_bools : (Try.prog.info? 4).map (fun i => (i.zero, i.size, i.bytes)) = some (some (.bool false), 1, 1) := by kernel_rfl
theorem make_bools (w : World) (n : Nat) (hn : n ≤ 512) : (Instr.makeSlice 143 (.int .i64 n) (.int .i64 n)).run Try.prog w = .ok (.slice (some ⟨w.heap.size, 0, none⟩) n n) (w.alloc (.cells (boolsV (List.replicate n false)) 4)) := by
  have hz : madeCells #[.bool false] n = boolsV (List.replicate n false) := Array.ext' (by rw [toList_madeCells_one]; simp [boolsV])
  have h := run_make_row' (P := Try.prog) 143 4 _ 1 Try.underlying143 info_bools rfl .i64 .i64 n (by omega) (by omega) w
  rw [hz] at h
  exact h

set_option maxRecDepth 100000 in
set_option maxHeartbeats 4000000 in
theorem watch_close (W w : World) (hE : Ext W w) {B wb mb clock : Nat} {gs : List Gap} (hW : WatchAt w B wb mb gs clock false) (hB : W.heap.size ≤ B) (hBw : B ≤ w.heap.size) {asid : Int} {L : Nat} {t p first : Int} (hm : MayW asid L t p first) (old new : Int)
    (o0 : 0 ≤ old) (o1 : old < 18446744073709551616) (n0 : 0 ≤ new) (n1 : new < 18446744073709551616) (ho : old % 2 = 1) (hn : new % 2 = 0) (hk : ∀ g ∈ gs, ¬ (g.t = t ∧ g.p = p)) :
    Calls Try.prog 20 #[.pointer (some ⟨wb, 0, none⟩), .int .i64 asid, .int .i64 L, .int .i64 t, .int .i64 p, .int .i64 first, .int .u64 old, .int .u64 new] w fun e w' => e = .returned .nilIface ∧ Ext W w' ∧ KeepG w w' ∧ ∃ tb born, WatchAt w' B wb mb (gs ++ [⟨t, p, asid, L, first, List.replicate (spanL L).toNat false, old, tb, born⟩]) (clock + 1) false := by
  have HW := Lib.hid hW
  have HE := Lib.hid hE
  have HK := Lib.hid hk
  have HM := Lib.hid (bbm_may w hm)
  have HC := Lib.hid (fun w => pte_Change w L old new hm.lv o0 o1 n0 n1 (.inr ⟨ho, hn⟩))
  have b0 := (and_one old o0 o1).trans ho
  have b1 := (and_one new n0 n1).trans hn
  have hwl : wb < w.heap.size := (Array.getElem?_eq_some_iff.1 hW.hdr).1
  have hLs : L = 0 ∨ L = 1 ∨ L = 2 ∨ L = 3 := by have := hm.lv; omega
  have hf0 := hm.f0
  have hf1 := hm.f1
  clear hW hE hk hm ho hn
  go_enter Try.func20, Try.ntmps20
  go_wp2_with fail
  refine HM.out.mono ?_
  rintro e w' ⟨rfl, hww⟩
  rw [hww]
  clear hww w'
  go_wp2_with fail
  refine (HC.out _).mono ?_
  rintro e w2 ⟨hE2, rfl⟩
  have HW2 := Lib.hid (HW.out.ext hE2)
  have HE2 := Lib.hid (HE.out.trans hE2)
  have HK2 := Lib.hid (KeepG.ext hE2)
  have hs2 := hE2.size
  have y1 : w2.cell? ⟨wb, 1, none⟩ = some (.bool false) := by rw [cell_of_row _ _ _ _ _ _ HW2.out.hdr]; rfl
  have yf := frozen_of_row w2 wb 1 _ _ HW2.out.hdr
  have hwl2 : wb < w2.heap.size := by omega
  obtain ⟨l1, l2, l3⟩ := lt_facts hwl2
  clear hE2
  rcases hLs with rfl | rfl | rfl | rfl
  · go_wp2_with (go_at_call 71; refine (bbm_orderI _ _ (by omega)).mono ?_; rintro e w' ⟨rfl, hww⟩; rw [hww]; clear hww w')
    have hb1 : ((w2.setCell ⟨wb, 1, none⟩ (.bool false)).alloc (.cells #[.int .i64 t, .int .i64 p] 142)).heap[w2.heap.size]? = some (.cells #[.int .i64 t, .int .i64 p] 142 (0, 0)) := heap_alloc_at _ _ (by simp)
    have hW4 : WatchAt ((w2.setCell ⟨wb, 1, none⟩ (.bool false)).alloc (.cells #[.int .i64 t, .int .i64 p] 142)) B wb mb gs clock false := (watch_heap HW2.out (set_same_mark HW2.out.hdr)).ext ((Ext.refl _).alloc _)
    have hE4 : Ext W ((w2.setCell ⟨wb, 1, none⟩ (.bool false)).alloc (.cells #[.int .i64 t, .int .i64 p] 142)) := (ext_set HE2.out (Nat.le_trans hB HW2.out.wbB) _ _).alloc _
    have hK4 : KeepG w ((w2.setCell ⟨wb, 1, none⟩ (.bool false)).alloc (.cells #[.int .i64 t, .int .i64 p] 142)) := HK2.out.trans (KeepG.trans (fun k ob hk _ => (set_same_mark HW2.out.hdr k).trans hk) (KeepG.ext ((Ext.refl _).alloc _)))
    have hBw4 : B ≤ ((w2.setCell ⟨wb, 1, none⟩ (.bool false)).alloc (.cells #[.int .i64 t, .int .i64 p] 142)).heap.size := by simp; omega
    obtain ⟨c0, c1, cf⟩ := cells2b hb1
    have z0 : ((w2.setCell ⟨wb, 1, none⟩ (.bool false)).alloc (.cells #[.int .i64 t, .int .i64 p] 142)).cell? ⟨wb, 0, none⟩ = some (.map (some mb)) := by rw [cell_of_row _ _ _ _ _ _ hW4.hdr]; rfl
    have HW4 := Lib.hid hW4
    have HE4 := Lib.hid hE4
    have HK4 := Lib.hid hK4
    have hxb : w2.heap.size < ((w2.setCell ⟨wb, 1, none⟩ (.bool false)).alloc (.cells #[.int .i64 t, .int .i64 p] 142)).heap.size := by simp
    have hwx : wb < ((w2.setCell ⟨wb, 1, none⟩ (.bool false)).alloc (.cells #[.int .i64 t, .int .i64 p] 142)).heap.size := by simp; omega
    clear hb1 hW4 hE4 hK4 HW2 HE2 HK2 y1 yf l1 l2 l3
    generalize ((w2.setCell ⟨wb, 1, none⟩ (.bool false)).alloc (.cells #[.int .i64 t, .int .i64 p] 142)) = W4 at *
    generalize w2.heap.size = xb at *
    obtain ⟨l1, l2, l3⟩ := lt_facts hxb
    obtain ⟨l4, l5, l6⟩ := lt_facts hwx
    have hmk : (Instr.makeSlice 143 (.int .i64 512) (.int .i64 512)).run Try.prog W4.drew = .ok (.slice (some ⟨W4.heap.size, 0, none⟩) 512 512) (W4.alloc (.cells (boolsV (List.replicate 512 false)) 4)).drew := make_bools W4.drew 512 (by omega)
    obtain ⟨g, hg⟩ : ∃ g : Gap, g = ⟨t, p, asid, 0, first, List.replicate 512 false, old, W4.heap.size, clock⟩ := ⟨_, rfl⟩
    have hgv : g.val = (.agg #[.int .i64 asid, .int .i64 0, .int .i64 first, .int .i64 512, .slice (some ⟨W4.heap.size, 0, none⟩) 512 512, .int .u64 old]) := by rw [hg]; unfold Gap.val Gap.left; dsimp only; rw [bools_len, List.length_replicate]; rfl
    have hup : (Instr.mapUpdate 135 (.map (some mb)) (.agg #[.int .i64 t, .int .i64 p]) (.agg #[.int .i64 asid, .int .i64 0, .int .i64 first, .int .i64 512, .slice (some ⟨W4.heap.size, 0, none⟩) 512 512, .int .u64 old])).run Try.prog (W4.alloc (.cells (boolsV (List.replicate 512 false)) 4)).drew = .ok () (setBlock (W4.alloc (.cells (boolsV (List.replicate 512 false)) 4)).drew mb (.map (entsK ((gs ++ [g]).map Gap.ke)) (clock + 1))) := by
      have := run_update2 (W4.alloc (.cells (boolsV (List.replicate 512 false)) 4)).drew mb (gs.map Gap.ke) clock spotK Try.underlying135 (box_drew (box_alloc HW4.out.map _)) t p g.val
      rw [(setK_new (v := g.val) (clock := clock) HK.out).1, (setK_new (v := g.val) (clock := clock) HK.out).2] at this
      rw [← hgv]
      have e : (gs ++ [g]).map Gap.ke = gs.map Gap.ke ++ [⟨t, p, g.val, clock⟩] := by rw [List.map_append]; simp [Gap.ke, hg]
      rw [e]
      exact this
    have HA := Lib.hid (WatchAt.add HW4.out HE4.out hB hBw4 g (by rw [hg]; exact HK.out) (by rw [hg]) (by rw [hg]) (by rw [hg]; exact ⟨hf0, hf1⟩) (by rw [hg]; simp) (W4.alloc (.cells (boolsV (List.replicate 512 false)) 4)).drew (by rw [hg]; rfl) (((Ext.refl W4).alloc _).drew))
    have HG := Lib.hid hg
    clear hg hgv HK
    generalize (gs ++ [g]).map Gap.ke = L' at hup HA
    generalize boolsV (List.replicate 512 false) = RL at hmk hup HA
    go_region
    all_goals
      go_wp2_with fail
      go_ret
      refine ⟨rfl, HA.out.2.2, HK4.out.trans HA.out.2.1, g.tb, g.born, ?_⟩
      have := HA.out.1
      rw [HG.out] at this ⊢
      exact this
  · go_wp2_with (go_at_call 71; refine (bbm_orderI _ _ (by omega)).mono ?_; rintro e w' ⟨rfl, hww⟩; rw [hww]; clear hww w')
    have hb1 : ((w2.setCell ⟨wb, 1, none⟩ (.bool false)).alloc (.cells #[.int .i64 t, .int .i64 p] 142)).heap[w2.heap.size]? = some (.cells #[.int .i64 t, .int .i64 p] 142 (0, 0)) := heap_alloc_at _ _ (by simp)
    have hW4 : WatchAt ((w2.setCell ⟨wb, 1, none⟩ (.bool false)).alloc (.cells #[.int .i64 t, .int .i64 p] 142)) B wb mb gs clock false := (watch_heap HW2.out (set_same_mark HW2.out.hdr)).ext ((Ext.refl _).alloc _)
    have hE4 : Ext W ((w2.setCell ⟨wb, 1, none⟩ (.bool false)).alloc (.cells #[.int .i64 t, .int .i64 p] 142)) := (ext_set HE2.out (Nat.le_trans hB HW2.out.wbB) _ _).alloc _
    have hK4 : KeepG w ((w2.setCell ⟨wb, 1, none⟩ (.bool false)).alloc (.cells #[.int .i64 t, .int .i64 p] 142)) := HK2.out.trans (KeepG.trans (fun k ob hk _ => (set_same_mark HW2.out.hdr k).trans hk) (KeepG.ext ((Ext.refl _).alloc _)))
    have hBw4 : B ≤ ((w2.setCell ⟨wb, 1, none⟩ (.bool false)).alloc (.cells #[.int .i64 t, .int .i64 p] 142)).heap.size := by simp; omega
    obtain ⟨c0, c1, cf⟩ := cells2b hb1
    have z0 : ((w2.setCell ⟨wb, 1, none⟩ (.bool false)).alloc (.cells #[.int .i64 t, .int .i64 p] 142)).cell? ⟨wb, 0, none⟩ = some (.map (some mb)) := by rw [cell_of_row _ _ _ _ _ _ hW4.hdr]; rfl
    have HW4 := Lib.hid hW4
    have HE4 := Lib.hid hE4
    have HK4 := Lib.hid hK4
    have hxb : w2.heap.size < ((w2.setCell ⟨wb, 1, none⟩ (.bool false)).alloc (.cells #[.int .i64 t, .int .i64 p] 142)).heap.size := by simp
    have hwx : wb < ((w2.setCell ⟨wb, 1, none⟩ (.bool false)).alloc (.cells #[.int .i64 t, .int .i64 p] 142)).heap.size := by simp; omega
    clear hb1 hW4 hE4 hK4 HW2 HE2 HK2 y1 yf l1 l2 l3
    generalize ((w2.setCell ⟨wb, 1, none⟩ (.bool false)).alloc (.cells #[.int .i64 t, .int .i64 p] 142)) = W4 at *
    generalize w2.heap.size = xb at *
    obtain ⟨l1, l2, l3⟩ := lt_facts hxb
    obtain ⟨l4, l5, l6⟩ := lt_facts hwx
    have hmk : (Instr.makeSlice 143 (.int .i64 64) (.int .i64 64)).run Try.prog W4.drew = .ok (.slice (some ⟨W4.heap.size, 0, none⟩) 64 64) (W4.alloc (.cells (boolsV (List.replicate 64 false)) 4)).drew := make_bools W4.drew 64 (by omega)
    obtain ⟨g, hg⟩ : ∃ g : Gap, g = ⟨t, p, asid, 1, first, List.replicate 64 false, old, W4.heap.size, clock⟩ := ⟨_, rfl⟩
    have hgv : g.val = (.agg #[.int .i64 asid, .int .i64 1, .int .i64 first, .int .i64 64, .slice (some ⟨W4.heap.size, 0, none⟩) 64 64, .int .u64 old]) := by rw [hg]; unfold Gap.val Gap.left; dsimp only; rw [bools_len, List.length_replicate]; rfl
    have hup : (Instr.mapUpdate 135 (.map (some mb)) (.agg #[.int .i64 t, .int .i64 p]) (.agg #[.int .i64 asid, .int .i64 1, .int .i64 first, .int .i64 64, .slice (some ⟨W4.heap.size, 0, none⟩) 64 64, .int .u64 old])).run Try.prog (W4.alloc (.cells (boolsV (List.replicate 64 false)) 4)).drew = .ok () (setBlock (W4.alloc (.cells (boolsV (List.replicate 64 false)) 4)).drew mb (.map (entsK ((gs ++ [g]).map Gap.ke)) (clock + 1))) := by
      have := run_update2 (W4.alloc (.cells (boolsV (List.replicate 64 false)) 4)).drew mb (gs.map Gap.ke) clock spotK Try.underlying135 (box_drew (box_alloc HW4.out.map _)) t p g.val
      rw [(setK_new (v := g.val) (clock := clock) HK.out).1, (setK_new (v := g.val) (clock := clock) HK.out).2] at this
      rw [← hgv]
      have e : (gs ++ [g]).map Gap.ke = gs.map Gap.ke ++ [⟨t, p, g.val, clock⟩] := by rw [List.map_append]; simp [Gap.ke, hg]
      rw [e]
      exact this
    have HA := Lib.hid (WatchAt.add HW4.out HE4.out hB hBw4 g (by rw [hg]; exact HK.out) (by rw [hg]) (by rw [hg]) (by rw [hg]; exact ⟨hf0, hf1⟩) (by rw [hg]; simp) (W4.alloc (.cells (boolsV (List.replicate 64 false)) 4)).drew (by rw [hg]; rfl) (((Ext.refl W4).alloc _).drew))
    have HG := Lib.hid hg
    clear hg hgv HK
    generalize (gs ++ [g]).map Gap.ke = L' at hup HA
    generalize boolsV (List.replicate 64 false) = RL at hmk hup HA
    go_region
    all_goals
      go_wp2_with fail
      go_ret
      refine ⟨rfl, HA.out.2.2, HK4.out.trans HA.out.2.1, g.tb, g.born, ?_⟩
      have := HA.out.1
      rw [HG.out] at this ⊢
      exact this
  · go_wp2_with (go_at_call 71; refine (bbm_orderI _ _ (by omega)).mono ?_; rintro e w' ⟨rfl, hww⟩; rw [hww]; clear hww w')
    have hb1 : ((w2.setCell ⟨wb, 1, none⟩ (.bool false)).alloc (.cells #[.int .i64 t, .int .i64 p] 142)).heap[w2.heap.size]? = some (.cells #[.int .i64 t, .int .i64 p] 142 (0, 0)) := heap_alloc_at _ _ (by simp)
    have hW4 : WatchAt ((w2.setCell ⟨wb, 1, none⟩ (.bool false)).alloc (.cells #[.int .i64 t, .int .i64 p] 142)) B wb mb gs clock false := (watch_heap HW2.out (set_same_mark HW2.out.hdr)).ext ((Ext.refl _).alloc _)
    have hE4 : Ext W ((w2.setCell ⟨wb, 1, none⟩ (.bool false)).alloc (.cells #[.int .i64 t, .int .i64 p] 142)) := (ext_set HE2.out (Nat.le_trans hB HW2.out.wbB) _ _).alloc _
    have hK4 : KeepG w ((w2.setCell ⟨wb, 1, none⟩ (.bool false)).alloc (.cells #[.int .i64 t, .int .i64 p] 142)) := HK2.out.trans (KeepG.trans (fun k ob hk _ => (set_same_mark HW2.out.hdr k).trans hk) (KeepG.ext ((Ext.refl _).alloc _)))
    have hBw4 : B ≤ ((w2.setCell ⟨wb, 1, none⟩ (.bool false)).alloc (.cells #[.int .i64 t, .int .i64 p] 142)).heap.size := by simp; omega
    obtain ⟨c0, c1, cf⟩ := cells2b hb1
    have z0 : ((w2.setCell ⟨wb, 1, none⟩ (.bool false)).alloc (.cells #[.int .i64 t, .int .i64 p] 142)).cell? ⟨wb, 0, none⟩ = some (.map (some mb)) := by rw [cell_of_row _ _ _ _ _ _ hW4.hdr]; rfl
    have HW4 := Lib.hid hW4
    have HE4 := Lib.hid hE4
    have HK4 := Lib.hid hK4
    have hxb : w2.heap.size < ((w2.setCell ⟨wb, 1, none⟩ (.bool false)).alloc (.cells #[.int .i64 t, .int .i64 p] 142)).heap.size := by simp
    have hwx : wb < ((w2.setCell ⟨wb, 1, none⟩ (.bool false)).alloc (.cells #[.int .i64 t, .int .i64 p] 142)).heap.size := by simp; omega
    clear hb1 hW4 hE4 hK4 HW2 HE2 HK2 y1 yf l1 l2 l3
    generalize ((w2.setCell ⟨wb, 1, none⟩ (.bool false)).alloc (.cells #[.int .i64 t, .int .i64 p] 142)) = W4 at *
    generalize w2.heap.size = xb at *
    obtain ⟨l1, l2, l3⟩ := lt_facts hxb
    obtain ⟨l4, l5, l6⟩ := lt_facts hwx
    have hmk : (Instr.makeSlice 143 (.int .i64 8) (.int .i64 8)).run Try.prog W4.drew = .ok (.slice (some ⟨W4.heap.size, 0, none⟩) 8 8) (W4.alloc (.cells (boolsV (List.replicate 8 false)) 4)).drew := make_bools W4.drew 8 (by omega)
    obtain ⟨g, hg⟩ : ∃ g : Gap, g = ⟨t, p, asid, 2, first, List.replicate 8 false, old, W4.heap.size, clock⟩ := ⟨_, rfl⟩
    have hgv : g.val = (.agg #[.int .i64 asid, .int .i64 2, .int .i64 first, .int .i64 8, .slice (some ⟨W4.heap.size, 0, none⟩) 8 8, .int .u64 old]) := by rw [hg]; unfold Gap.val Gap.left; dsimp only; rw [bools_len, List.length_replicate]; rfl
    have hup : (Instr.mapUpdate 135 (.map (some mb)) (.agg #[.int .i64 t, .int .i64 p]) (.agg #[.int .i64 asid, .int .i64 2, .int .i64 first, .int .i64 8, .slice (some ⟨W4.heap.size, 0, none⟩) 8 8, .int .u64 old])).run Try.prog (W4.alloc (.cells (boolsV (List.replicate 8 false)) 4)).drew = .ok () (setBlock (W4.alloc (.cells (boolsV (List.replicate 8 false)) 4)).drew mb (.map (entsK ((gs ++ [g]).map Gap.ke)) (clock + 1))) := by
      have := run_update2 (W4.alloc (.cells (boolsV (List.replicate 8 false)) 4)).drew mb (gs.map Gap.ke) clock spotK Try.underlying135 (box_drew (box_alloc HW4.out.map _)) t p g.val
      rw [(setK_new (v := g.val) (clock := clock) HK.out).1, (setK_new (v := g.val) (clock := clock) HK.out).2] at this
      rw [← hgv]
      have e : (gs ++ [g]).map Gap.ke = gs.map Gap.ke ++ [⟨t, p, g.val, clock⟩] := by rw [List.map_append]; simp [Gap.ke, hg]
      rw [e]
      exact this
    have HA := Lib.hid (WatchAt.add HW4.out HE4.out hB hBw4 g (by rw [hg]; exact HK.out) (by rw [hg]) (by rw [hg]) (by rw [hg]; exact ⟨hf0, hf1⟩) (by rw [hg]; simp) (W4.alloc (.cells (boolsV (List.replicate 8 false)) 4)).drew (by rw [hg]; rfl) (((Ext.refl W4).alloc _).drew))
    have HG := Lib.hid hg
    clear hg hgv HK
    generalize (gs ++ [g]).map Gap.ke = L' at hup HA
    generalize boolsV (List.replicate 8 false) = RL at hmk hup HA
    go_region
    all_goals
      go_wp2_with fail
      go_ret
      refine ⟨rfl, HA.out.2.2, HK4.out.trans HA.out.2.1, g.tb, g.born, ?_⟩
      have := HA.out.1
      rw [HG.out] at this ⊢
      exact this
  · go_wp2_with (go_at_call 71; refine (bbm_orderI _ _ (by omega)).mono ?_; rintro e w' ⟨rfl, hww⟩; rw [hww]; clear hww w')
    have hb1 : ((w2.setCell ⟨wb, 1, none⟩ (.bool false)).alloc (.cells #[.int .i64 t, .int .i64 p] 142)).heap[w2.heap.size]? = some (.cells #[.int .i64 t, .int .i64 p] 142 (0, 0)) := heap_alloc_at _ _ (by simp)
    have hW4 : WatchAt ((w2.setCell ⟨wb, 1, none⟩ (.bool false)).alloc (.cells #[.int .i64 t, .int .i64 p] 142)) B wb mb gs clock false := (watch_heap HW2.out (set_same_mark HW2.out.hdr)).ext ((Ext.refl _).alloc _)
    have hE4 : Ext W ((w2.setCell ⟨wb, 1, none⟩ (.bool false)).alloc (.cells #[.int .i64 t, .int .i64 p] 142)) := (ext_set HE2.out (Nat.le_trans hB HW2.out.wbB) _ _).alloc _
    have hK4 : KeepG w ((w2.setCell ⟨wb, 1, none⟩ (.bool false)).alloc (.cells #[.int .i64 t, .int .i64 p] 142)) := HK2.out.trans (KeepG.trans (fun k ob hk _ => (set_same_mark HW2.out.hdr k).trans hk) (KeepG.ext ((Ext.refl _).alloc _)))
    have hBw4 : B ≤ ((w2.setCell ⟨wb, 1, none⟩ (.bool false)).alloc (.cells #[.int .i64 t, .int .i64 p] 142)).heap.size := by simp; omega
    obtain ⟨c0, c1, cf⟩ := cells2b hb1
    have z0 : ((w2.setCell ⟨wb, 1, none⟩ (.bool false)).alloc (.cells #[.int .i64 t, .int .i64 p] 142)).cell? ⟨wb, 0, none⟩ = some (.map (some mb)) := by rw [cell_of_row _ _ _ _ _ _ hW4.hdr]; rfl
    have HW4 := Lib.hid hW4
    have HE4 := Lib.hid hE4
    have HK4 := Lib.hid hK4
    have hxb : w2.heap.size < ((w2.setCell ⟨wb, 1, none⟩ (.bool false)).alloc (.cells #[.int .i64 t, .int .i64 p] 142)).heap.size := by simp
    have hwx : wb < ((w2.setCell ⟨wb, 1, none⟩ (.bool false)).alloc (.cells #[.int .i64 t, .int .i64 p] 142)).heap.size := by simp; omega
    clear hb1 hW4 hE4 hK4 HW2 HE2 HK2 y1 yf l1 l2 l3
    generalize ((w2.setCell ⟨wb, 1, none⟩ (.bool false)).alloc (.cells #[.int .i64 t, .int .i64 p] 142)) = W4 at *
    generalize w2.heap.size = xb at *
    obtain ⟨l1, l2, l3⟩ := lt_facts hxb
    obtain ⟨l4, l5, l6⟩ := lt_facts hwx
    have hmk : (Instr.makeSlice 143 (.int .i64 1) (.int .i64 1)).run Try.prog W4.drew = .ok (.slice (some ⟨W4.heap.size, 0, none⟩) 1 1) (W4.alloc (.cells (boolsV (List.replicate 1 false)) 4)).drew := make_bools W4.drew 1 (by omega)
    obtain ⟨g, hg⟩ : ∃ g : Gap, g = ⟨t, p, asid, 3, first, List.replicate 1 false, old, W4.heap.size, clock⟩ := ⟨_, rfl⟩
    have hgv : g.val = (.agg #[.int .i64 asid, .int .i64 3, .int .i64 first, .int .i64 1, .slice (some ⟨W4.heap.size, 0, none⟩) 1 1, .int .u64 old]) := by rw [hg]; unfold Gap.val Gap.left; dsimp only; rw [bools_len, List.length_replicate]; rfl
    have hup : (Instr.mapUpdate 135 (.map (some mb)) (.agg #[.int .i64 t, .int .i64 p]) (.agg #[.int .i64 asid, .int .i64 3, .int .i64 first, .int .i64 1, .slice (some ⟨W4.heap.size, 0, none⟩) 1 1, .int .u64 old])).run Try.prog (W4.alloc (.cells (boolsV (List.replicate 1 false)) 4)).drew = .ok () (setBlock (W4.alloc (.cells (boolsV (List.replicate 1 false)) 4)).drew mb (.map (entsK ((gs ++ [g]).map Gap.ke)) (clock + 1))) := by
      have := run_update2 (W4.alloc (.cells (boolsV (List.replicate 1 false)) 4)).drew mb (gs.map Gap.ke) clock spotK Try.underlying135 (box_drew (box_alloc HW4.out.map _)) t p g.val
      rw [(setK_new (v := g.val) (clock := clock) HK.out).1, (setK_new (v := g.val) (clock := clock) HK.out).2] at this
      rw [← hgv]
      have e : (gs ++ [g]).map Gap.ke = gs.map Gap.ke ++ [⟨t, p, g.val, clock⟩] := by rw [List.map_append]; simp [Gap.ke, hg]
      rw [e]
      exact this
    have HA := Lib.hid (WatchAt.add HW4.out HE4.out hB hBw4 g (by rw [hg]; exact HK.out) (by rw [hg]) (by rw [hg]) (by rw [hg]; exact ⟨hf0, hf1⟩) (by rw [hg]; simp) (W4.alloc (.cells (boolsV (List.replicate 1 false)) 4)).drew (by rw [hg]; rfl) (((Ext.refl W4).alloc _).drew))
    have HG := Lib.hid hg
    clear hg hgv HK
    generalize (gs ++ [g]).map Gap.ke = L' at hup HA
    generalize boolsV (List.replicate 1 false) = RL at hmk hup HA
    go_region
    all_goals
      go_wp2_with fail
      go_ret
      refine ⟨rfl, HA.out.2.2, HK4.out.trans HA.out.2.1, g.tb, g.born, ?_⟩
      have := HA.out.1
      rw [HG.out] at this ⊢
      exact this

end Go.Proofs.Ythcdecgecabgaaa
