import Derived.Test.YthcdecgecabgaaaWat
import Derived.StillTailTactics
import Derived.Deep.RegionWith
/- The contracts of the watch: tell, Told. -/
namespace Go.Proofs.Ythcdecgecabgaaa
open Go.RowKit
open Go.ChangeMaps (setBlock)
set_option linter.unusedVariables false
set_option linter.unusedSimpArgs false
attribute [local go_sem] setCell_drewN alloc_drewN lt_moreE le_moreE lt_moreK le_moreK cell_more frozen_more set_more drew_more drewN_more

/-- A page of an open place is told. -/
def tellG (page : Int) (g : Gap) : Gap := if 0 ≤ page - g.first ∧ page - g.first < g.told.length then { g with told := g.told.set (page - g.first).toNat true } else g
theorem boolsV_at {l : List Bool} {i : Nat} (hi : i < l.length) : (boolsV l)[i]? = some (.bool (l.getD i false)) := by
  simp [boolsV, List.getD, List.getElem?_eq_getElem hi]
theorem boolsV_set (l : List Bool) (i : Nat) (b : Bool) : (boolsV l).setIfInBounds i (.bool b) = boolsV (l.set i b) := by
  apply Array.ext'
  simp [boolsV, List.map_set]
theorem count_set_true : ∀ (l : List Bool) (i : Nat), i < l.length → l.getD i false = false → (l.set i true).count false + 1 = l.count false := by
  intro l
  induction l with
  | nil => intro i h _; simp at h
  | cons b l ih =>
    intro i h hb
    cases i with
    | zero =>
      simp at hb
      subst hb
      simp
    | succ i =>
      have := ih i (by simpa using h) (by simpa using hb)
      simp only [List.set_cons_succ, List.count_cons]
      omega
theorem set_true_same : ∀ (l : List Bool) (i : Nat), i < l.length → l.getD i false = true → l.set i true = l := by
  intro l
  induction l with
  | nil => intro i h _; simp at h
  | cons b l ih =>
    intro i h hb
    cases i with
    | zero => simp at hb; subst hb; rfl
    | succ i => simp only [List.set_cons_succ]; rw [ih i (by simpa using h) (by simpa using hb)]
theorem count_le (l : List Bool) : l.count false ≤ l.length := List.count_le_length

set_option maxRecDepth 100000 in
set_option maxHeartbeats 2000000 in
theorem bbm_tell (w : World) (g : Gap) (page : Int) (ht : w.heap[g.tb]? = some (.cells (boolsV g.told) 4 (0, 0))) (hl : g.told.length ≤ 512) (p0 : 0 ≤ page) (p1 : page < 4096) (f0 : 0 ≤ g.first) (f1 : g.first < 4096) :
    Calls Try.prog 73 #[g.val, .int .i64 page] w fun e w' => e = .returned (tellG page g).val ∧ w'.heap[g.tb]? = some (.cells (boolsV (tellG page g).told) 4 (0, 0)) ∧ w.grownBy w' (some g.tb) := by
  obtain ⟨t, p, asid, level, first, told, last, tb, born⟩ := g
  dsimp only at *
  have hlt : tb < w.heap.size := (Array.getElem?_eq_some_iff.1 ht).1
  obtain ⟨k1, k2, k3⟩ := lt_facts hlt
  have HT := Lib.hid ht
  have hcl := count_le told
  show Calls _ _ #[.agg #[.int .i64 asid, .int .i64 level, .int .i64 first, .int .i64 ((told.count false : Nat) : Int), .slice (some ⟨tb, 0, none⟩) told.length told.length, .int .u64 last], .int .i64 page] _ _
  by_cases hin : 0 ≤ page - first ∧ page - first < told.length
  · obtain ⟨h0, h1⟩ := hin
    obtain ⟨i, hi⟩ := Int.eq_ofNat_of_zero_le h0
    have hil : i < told.length := by omega
    have hv : tellG page ⟨t, p, asid, level, first, told, last, tb, born⟩ = ⟨t, p, asid, level, first, told.set i true, last, tb, born⟩ := by
      unfold tellG
      dsimp only
      rw [if_pos ⟨h0, h1⟩, hi]
      rfl
    rw [hv]
    have y0 : w.cell? ⟨tb, i, none⟩ = some (.bool (told.getD i false)) := by rw [cell_of_row _ _ _ _ _ _ ht]; exact boolsV_at hil
    have yf : w.frozen? ⟨tb, i, none⟩ = false := frozen_of_row _ _ _ _ _ ht
    have hi1 : (0 : Int) ≤ i := by omega
    have hi2 : (i : Int) < told.length := by omega
    cases hb : told.getD i false with
    | true =>
      have hs := set_true_same told i hil hb
      rw [hs]
      rw [hb] at y0
      unfold Gap.val Gap.left
      dsimp only
      generalize told.count false = cnt at *
      have HTl := Lib.hid (show told = told from rfl)
      generalize hlen : told.length = len at *
      have HLen := Lib.hid hlen
      clear hs hv hb ht hlen h0 h1
      go_enter Try.func73, Try.ntmps73
      go_wp2_with fail
      refine bodyPost_ret (results_cell_row rfl _ _ (w.heap.size + 1) 145 _ (0, 0) _ rfl (heap_alloc_at _ _ (by simp)) Try.underlying145 rfl (by kernel_rfl)) rfl ?_
      exact ⟨rfl, box_alloc (box_alloc HT.out _) _, grow_alloc (grow_alloc (grow_refl _ _) _) _⟩
    | false =>
      have hc1 := count_set_true told i hil hb
      rw [hb] at y0
      unfold Gap.val Gap.left
      dsimp only
      rw [List.length_set]
      have hst := boolsV_set told i true
      generalize told.count false = cnt at *
      obtain ⟨cn, hcn⟩ : ∃ cn, (told.set i true).count false = cn := ⟨_, rfl⟩
      rw [hcn] at hc1 ⊢
      obtain rfl : cnt = cn + 1 := hc1.symm
      obtain ⟨V', hV'⟩ : ∃ V', boolsV (told.set i true) = V' := ⟨_, rfl⟩
      have HST := Lib.hid (hst.trans hV')
      rw [hV']
      generalize hlen : told.length = len at *
      clear hv hb ht hlen h0 h1 hcn hc1 hst hV'
      go_enter Try.func73, Try.ntmps73
      go_wp2_with fail
      refine bodyPost_ret (results_cell_row rfl _ _ (w.heap.size + 1) 145 _ (0, 0) _ rfl (heap_alloc_at _ _ (by simp)) Try.underlying145 rfl (by kernel_rfl)) rfl ?_
      exact ⟨rfl, box_alloc (box_alloc ((heap_setCell_same w tb i _ _ (.bool true) HT.out).trans (by rw [HST.out])) _) _, grow_alloc (grow_alloc (grow_setCell (grow_refl w (some tb)) ⟨tb, i, none⟩ _ (.inr rfl)) _) _⟩
  · have hv : tellG page ⟨t, p, asid, level, first, told, last, tb, born⟩ = ⟨t, p, asid, level, first, told, last, tb, born⟩ := by
      unfold tellG
      dsimp only
      rw [if_neg hin]
    rw [hv]
    unfold Gap.val Gap.left
    dsimp only
    generalize told.count false = cnt at *
    generalize hlen : told.length = len at *
    have hin' : page - first < 0 ∨ (0 ≤ page - first ∧ (len : Int) ≤ page - first) := by omega
    clear hv ht hlen hin
    rcases hin' with h | ⟨h, h2⟩
    all_goals
      go_enter Try.func73, Try.ntmps73
      go_wp2_with fail
      refine bodyPost_ret (results_cell_row rfl _ _ (w.heap.size + 1) 145 _ (0, 0) _ rfl (heap_alloc_at _ _ (by simp)) Try.underlying145 rfl (by kernel_rfl)) rfl ?_
      exact ⟨rfl, box_alloc (box_alloc HT.out _) _, grow_alloc (grow_alloc (grow_refl _ _) _) _⟩

theorem cells6 {w : World} {n : Nat} {T : TypeId} {a0 a1 a2 a3 a4 a5 : Value} (h : w.heap[n]? = some (.cells #[a0, a1, a2, a3, a4, a5] T (0, 0))) :
    w.cell? ⟨n, 0, none⟩ = some a0 ∧ w.cell? ⟨n, 1, none⟩ = some a1 ∧ w.cell? ⟨n, 2, none⟩ = some a2 ∧ w.cell? ⟨n, 3, none⟩ = some a3 ∧ w.cell? ⟨n, 4, none⟩ = some a4 ∧ w.cell? ⟨n, 5, none⟩ = some a5 ∧ ∀ i, w.frozen? ⟨n, i, none⟩ = false := by
  refine ⟨?_, ?_, ?_, ?_, ?_, ?_, fun i => frozen_of_row _ _ _ _ _ h⟩ <;> (rw [cell_of_row _ _ _ _ _ _ h]; rfl)
theorem cells2b {w : World} {n : Nat} {T : TypeId} {a0 a1 : Value} (h : w.heap[n]? = some (.cells #[a0, a1] T (0, 0))) :
    w.cell? ⟨n, 0, none⟩ = some a0 ∧ w.cell? ⟨n, 1, none⟩ = some a1 ∧ ∀ i, w.frozen? ⟨n, i, none⟩ = false := by
  refine ⟨?_, ?_, fun i => frozen_of_row _ _ _ _ _ h⟩ <;> (rw [cell_of_row _ _ _ _ _ _ h]; rfl)
theorem upd_eq {w w5 : World} {mb clock g : Nat} {L L' : List KE} {t p : Int} {v : Value} (hm : w.heap[mb]? = some (.map (entsK L) clock)) (hg : w.grownBy w5 (some g)) (hne : mb ≠ g) (hs : setK t p v clock L = L' ∧ clockK t p clock L = clock) :
    (Instr.mapUpdate 135 (.map (some mb)) (key2 t p) v).run Try.prog w5 = .ok () (setBlock w5 mb (.map (entsK L') clock)) := by
  have hm5 : w5.heap[mb]? = some (.map (entsK L) clock) := (hg.block mb (Array.getElem?_eq_some_iff.1 hm).1 (by simpa using hne)).trans hm
  have := run_update2 w5 mb L clock spotK Try.underlying135 hm5 t p v
  rw [hs.1, hs.2] at this
  exact this
theorem tellG_same (page : Int) (g : Gap) : (tellG page g).t = g.t ∧ (tellG page g).p = g.p ∧ (tellG page g).asid = g.asid ∧ (tellG page g).born = g.born ∧ (tellG page g).tb = g.tb ∧ (tellG page g).first = g.first ∧ (tellG page g).told.length = g.told.length := by
  unfold tellG
  split <;> simp
/-- A page of a space is told. -/
def tellIf (asid page : Int) (g : Gap) : Gap := if g.asid = asid then tellG page g else g
/-- So far: those that the loop came by. -/
def soFar (asid page : Int) (seen : Array Nat) (g : Gap) : Gap := if g.born ∈ seen.toList then tellIf asid page g else g
theorem tellIf_same (asid page : Int) (g : Gap) : (tellIf asid page g).t = g.t ∧ (tellIf asid page g).p = g.p ∧ (tellIf asid page g).born = g.born := by
  unfold tellIf
  split
  · exact ⟨(tellG_same _ _).1, (tellG_same _ _).2.1, (tellG_same _ _).2.2.2.1⟩
  · exact ⟨rfl, rfl, rfl⟩
theorem soFar_same (asid page : Int) (seen : Array Nat) (g : Gap) : (soFar asid page seen g).t = g.t ∧ (soFar asid page seen g).p = g.p ∧ (soFar asid page seen g).born = g.born := by
  unfold soFar
  split
  · exact tellIf_same _ _ _
  · exact ⟨rfl, rfl, rfl⟩
theorem soFar_push {asid page : Int} {seen : Array Nat} {gs : List Gap} {g : Gap} (hn : (gs.map Gap.born).Nodup) (hk : (gs.map fun g => (g.t, g.p)).Nodup) (hg : g ∈ gs) (hs : g.born ∉ seen.toList) :
    gs.map (soFar asid page (seen.push g.born)) = if g.asid = asid then repl (tellG page g) (gs.map (soFar asid page seen)) else gs.map (soFar asid page seen) := by
  have key : ∀ h ∈ gs, soFar asid page (seen.push g.born) h = if h = g then tellIf asid page g else soFar asid page seen h := by
    intro h hh
    by_cases e : h = g
    · subst e
      rw [if_pos rfl]
      unfold soFar
      rw [if_pos (by simp)]
    · rw [if_neg e]
      have hb : h.born ≠ g.born := fun hb => e (inj_nodup hn hh hg hb)
      unfold soFar
      by_cases h2 : h.born ∈ seen.toList
      · rw [if_pos h2, if_pos (by simp only [Array.toList_push, List.mem_append]; exact .inl h2)]
      · rw [if_neg h2, if_neg (by simp only [Array.toList_push, List.mem_append, List.mem_singleton]; exact fun hh => hh.elim h2 hb)]
  by_cases ha : g.asid = asid
  · rw [if_pos ha]
    unfold repl
    rw [List.map_map]
    apply List.map_congr_left
    intro h hh
    rw [key h hh]
    obtain ⟨s1, s2, _⟩ := soFar_same asid page seen h
    obtain ⟨t1, t2, _⟩ := tellG_same page g
    show _ = if (soFar asid page seen h).t = (tellG page g).t ∧ (soFar asid page seen h).p = (tellG page g).p then tellG page g else soFar asid page seen h
    rw [s1, s2, t1, t2]
    by_cases e : h = g
    · subst e
      rw [if_pos rfl, if_pos ⟨rfl, rfl⟩]
      unfold tellIf
      rw [if_pos ha]
    · rw [if_neg e, if_neg (fun h2 => e (inj_nodup hk hh hg (by show (h.t, h.p) = (g.t, g.p); rw [h2.1, h2.2])))]
  · rw [if_neg ha]
    apply List.map_congr_left
    intro h hh
    rw [key h hh]
    by_cases e : h = g
    · subst e
      rw [if_pos rfl]
      unfold soFar tellIf
      rw [if_neg ha, if_neg hs]
    · rw [if_neg e]
theorem soFar_nil (asid page : Int) (gs : List Gap) : gs.map (soFar asid page #[]) = gs := by
  conv => rhs; rw [← List.map_id gs]
  apply List.map_congr_left
  intro h _
  unfold soFar
  rw [if_neg (by simp)]
  rfl
theorem soFar_all {asid page : Int} {seen : Array Nat} {gs : List Gap} (h : ∀ g ∈ gs, g.born ∈ seen.toList) : gs.map (soFar asid page seen) = gs.map (tellIf asid page) := by
  apply List.map_congr_left
  intro g hg
  unfold soFar
  rw [if_pos (h g hg)]
/-- How many are still to come. -/
def toCome (seen : Array Nat) (gs : List Gap) : Nat := (gs.filter fun g => decide (g.born ∉ seen.toList)).length
theorem toCome_push {seen : Array Nat} {gs : List Gap} {g : Gap} (hg : g ∈ gs) (hs : g.born ∉ seen.toList) : toCome (seen.push g.born) gs < toCome seen gs := by
  unfold toCome
  induction gs with
  | nil => cases hg
  | cons x l ih =>
    have hle : ∀ l : List Gap, (l.filter fun y => decide (y.born ∉ (seen.push g.born).toList)).length ≤ (l.filter fun y => decide (y.born ∉ seen.toList)).length := by
      intro l
      induction l with
      | nil => simp
      | cons y l ihl =>
        simp only [List.filter_cons]
        by_cases h1 : y.born ∈ seen.toList
        · rw [if_neg (by simp [h1]), if_neg (by simp [h1])]; exact ihl
        · rw [if_pos (decide_eq_true h1)]
          split
          · simp only [List.length_cons]; omega
          · simp only [List.length_cons]; omega
    simp only [List.filter_cons]
    rcases List.mem_cons.1 hg with e | hg
    · rw [if_neg (by rw [← e]; simp), if_pos (decide_eq_true (by rw [← e]; exact hs))]
      have := hle l
      simp only [List.length_cons]
      omega
    · have := ih hg
      by_cases h1 : x.born ∈ seen.toList
      · rw [if_neg (by simp [h1]), if_neg (by simp [h1])]; exact this
      · rw [if_pos (c := decide (x.born ∉ seen.toList) = true) (decide_eq_true h1)]
        split
        · simp only [List.length_cons]; omega
        · simp only [List.length_cons]; omega

theorem fresh_of {w : World} {B wb mb clock : Nat} {gs : List Gap} {br : Bool} (h : WatchAt w B wb mb gs clock br) : Fresh2 (gs.map Gap.ke) clock := by
  refine ⟨fun x hx => ?_, by rw [List.map_map]; exact h.borns⟩
  obtain ⟨g, hg, rfl⟩ := List.mem_map.1 hx
  exact h.old g hg
theorem keepG_iter {w w1 w2 : World} {r : Nat} (h : KeepG w w1) (hr : w.heap.size ≤ r) (hk : ∀ (k : Nat) (ob : Obj), w1.heap[k]? = some ob → k ≠ r → w2.heap[k]? = some ob) : KeepG w w2 :=
  fun k ob hw hn => hk k ob (h k ob hw hn) (by have := (Array.getElem?_eq_some_iff.1 hw).1; omega)
theorem watch_iter {w w2 : World} {B wb mb clock r : Nat} {gs : List Gap} {br : Bool} {m : Option Nat} {s c : Nat} {seen : Array Nat} (h : WatchAt w B wb mb gs clock br) (hr : w.heap[r]? = some (.mapIter m s seen c))
    (hk : ∀ (k : Nat) (ob : Obj), w.heap[k]? = some ob → k ≠ r → w2.heap[k]? = some ob) : WatchAt w2 B wb mb gs clock br :=
  { h with
    hdr := hk _ _ h.hdr fun e => by have := h.hdr; rw [e, hr] at this; cases this
    map := hk _ _ h.map fun e => by have := h.map; rw [e, hr] at this; cases this
    told := fun g hg => hk _ _ (h.told g hg) fun e => by have := h.told g hg; rw [e, hr] at this; cases this }
theorem come_is {asid page : Int} {seen : Array Nat} {gs : List Gap} {x : KE} (hx : x ∈ (gs.map (soFar asid page seen)).map Gap.ke) (hn : x.born ∉ seen.toList) : ∃ g, g ∈ gs ∧ g ∈ gs.map (soFar asid page seen) ∧ x = g.ke := by
  obtain ⟨h, hh, rfl⟩ := List.mem_map.1 hx
  obtain ⟨g, hg, rfl⟩ := List.mem_map.1 hh
  have hb : (soFar asid page seen g).born = g.born := (soFar_same _ _ _ _).2.2
  have hg2 : soFar asid page seen g = g := by
    unfold soFar
    rw [if_neg]
    intro h2
    exact hn (by show (soFar asid page seen g).born ∈ _; rw [hb]; exact h2)
  exact ⟨g, hg, by rw [hg2] at hh; exact hh, by rw [hg2]⟩
theorem all_seen {asid page : Int} {seen : Array Nat} {gs : List Gap} (h : AllSeen ((gs.map (soFar asid page seen)).map Gap.ke) seen) : ∀ g ∈ gs, g.born ∈ seen.toList := fun g hg => by
  have := h (soFar asid page seen g).ke (List.mem_map_of_mem (List.mem_map_of_mem hg))
  rw [show (soFar asid page seen g).ke.born = g.born from (soFar_same asid page seen g).2.2] at this
  exact this

set_option maxRecDepth 100000 in
set_option maxHeartbeats 4000000 in
theorem watch_Told (W w : World) (hE : Ext W w) {B wb mb clock : Nat} {gs : List Gap} {br : Bool} (hW : WatchAt w B wb mb gs clock br) (hB : W.heap.size ≤ B) (asid page : Int) (p0 : 0 ≤ page) (p1 : page < 4096) :
    Calls Try.prog 21 #[.pointer (some ⟨wb, 0, none⟩), .int .i64 asid, .int .i64 page] w fun e w' => e = .returned (.tuple #[]) ∧ Ext W w' ∧ KeepG w w' ∧ WatchAt w' B wb mb (gs.map (tellIf asid page)) clock br := by
  have HW := Lib.hid hW
  have HE := Lib.hid hE
  have HGs := Lib.hid (And.intro hW.borns hW.keys)
  have y0 : w.cell? ⟨wb, 0, none⟩ = some (.map (some mb)) := by rw [cell_of_row _ _ _ _ _ _ hW.hdr]; rfl
  have hwl : wb < w.heap.size := (Array.getElem?_eq_some_iff.1 hW.hdr).1
  clear hW hE
  go_enter Try.func21, Try.ntmps21
  go_wp2_with (at_range; refine wpList_range2 rfl _ _ 142 145 rfl Try.underlying135 mb _ clock rfl HW.out.map ?_)
  go_frame
  have HR := Lib.hid (heap_alloc_new w (.mapIter (some mb) clock #[] clock))
  have HW1 := Lib.hid (HW.out.ext ((Ext.refl w).alloc (.mapIter (some mb) clock #[] clock)))
  have HE1 := Lib.hid (HE.out.alloc (.mapIter (some mb) clock #[] clock))
  have HK1 := Lib.hid (KeepG.ext ((Ext.refl w).alloc (.mapIter (some mb) clock #[] clock)))
  have hrW : W.heap.size ≤ w.heap.size := HE.out.size
  have hwr : w.heap.size ≤ w.heap.size := Nat.le_refl _
  have HKx := Lib.hid (fun (w1 w2 : World) (r : Nat) (h : KeepG w w1) (hr : w.heap.size ≤ r) (hk : ∀ (k : Nat) (ob : Obj), w1.heap[k]? = some ob → k ≠ r → w2.heap[k]? = some ob) => keepG_iter h hr hk)
  generalize w.alloc (.mapIter (some mb) clock #[] clock) = W1 at *
  generalize hrw : w.heap.size = r at hwr HR hwl hrW ⊢
  have HRW := Lib.hid hrw
  clear hrw y0 HE
  go_loopw [6, 7] (fun _ _ wr => ∃ seen : Array Nat, Ext W wr ∧ Hid (wr.heap[r]? = some (.mapIter (some mb) clock seen clock)) ∧ Hid (WatchAt wr B wb mb (gs.map (soFar asid page seen)) clock br) ∧ Hid (KeepG w wr)) (fun _ _ wr => match wr.heap[r]? with
    | some (.mapIter _ _ seen _) => toCome seen gs
    | _ => 0)
  case atStart => exact ⟨#[], HE1.out, HR, by rw [soFar_nil]; exact HW1, HK1⟩
  case round =>
    obtain ⟨seen, hEr, HRr, HWr, HKr⟩ := hrel
    have HEr := Lib.hid hEr
    have hmp := HWr.out.map
    have hfr := fresh_of HWr.out
    generalize hL : (gs.map (soFar asid page seen)).map Gap.ke = L at hmp hfr
    have HL := Lib.hid hL
    have HMp := Lib.hid hmp
    have HFr := Lib.hid hfr
    clear hEr hL hmp hfr
    go_wp2_with (at_next; refine wpList_next2 rfl _ rfl r mb clock seen L clock rfl HRr.out HMp.out HFr.out (Nat.le_refl _) ?_ ?_)
    · intro hall
      rw [← HL.out] at hall
      rw [soFar_all (all_seen hall)] at HWr
      clear hall
      go_wp2_with fail
      go_end0
      exact ⟨rfl, HEr.out, HKr.out, HWr.out⟩
    · intro x W2 hcm
      obtain ⟨hx, hnx, hR2, hoth, hgrow, hen0⟩ := hcm
      rw [← HL.out] at hx
      obtain ⟨g, hg, hgs, rfl⟩ := come_is hx hnx
      have hmeas := toCome_push hg (show g.born ∉ seen.toList from hnx)
      have HR2 := Lib.hid (show W2.heap[r]? = some (.mapIter (some mb) clock (seen.push g.born) clock) from hR2)
      have HW2 := Lib.hid (watch_iter HWr.out HRr.out hoth)
      have HK2 := Lib.hid (HKx.out _ _ r HKr.out (by rw [HRW.out]; exact Nat.le_refl _) hoth)
      have HE2 := Lib.hid (show Ext W W2 from ext_grow HEr.out hgrow hrW)
      have hfst := HW2.out.fst g hgs
      have hlen := HW2.out.len g hgs
      have HG := Lib.hid hg
      have HGS := Lib.hid hgs
      have hbr := (Array.getElem?_eq_some_iff.1 HR2.out).1
      have HP := Lib.hid (soFar_push (asid := asid) (page := page) HGs.out.1 HGs.out.2 hg (show g.born ∉ seen.toList from hnx))
      clear hx hnx hoth hR2 hgrow HWr HKr HEr HMp HFr HL hg hgs
      have z0 : W2.cell? ⟨wb, 0, none⟩ = some (.map (some mb)) := by rw [cell_of_row _ _ _ _ _ _ HW2.out.hdr]; rfl
      have hwb2 : wb < W2.heap.size := (Array.getElem?_eq_some_iff.1 HW2.out.hdr).1
      obtain ⟨l1, l2, l3⟩ := lt_facts hwb2
      by_cases ha : g.asid = asid
      · have hp := HP.out.trans (if_pos ha)
        obtain ⟨s1, s2, s3, s4, s5, s6, s7⟩ := tellG_same page g
        have hset := setK_repl (tellG page g) clock (gs.map (soFar asid page seen)) g HW2.out.keys HGS.out s1.symm s2.symm s4.symm
        rw [s1, s2, ← hp] at hset
        have HP2 := Lib.hid hp
        obtain ⟨L', hL'⟩ : ∃ L', (gs.map (soFar asid page (seen.push g.born))).map Gap.ke = L' := ⟨_, rfl⟩
        rw [hL'] at hset
        have HSet := Lib.hid hset
        have HL' := Lib.hid hL'
        clear hL'
        have HSm := Lib.hid (And.intro s1 (And.intro s2 (And.intro s4 (And.intro s5 (And.intro s6 s7)))))
        have HMeas := Lib.hid hmeas
        have HTd := Lib.hid (HW2.out.told g HGS.out)
        have HMp := Lib.hid HW2.out.map
        clear s1 s2 s3 s4 s5 s6 s7 hp hset hmeas HP
        unfold Gap.ke Gap.val at hen0
        dsimp only at hen0
        have heq : (g.asid == asid) = true := by simpa using ha
        clear ha
        go_wp2_with fail
        have hb1 : ((W2.alloc (.cells #[.int .i64 g.t, .int .i64 g.p] 142)).alloc (.cells #[.int .i64 g.asid, .int .i64 g.level, .int .i64 g.first, .int .i64 g.left, .slice (some ⟨g.tb, 0, none⟩) g.told.length g.told.length, .int .u64 g.last] 145)).heap[W2.heap.size]? = some (.cells #[.int .i64 g.t, .int .i64 g.p] 142 (0, 0)) := box_alloc (heap_alloc_new _ _) _
        have hb2 : ((W2.alloc (.cells #[.int .i64 g.t, .int .i64 g.p] 142)).alloc (.cells #[.int .i64 g.asid, .int .i64 g.level, .int .i64 g.first, .int .i64 g.left, .slice (some ⟨g.tb, 0, none⟩) g.told.length g.told.length, .int .u64 g.last] 145)).heap[W2.heap.size + 1]? = some (.cells #[.int .i64 g.asid, .int .i64 g.level, .int .i64 g.first, .int .i64 g.left, .slice (some ⟨g.tb, 0, none⟩) g.told.length g.told.length, .int .u64 g.last] 145 (0, 0)) := heap_alloc_at _ _ (by simp)
        have hz0 : ((W2.alloc (.cells #[.int .i64 g.t, .int .i64 g.p] 142)).alloc (.cells #[.int .i64 g.asid, .int .i64 g.level, .int .i64 g.first, .int .i64 g.left, .slice (some ⟨g.tb, 0, none⟩) g.told.length g.told.length, .int .u64 g.last] 145)).cell? ⟨wb, 0, none⟩ = some (.map (some mb)) := by rw [cell_of_row _ _ _ _ _ _ (box_alloc (box_alloc HW2.out.hdr _) _)]; rfl
        obtain ⟨c0, c1, cf⟩ := cells2b hb1
        obtain ⟨d0, d1, d2, d3, d4, d5, df⟩ := cells6 hb2
        have HW4 := Lib.hid (HW2.out.ext (show Ext W2 ((W2.alloc (.cells #[.int .i64 g.t, .int .i64 g.p] 142)).alloc (.cells #[.int .i64 g.asid, .int .i64 g.level, .int .i64 g.first, .int .i64 g.left, .slice (some ⟨g.tb, 0, none⟩) g.told.length g.told.length, .int .u64 g.last] 145)) from (by repeat (first | exact Ext.refl _ | apply Ext.more | apply Ext.alloc | apply Ext.drew | apply Ext.drewN))))
        have HE4 := Lib.hid (show Ext W ((W2.alloc (.cells #[.int .i64 g.t, .int .i64 g.p] 142)).alloc (.cells #[.int .i64 g.asid, .int .i64 g.level, .int .i64 g.first, .int .i64 g.left, .slice (some ⟨g.tb, 0, none⟩) g.told.length g.told.length, .int .u64 g.last] 145)) from (by repeat (first | exact HE2.out | apply Ext.more | apply Ext.alloc | apply Ext.drew | apply Ext.drewN)))
        have HK4 := Lib.hid (HK2.out.trans (KeepG.ext (show Ext W2 ((W2.alloc (.cells #[.int .i64 g.t, .int .i64 g.p] 142)).alloc (.cells #[.int .i64 g.asid, .int .i64 g.level, .int .i64 g.first, .int .i64 g.left, .slice (some ⟨g.tb, 0, none⟩) g.told.length g.told.length, .int .u64 g.last] 145)) from (by repeat (first | exact Ext.refl _ | apply Ext.more | apply Ext.alloc | apply Ext.drew | apply Ext.drewN)))))
        have HR4 := Lib.hid (show ((W2.alloc (.cells #[.int .i64 g.t, .int .i64 g.p] 142)).alloc (.cells #[.int .i64 g.asid, .int .i64 g.level, .int .i64 g.first, .int .i64 g.left, .slice (some ⟨g.tb, 0, none⟩) g.told.length g.told.length, .int .u64 g.last] 145)).heap[r]? = some (.mapIter (some mb) clock (seen.push g.born) clock) from (by repeat (first | (with_reducible exact HR2.out) | (with_reducible apply box_more) | (with_reducible apply box_alloc) | (with_reducible apply box_drew) | (with_reducible apply box_drewN))))
        have htl : g.tb < W2.heap.size := (Array.getElem?_eq_some_iff.1 HTd.out).1
        clear hb1 hb2 HE2 HK2 HR2 HMp HW2
        generalize ((W2.alloc (.cells #[.int .i64 g.t, .int .i64 g.p] 142)).alloc (.cells #[.int .i64 g.asid, .int .i64 g.level, .int .i64 g.first, .int .i64 g.left, .slice (some ⟨g.tb, 0, none⟩) g.told.length g.told.length, .int .u64 g.last] 145)) = W4 at *
        generalize W2.heap.size = xb at *
        have HT4 := Lib.hid (HW4.out.told g HGS.out)
        obtain ⟨n1, n2⟩ := HW4.out.ne_tb HGS.out
        have n3 : wb ≠ g.tb := Ne.symm n1
        have n4 : xb ≠ g.tb := by omega
        have n5 : mb ≠ g.tb := Ne.symm n2
        have HMp4 := Lib.hid HW4.out.map
        have HCe := Lib.hid (And.intro hz0 (And.intro c0 c1))
        clear HTd n1 n2
        have HTell := Lib.hid ((bbm_tell W4.drew g page (box_drew HT4.out) hlen p0 p1 hfst.1 hfst.2).mono (R' := fun e w5 => e = .returned (tellG page g).val ∧ w5.cell? ⟨wb, 0, none⟩ = some (.map (some mb)) ∧ w5.cell? ⟨xb, 0, none⟩ = some (.int .i64 g.t) ∧ w5.cell? ⟨xb, 1, none⟩ = some (.int .i64 g.p) ∧
            (Instr.mapUpdate 135 (.map (some mb)) (.agg #[.int .i64 g.t, .int .i64 g.p]) (tellG page g).val).run Try.prog w5 = .ok () (setBlock w5 mb (.map (entsK L') clock)) ∧ Hid (w5.heap[g.tb]? = some (.cells (boolsV (tellG page g).told) 4 (0, 0))) ∧ Hid (W4.drew.grownBy w5 (some g.tb)))
          fun e w5 ⟨h1, h2, h3⟩ => ⟨h1, h3.cell (w := W4.drew) HCe.out.1 (by simpa using n3), h3.cell (w := W4.drew) HCe.out.2.1 (by simpa using n4), h3.cell (w := W4.drew) HCe.out.2.2 (by simpa using n4), upd_eq (w := W4.drew) HMp4.out h3 n5 HSet.out, h2, h3⟩)
        go_region_with ((go_at_call 73; refine HTell.out.mono ?_; rintro e w5 ⟨rfl, f0, f1, f2, hup, HT5, HG5⟩))
        all_goals
          have hT := WatchAt.turn (HW4.out.ext ((Ext.refl W4).drew)) HGS.out HSm.out.1 HSm.out.2.1 HSm.out.2.2.1 HSm.out.2.2.2.1 HSm.out.2.2.2.2.1 HSm.out.2.2.2.2.2 HG5.out HT5.out HE4.out.drew hB
          rw [← HP2.out, HL'.out] at hT
          have HT6 := Lib.hid hT
          have hr6 : (setBlock w5 mb (.map (entsK L') clock)).heap[r]? = some (.mapIter (some mb) clock (seen.push g.born) clock) := by
            have hrt : r ≠ g.tb := by
              intro e
              have := HR4.out
              rw [e, HT4.out] at this
              cases this
            have hrm : r ≠ mb := by
              intro e
              have := HR4.out
              rw [e, HMp4.out] at this
              cases this
            rw [heap_setBlock, if_neg (fun hh => hrm hh.1)]
            exact (HG5.out.block r (by have := (Array.getElem?_eq_some_iff.1 HR4.out).1; simpa using this) (by simpa using hrt)).trans HR4.out
          have HR6 := Lib.hid hr6
          clear hT hr6 f0 f1 f2
          go_wp2_with fail
          clear hup
          generalize setBlock w5 mb (.map (entsK L') clock) = W6 at *
          go_roundw
          case rel => exact ⟨seen.push g.born, HT6.out.2.2, HR6, HT6.out.1, HK4.out.trans ((KeepG.ext ((Ext.refl W4).drew)).trans HT6.out.2.1)⟩
          case measure =>
            rw [HR6.out, HRr.out]
            exact HMeas.out
      · have hp := HP.out.trans (if_neg ha)
        have hne : (g.asid == asid) = false := by simpa using ha
        have HW3 : Hid (WatchAt W2 B wb mb (gs.map (soFar asid page (seen.push g.born))) clock br) := by
          rw [hp]; exact HW2
        have HMeas := Lib.hid hmeas
        clear ha hp HW2 hmeas
        unfold Gap.ke Gap.val at hen0
        dsimp only at hen0
        go_wp2_with fail
        go_roundw
        case rel => exact ⟨seen.push g.born, (by repeat (first | exact HE2.out | apply Ext.more | apply Ext.alloc | apply Ext.drew | apply Ext.drewN)), show _ = _ from (by repeat (first | (with_reducible exact HR2.out) | (with_reducible apply box_more) | (with_reducible apply box_alloc) | (with_reducible apply box_drew) | (with_reducible apply box_drewN))), HW3.out.ext (by repeat (first | exact Ext.refl _ | apply Ext.more | apply Ext.alloc | apply Ext.drew | apply Ext.drewN)), HK2.out.trans (KeepG.ext (by repeat (first | exact Ext.refl _ | apply Ext.more | apply Ext.alloc | apply Ext.drew | apply Ext.drewN)))⟩
        case measure =>
          have hh : ((W2.alloc (Obj.cells #[Value.int IntKind.i64 g.t, Value.int IntKind.i64 g.p] 142)).alloc (Obj.cells #[Value.int IntKind.i64 g.asid, Value.int IntKind.i64 g.level, Value.int IntKind.i64 g.first, Value.int IntKind.i64 ↑g.left, Value.slice (some { block := g.tb, off := 0 }) g.told.length g.told.length, Value.int IntKind.u64 g.last] 145)).heap[r]? = some (.mapIter (some mb) clock (seen.push g.born) clock) := (by repeat (first | (with_reducible exact HR2.out) | (with_reducible apply box_more) | (with_reducible apply box_alloc) | (with_reducible apply box_drew) | (with_reducible apply box_drewN)))
          rw [hh, HRr.out]
          exact HMeas.out

end Go.Proofs.Ythcdecgecabgaaa
