import Derived.Test.YthcdecgecabgaaaBMovwConcBedtLawh
import Derived.Test.YthcdecgecabgaaaBFoldrFoldsFolda
import Derived.Deep.RegionHeld3
/- The contract of move.Move. -/
namespace Go.Proofs.Ythcdecgecabgaaa
open Go.RowKit
set_option linter.unusedVariables false
set_option linter.unusedSimpArgs false
attribute [local go_sem] setCell_drewN alloc_drewN lt_moreE le_moreE lt_moreK le_moreK cell_more frozen_more set_more drew_more drewN_more

def wrP (p : Place) (v : Int) : Step := ⟨1, p.asid, 3, p.tb, p.pl, p.page, v, 0, 0, 0⟩
def heldD (d : Desc) : Desc := { d with fKind := 4, fSeen := false }
def movedD (d : Desc) (to : Int) : Desc := { d with fFrame := to }
def heldL (l : List Place) : List Step := l.map fun p => wrP p (encW (heldD p.says))
def toldP (l : List Place) : List Step := l.map fun p => tellS p.asid p.page
def doneL (to : Int) (l : List Place) : List Step := l.map fun p => wrP p (encW (movedD p.says to))
theorem heldL_snoc (l : List Place) (p : Place) : CS (heldL (l ++ [p])) = CS (heldL l) ++ (wrP p (encW (heldD p.says))).cells := by unfold heldL; rw [List.map_append]; exact CS_snoc _ _
theorem toldP_snoc (l : List Place) (p : Place) : CS (toldP (l ++ [p])) = CS (toldP l) ++ (tellS p.asid p.page).cells := by unfold toldP; rw [List.map_append]; exact CS_snoc _ _
theorem doneL_snoc (to : Int) (l : List Place) (p : Place) : CS (doneL to (l ++ [p])) = CS (doneL to l) ++ (wrP p (encW (movedD p.says to))).cells := by unfold doneL; rw [List.map_append]; exact CS_snoc _ _
theorem Beds.kept {w w' : World} {B sz : Nat} {T : TypeId} {l : List (Value × Nat × List Value)} (h : Beds w B T sz l) (hk : ∀ (k : Nat) ob, w.heap[k]? = some ob → w'.heap[k]? = some ob) : Beds w' B T sz l := ⟨fun r hr => own_beside (h.1 r hr) fun k ob hk' _ => hk k ob hk', h.2⟩
theorem write_yes (p : Place) (d : Desc) (h : okD 3 d = true) : writeV p d = .tuple #[.agg (wrP p (encW d)).cells.toArray, .nilIface] := by unfold writeV; rw [if_pos h]; rfl

theorem move_write_yes (w : World) (p : Place) (d : Desc) (h : okD 3 d = true) :
    Calls Try.prog 66 #[.agg p.cells.toArray, .agg d.cells.toArray] w fun e w' => Ext w w' ∧ e = .returned (.tuple #[.agg (wrP p (encW d)).cells.toArray, .nilIface]) := by
  rw [← write_yes p d h]
  exact move_write w p d

theorem boxE {w w' : World} {n : Nat} {o : Obj} (h : w.heap[n]? = some o) (hE : Ext w w') : w'.heap[n]? = some o := by
  obtain ⟨x, rfl⟩ := hE
  exact box_more h x
/-- The cells of a block of eleven. -/
theorem cellsPl {w : World} {n : Nat} {T : TypeId} {a0 a1 a2 a3 a4 a5 a6 a7 a8 a9 a10 : Value} (h : w.heap[n]? = some (.cells #[a0, a1, a2, a3, a4, a5, a6, a7, a8, a9, a10] T (0, 0))) :
    w.cell? ⟨n, 0, none⟩ = some a0 ∧ w.cell? ⟨n, 1, none⟩ = some a1 ∧ w.cell? ⟨n, 2, none⟩ = some a2 ∧ w.cell? ⟨n, 3, none⟩ = some a3 ∧ w.cell? ⟨n, 4, none⟩ = some a4 ∧ w.cell? ⟨n, 5, none⟩ = some a5 ∧ w.cell? ⟨n, 6, none⟩ = some a6 ∧ w.cell? ⟨n, 7, none⟩ = some a7 ∧ w.cell? ⟨n, 8, none⟩ = some a8 ∧ w.cell? ⟨n, 9, none⟩ = some a9 ∧ w.cell? ⟨n, 10, none⟩ = some a10 ∧ n < w.heap.size := by
  have key := fun i => cell_of_row w n i _ _ _ h
  exact ⟨key 0, key 1, key 2, key 3, key 4, key 5, key 6, key 7, key 8, key 9, key 10, (Array.getElem?_eq_some_iff.1 h).1⟩
theorem heldL_len (l : List Place) : (heldL l).length = l.length := by simp [heldL]
theorem toldP_len (l : List Place) : (toldP l).length = l.length := by simp [toldP]
theorem doneL_len (to : Int) (l : List Place) : (doneL to l).length = l.length := by simp [doneL]
def moveL (to frm : Int) (l : List Place) : List Step := heldL l ++ (toldP l ++ (copiesN to frm 8 ++ doneL to l))
/-- A boxed step. -/
def BoxS (w : World) (b : Nat) (cs : Array Value) : Prop := w.heap[b]? = some (.cells cs 46 (0, 0))
theorem Beds.ext {w w' : World} {B sz : Nat} {T : TypeId} {l : List (Value × Nat × List Value)} (h : Beds w B T sz l) (hE : Ext w w') : Beds w' B T sz l := by
  obtain ⟨x, rfl⟩ := hE
  exact h.more x
set_option maxRecDepth 100000 in
set_option maxHeartbeats 4000000 in
theorem move_Move (w : World) {b g n c : Nat} {ws : List Int} (hm : MemAt w b g n c ws) (hw : WOk ws) (roots : List (Int × Int)) (rv : Value) (hrv : SlRd w rv 2 (roots.map slotC)) (pages : List (Int × Int)) (pv : Value) (hpv : SlRd w pv 2 (pages.map slotC)) (hpl : pages.length ≤ 10000) (hp0 : 0 < pages.length) (frm to : Int) (f0 : 0 ≤ frm) (f1 : frm < n) (t0 : 0 ≤ to) (t1 : to < n) (hne : frm ≠ to)
    (out : List Place) (hout : placesF (fun x => findR ws n roots x.1 x.2 frm) pages = ⟨out, false, false, false⟩) (hlen : out.length ≤ 10000) (hok : ∀ p ∈ out, okD 3 (heldD p.says) = true ∧ okD 3 (movedD p.says to) = true) :
    Calls Try.prog 15 #[.pointer (some ⟨b, 0, none⟩), rv, pv, .int .i64 frm, .int .i64 to] w fun e w' => Ext w w' ∧ StepsRet w.heap.size w' (.yes (moveL to frm out)) e := by
  have HP0 := move_places w hm hw roots rv hrv pages pv hpv (by omega) frm
  rw [hout] at HP0
  have HF := Lib.hid (phys_Frames w hm)
  have HOK := Lib.hid hok
  obtain ⟨ra, rcap, rfl, hrcap, _⟩ := hrv.form
  obtain ⟨fa, fcap, rfl, hfcap, _⟩ := hpv.form
  rw [List.length_map] at *
  simp only [List.length_map] at HP0
  have HP := Lib.hid (HP0.mono (fun e w' h => (⟨h.1, by have h2 := h.2; simpa [PlacesRet] using h2⟩ : Ext w w' ∧ ∃ a cap, e = .returned (.tuple #[.slice a out.length cap, .nilIface]) ∧ OwnPl w' w.heap.size (.slice a out.length cap) out)))
  have hq : ((pages.length : Int) == 0) = false := by simpa using (show ¬ (pages.length : Int) = 0 by omega)
  have hne' : (frm == to) = false := by simpa using hne
  clear hm hw hrv hpv hrcap hfcap hout hok hne HP0
  go_enter Try.func15, Try.ntmps15
  go_wp2_with ((with_reducible show Calls _ _ #[_] _ _); go_at_call 33; refine HF.out.mono ?_; rintro e w' ⟨rfl, hww⟩; subst w')
  refine HP.out.mono ?_
  rintro e w1 ⟨hE1, a, cap, rfl, HO⟩
  have HE1 := Lib.hid hE1
  have HRd := Lib.hid (show SlRd w1 (.slice a out.length cap) 11 (out.map Place.cells) from own_rd HO (by simp) rfl (by intro c hc; obtain ⟨p, _, rfl⟩ := List.mem_map.1 hc; rfl))
  clear HO HF HP hE1
  have hcx := HRd.out.form
  obtain ⟨fa2, fcap2, he, hfc2, hfc⟩ := hcx
  have HX := Lib.hid hfc
  rw [List.length_map] at he
  cases he
  clear hfc
  go_wp2_with fail
  go_loopw [14, 15, 17, 71] (fun o14 o15 o17 i wr => ∃ q : Nat, q ≤ out.length ∧ i = .int .i64 q ∧ Ext w1 wr ∧ Hid (Beds wr w1.heap.size 46 10 [(o14, q, CS (heldL (out.take q))), (o15, q, CS (toldP (out.take q))), (o17, q, CS (doneL to (out.take q)))])) (fun _ _ _ i _ => out.length - (intOf i).toNat)
  case atStart => exact ⟨0, by omega, rfl, Ext.refl _, beds_nil3 _ _ _ _⟩
  case round =>
    obtain ⟨q, hq, rfl, ⟨x, rfl⟩, HB⟩ := hrel
    by_cases hlt : q < out.length
    · have hz : out[q]? = some out[q] := List.getElem?_eq_getElem hlt
      obtain ⟨fb, fo, rfl, hfb, hcl⟩ := HX.out q (Place.cells out[q]) (by rw [List.getElem?_map, hz]; rfl) (by simp [Place.cells])
      obtain ⟨k1, k2, k3⟩ := lt_facts hfb
      obtain ⟨x0, x1, x2, x3, x4, x5, x6, x7, x8, x9, x10⟩ := place_at hz hcl
      obtain ⟨ok1, ok2⟩ := HOK.out _ (List.getElem_mem hlt)
      have htk := take_snoc hz
      have e1 : CS (heldL (out.take (q + 1))) = CS (heldL (out.take q)) ++ (wrP out[q] (encW (heldD out[q].says))).cells := by rw [htk, heldL_snoc]
      have e2 : CS (toldP (out.take (q + 1))) = CS (toldP (out.take q)) ++ (tellS out[q].asid out[q].page).cells := by rw [htk, toldP_snoc]
      have e3 : CS (doneL to (out.take (q + 1))) = CS (doneL to (out.take q)) ++ (wrP out[q] (encW (movedD out[q].says to))).cells := by rw [htk, doneL_snoc]
      have E := Lib.hid (And.intro e1 (And.intro e2 e3))
      generalize out[q] = z at *
      have HW1 := Lib.hid (fun w' => move_write_yes w' z (heldD z.says) ok1)
      have HW2 := Lib.hid (fun w' so => move_write_yes w' { z with says := so } (movedD z.says to) ok2)
      clear hz hcl htk e1 e2 e3
      generalize encW (heldD z.says) = V1 at *
      generalize encW (movedD z.says to) = V2 at *
      obtain ⟨pa, pp, pt, pq, d0, d1, d2, d3, d4, d5, d6⟩ := z
      dsimp only at x0 x1 x2 x3 x4 x5 x6 x7 x8 x9 x10
      simp only [Place.cells, Desc.cells, heldD, movedD, wrP, Step.cells] at HW1
      go_wp2_with fail
      refine (HW1.out _).mono ?_
      rintro e W1 ⟨hE1, rfl⟩
      have HP1 := Lib.hid (show W1.heap[(more w1 x).heap.size]? = some (.cells #[.int .i64 pa, .int .i64 pp, .int .i64 pt, .int .i64 pq, .int .i64 d0, .int .i64 d1, .bool d2, .bool d3, .bool d4, .bool d5, .int .i64 d6] 130 (0, 0)) from boxE (by repeat (first | (with_reducible exact heap_alloc_new _ _) | (with_reducible apply box_more) | (with_reducible apply box_alloc) | (with_reducible apply box_drew) | (with_reducible apply box_drewN))) hE1)
      have HE1 := Lib.hid (show Ext (more w1 x) W1 from Ext.trans (by repeat (first | exact Ext.refl _ | apply Ext.more | apply Ext.alloc | apply Ext.drew | apply Ext.drewN)) hE1)
      have HB1 := Lib.hid (Beds.ext HB.out HE1.out)
      have N14 := Lib.hid (fun k (e : u14.ownBlock = some k) => (World.ownsRow.lt (HB.out.own 0 _ rfl) k e).2)
      have N15 := Lib.hid (fun k (e : u15.ownBlock = some k) => (World.ownsRow.lt (HB.out.own 1 _ rfl) k e).2)
      have N17 := Lib.hid (fun k (e : u17.ownBlock = some k) => (World.ownsRow.lt (HB.out.own 2 _ rfl) k e).2)
      have hw1 := HE1.out.size
      have hx1 : w1.heap.size ≤ (more w1 x).heap.size := size_le_more w1 x
      have hlt1 : (more w1 x).heap.size < W1.heap.size := (Array.getElem?_eq_some_iff.1 HP1.out).1
      have HE1' := Lib.hid (Ext.trans (show Ext w1 (more w1 x) from ⟨x, rfl⟩) HE1.out)
      have HMx := Lib.hid (show Ext w1 (more w1 x) from ⟨x, rfl⟩)
      clear hE1
      have HMxs := Lib.hid (Nat.le_refl (more w1 x).heap.size)
      generalize hb19 : (more w1 x).heap.size = b19 at *
      obtain ⟨p0, p1, p2, p3, p4, p5, p6, p7, p8, p9, p10, pll⟩ := cellsPl HP1.out
      have pf : ∀ i, W1.frozen? ⟨b19, i, none⟩ = false := fun i => frozen_of_row _ _ _ _ _ HP1.out
      obtain ⟨l1, l2, l3⟩ := lt_facts pll
      have n1 : (b19 = W1.heap.size) = False := by simp; omega
      have n2 : (W1.heap.size = b19) = False := by simp; omega
      go_wp2_with fail
      have HW2' := Lib.hid (fun w' => HW2.out w' ⟨d0, to, d2, d3, d4, d5, d6⟩)
      simp only [Place.cells, Desc.cells, movedD, wrP, Step.cells] at HW2'
      clear HW2
      refine (HW2'.out _).mono ?_
      rintro e W2 ⟨hE2, rfl⟩
      have HS1 := Lib.hid (boxE (n := W1.heap.size) (by rw [heap_alloc_at _ _ (by simp)]) hE2)
      have HP2 := Lib.hid (show W2.heap[b19]? = some (.cells #[.int .i64 pa, .int .i64 pp, .int .i64 pt, .int .i64 pq, .int .i64 d0, .int .i64 to, .bool d2, .bool d3, .bool d4, .bool d5, .int .i64 d6] 130 (0, 0)) from boxE (box_alloc (heap_setCell_same W1 b19 5 _ _ (.int .i64 to) HP1.out) _) hE2)
      have HE2 := Lib.hid (Ext.trans (Ext.alloc (ext_set HE1.out (Nat.le_of_eq hb19) 5 (.int .i64 to)) _) hE2)
      have HB2 := Lib.hid (Beds.ext HB.out HE2.out)
      have HE2' := Lib.hid (Ext.trans HMx.out HE2.out)
      have hb12 : W1.heap.size < W2.heap.size := (Array.getElem?_eq_some_iff.1 HS1.out).1
      clear hE2 HB1 HB HE1 HP1 p0 p1 p2 p3 p4 p5 p6 p7 p8 p9 p10 pll pf l1 l2 l3 n1 n2 HE1' HMx HMxs HE2 HW2' HW1 hb19 x0 x1 x2 x3 x4 x5 x6 x7 x8 x9 x10
      generalize W1.heap.size = b21 at *
      go_wp2_with fail
      have HB3 := Lib.hid (Beds.alloc HB2.out (.cells #[.int .i64 1, .int .i64 pa, .int .i64 3, .int .i64 pt, .int .i64 pq, .int .i64 pp, .int .u64 V2, .int .i64 0, .int .i64 0, .int .i64 0] 46))
      have HE3 := Lib.hid (HE2'.out.alloc (.cells #[.int .i64 1, .int .i64 pa, .int .i64 3, .int .i64 pt, .int .i64 pq, .int .i64 pp, .int .u64 V2, .int .i64 0, .int .i64 0, .int .i64 0] 46))
      have HS3 := Lib.hid (box_alloc HS1.out (.cells #[.int .i64 1, .int .i64 pa, .int .i64 3, .int .i64 pt, .int .i64 pq, .int .i64 pp, .int .u64 V2, .int .i64 0, .int .i64 0, .int .i64 0] 46))
      have HP3 := Lib.hid (box_alloc HP2.out (.cells #[.int .i64 1, .int .i64 pa, .int .i64 3, .int .i64 pt, .int .i64 pq, .int .i64 pp, .int .u64 V2, .int .i64 0, .int .i64 0, .int .i64 0] 46))
      have HT3 := Lib.hid (heap_alloc_new W2 (.cells #[.int .i64 1, .int .i64 pa, .int .i64 3, .int .i64 pt, .int .i64 pq, .int .i64 pp, .int .u64 V2, .int .i64 0, .int .i64 0, .int .i64 0] 46))
      clear HB2 HE2' HS1 HP2
      generalize (W2.alloc (.cells #[.int .i64 1, .int .i64 pa, .int .i64 3, .int .i64 pt, .int .i64 pq, .int .i64 pp, .int .u64 V2, .int .i64 0, .int .i64 0, .int .i64 0] 46)) = W3 at *
      generalize W2.heap.size = b23 at *
      have hb123 : b23 < W3.heap.size := (Array.getElem?_eq_some_iff.1 HT3.out).1
      refine wp_region_held_drew (S := fun w' => BoxS w' b21 #[.int .i64 1, .int .i64 pa, .int .i64 3, .int .i64 pt, .int .i64 pq, .int .i64 pp, .int .u64 V1, .int .i64 0, .int .i64 0, .int .i64 0] ∧ BoxS w' b23 #[.int .i64 1, .int .i64 pa, .int .i64 3, .int .i64 pt, .int .i64 pq, .int .i64 pp, .int .u64 V2, .int .i64 0, .int .i64 0, .int .i64 0]) (by kernel_rfl) ⟨HS3.out, HT3.out⟩ (fun hHeld => ?_)
      refine wpAnyH_take (i := 0) (v := ?_) rfl (by kernel_rfl) (by kernel_rfl) (by kernel_rfl) (fun _ _ _ h => h) (Or.inl ⟨by rfl, ?_⟩) (by assumption) ?_; rotate_left
      · intro w hSw; go_simp; try with_reducible rfl
      try simp only [Act.put, List.getElem_toArray, List.getElem_cons_zero, List.getElem_cons_succ, List.setIfInBounds_toArray, List.set_cons_zero, List.set_cons_succ]
      refine wpAnyH_take (i := 1) (v := ?_) rfl (by kernel_rfl) (by kernel_rfl) (by kernel_rfl) (fun _ _ _ h => h) (Or.inl ⟨by rfl, ?_⟩) (by assumption) ?_; rotate_left
      · intro w hSw; obtain ⟨hA, hB⟩ := hSw; obtain ⟨q0, q1, q2, q3, q4, q5, q6, q7, q8, q9, qf⟩ := cells10 hA; go_simp; try with_reducible rfl
      try simp only [Act.put, List.getElem_toArray, List.getElem_cons_zero, List.getElem_cons_succ, List.setIfInBounds_toArray, List.set_cons_zero, List.set_cons_succ]
      refine wpAnyH_take (i := 4) (v := ?_) rfl (by kernel_rfl) (by kernel_rfl) (by kernel_rfl) (fun _ _ _ h => h) (Or.inl ⟨by rfl, ?_⟩) (by assumption) ?_; rotate_left
      · intro w hSw; go_simp; try with_reducible rfl
      try simp only [Act.put, List.getElem_toArray, List.getElem_cons_zero, List.getElem_cons_succ, List.setIfInBounds_toArray, List.set_cons_zero, List.set_cons_succ]
      refine wpAnyH_take (i := 5) (v := ?_) rfl (by kernel_rfl) (by kernel_rfl) (by kernel_rfl) (fun _ _ _ h => h) (Or.inl ⟨by rfl, ?_⟩) (by assumption) ?_; rotate_left
      · intro w hSw; obtain ⟨hA, hB⟩ := hSw; obtain ⟨q0, q1, q2, q3, q4, q5, q6, q7, q8, q9, qf⟩ := cells10 hB; go_simp; try with_reducible rfl
      try simp only [Act.put, List.getElem_toArray, List.getElem_cons_zero, List.getElem_cons_succ, List.setIfInBounds_toArray, List.set_cons_zero, List.set_cons_succ]
      refine wpAnyH_ready (rs := [2, 6]) (by kernel_rfl) (by simp) ?_
      refine AllReadyH.cons rfl (fun K hK => ?_) (AllReadyH.cons rfl (fun K hK => ?_) AllReadyH.nil)
      · go_simp
        refine hK.out _ _ ⟨(show (_ : Option Obj) = _ from (by repeat (first | (with_reducible exact HS3.out) | (with_reducible apply box_more) | (with_reducible apply box_alloc) | (with_reducible apply box_drew) | (with_reducible apply box_drewN)))), (show (_ : Option Obj) = _ from (by repeat (first | (with_reducible exact HT3.out) | (with_reducible apply box_more) | (with_reducible apply box_alloc) | (with_reducible apply box_drew) | (with_reducible apply box_drewN))))⟩ (fun hHeld => ?_)
        clear hK K
        try simp only [Act.put, List.getElem_toArray, List.getElem_cons_zero, List.getElem_cons_succ, List.setIfInBounds_toArray, List.set_cons_zero, List.set_cons_succ]
        refine wpAnyH_ready (rs := [3, 6]) (by kernel_rfl) (by simp) ?_
        refine AllReadyH.cons rfl (fun K hK => ?_) (AllReadyH.cons rfl (fun K hK => ?_) AllReadyH.nil)
        · skip
          refine step_append_beds w1 el_Step (by rfl) _ _ (by rfl) [(u15, q, CS (toldP (out.take q))), (u17, q, CS (doneL to (out.take q)))] u14 q _ (by rfl) (by repeat (first | exact HB3.out | apply Beds.more | apply Beds.alloc | apply Beds.drew | apply Beds.drewN)) (by repeat (first | exact HE3.out | apply Ext.more | apply Ext.alloc | apply Ext.drew | apply Ext.drewN)) #[.int .i64 1, .int .i64 pa, .int .i64 3, .int .i64 pt, .int .i64 pq, .int .i64 pp, .int .u64 V1, .int .i64 0, .int .i64 0, .int .i64 0] 46 1 _ (by rfl) (by repeat (first | (with_reducible exact heap_alloc_new _ _) | (with_reducible apply box_more) | (with_reducible apply box_alloc) | (with_reducible apply box_drew) | (with_reducible apply box_drewN))) rfl rfl (by omega) ?_
          intro v1 x1 HB4 keep1
          have HS4 := Lib.hid (keep1 b21 _ (by repeat (first | (with_reducible exact HS3.out) | (with_reducible apply box_more) | (with_reducible apply box_alloc) | (with_reducible apply box_drew) | (with_reducible apply box_drewN))) (fun e => absurd (N14.out _ e) (by omega)))
          have HP4 := Lib.hid (keep1 b19 _ (by repeat (first | (with_reducible exact HP3.out) | (with_reducible apply box_more) | (with_reducible apply box_alloc) | (with_reducible apply box_drew) | (with_reducible apply box_drewN))) (fun e => absurd (N14.out _ e) (by omega)))
          have HT4 := Lib.hid (keep1 b23 _ (by repeat (first | (with_reducible exact HT3.out) | (with_reducible apply box_more) | (with_reducible apply box_alloc) | (with_reducible apply box_drew) | (with_reducible apply box_drewN))) (fun e => absurd (N14.out _ e) (by omega)))
          refine hK.out _ _ ⟨HS4.out, HT4.out⟩ (fun hHeld => ?_)
          clear hK K
          try simp only [Act.put, List.getElem_toArray, List.getElem_cons_zero, List.getElem_cons_succ, List.setIfInBounds_toArray, List.set_cons_zero, List.set_cons_succ]
          refine wpAnyH_ready (rs := [6]) (by kernel_rfl) (by simp) ?_
          refine AllReadyH.cons rfl (fun K hK => ?_) AllReadyH.nil
          go_simp
          refine hK.out _ _ ⟨(show (_ : Option Obj) = _ from (by repeat (first | (with_reducible exact HS4.out) | (with_reducible apply box_more) | (with_reducible apply box_alloc) | (with_reducible apply box_drew) | (with_reducible apply box_drewN)))), (show (_ : Option Obj) = _ from (by repeat (first | (with_reducible exact HT4.out) | (with_reducible apply box_more) | (with_reducible apply box_alloc) | (with_reducible apply box_drew) | (with_reducible apply box_drewN))))⟩ (fun hHeld => ?_)
          clear hK K
          try simp only [Act.put, List.getElem_toArray, List.getElem_cons_zero, List.getElem_cons_succ, List.setIfInBounds_toArray, List.set_cons_zero, List.set_cons_succ]
          refine wpAnyH_ready (rs := [7]) (by kernel_rfl) (by simp) ?_
          refine AllReadyH.cons rfl (fun K hK => ?_) AllReadyH.nil
          refine step_append_beds w1 el_Step (by rfl) _ _ (by rfl) [(v1, q + 1, CS (heldL (out.take q)) ++ #[.int .i64 1, .int .i64 pa, .int .i64 3, .int .i64 pt, .int .i64 pq, .int .i64 pp, .int .u64 V1, .int .i64 0, .int .i64 0, .int .i64 0].toList), (u15, q, CS (toldP (out.take q)))] u17 q _ (by rfl) ((by repeat (first | exact HB4.out.third | apply Beds.more | apply Beds.alloc | apply Beds.drew | apply Beds.drewN))) (by repeat (first | exact Ext.refl _ | apply Ext.more | apply Ext.alloc | apply Ext.drew | apply Ext.drewN)) #[.int .i64 1, .int .i64 pa, .int .i64 3, .int .i64 pt, .int .i64 pq, .int .i64 pp, .int .u64 V2, .int .i64 0, .int .i64 0, .int .i64 0] 46 1 _ (by rfl) (by repeat (first | (with_reducible exact heap_alloc_new _ _) | (with_reducible apply box_more) | (with_reducible apply box_alloc) | (with_reducible apply box_drew) | (with_reducible apply box_drewN))) rfl rfl (by omega) ?_
          intro v2 x2 HB5 keep2
          have HS5 := Lib.hid (keep2 b21 _ (by repeat (first | (with_reducible exact HS4.out) | (with_reducible apply box_more) | (with_reducible apply box_alloc) | (with_reducible apply box_drew) | (with_reducible apply box_drewN))) (fun e => absurd (N17.out _ e) (by omega)))
          have HP5 := Lib.hid (keep2 b19 _ (by repeat (first | (with_reducible exact HP4.out) | (with_reducible apply box_more) | (with_reducible apply box_alloc) | (with_reducible apply box_drew) | (with_reducible apply box_drewN))) (fun e => absurd (N17.out _ e) (by omega)))
          have HT5 := Lib.hid (keep2 b23 _ (by repeat (first | (with_reducible exact HT4.out) | (with_reducible apply box_more) | (with_reducible apply box_alloc) | (with_reducible apply box_drew) | (with_reducible apply box_drewN))) (fun e => absurd (N17.out _ e) (by omega)))
          refine hK.out _ _ ⟨HS5.out, HT5.out⟩ (fun hHeld => ?_)
          clear hK K
          try simp only [Act.put, List.getElem_toArray, List.getElem_cons_zero, List.getElem_cons_succ, List.setIfInBounds_toArray, List.set_cons_zero, List.set_cons_succ]
          clear keep1 keep2 HB4 HS4 HT4 HP4
          refine wpAnyH_take (i := 8) (v := ?_) rfl (by kernel_rfl) (by kernel_rfl) (by kernel_rfl) (fun _ _ _ h => h) (Or.inl ⟨by rfl, ?_⟩) (by assumption) ?_; rotate_left
          · intro w hSw; go_simp; try with_reducible rfl
          try simp only [Act.put, List.getElem_toArray, List.getElem_cons_zero, List.getElem_cons_succ, List.setIfInBounds_toArray, List.set_cons_zero, List.set_cons_succ]
          refine wpAnyH_take (i := 9) (v := ?_) rfl (by kernel_rfl) (by kernel_rfl) (by kernel_rfl) (fun _ _ _ h => h) (Or.inl ⟨by rfl, ?_⟩) (by assumption) ?_; rotate_left
          · intro w hSw; go_simp; try with_reducible rfl
          try simp only [Act.put, List.getElem_toArray, List.getElem_cons_zero, List.getElem_cons_succ, List.setIfInBounds_toArray, List.set_cons_zero, List.set_cons_succ]
          refine wpAnyH_done (by kernel_rfl) ?_ _
          have HE5 := Lib.hid (show Ext w1 (more w1 x2) from ⟨x2, rfl⟩)
          have HB6 := Lib.hid (show Beds (more w1 x2) w1.heap.size 46 10 [(u15, q, CS (toldP (out.take q))), (v1, q + 1, CS (heldL (out.take q)) ++ [.int .i64 1, .int .i64 pa, .int .i64 3, .int .i64 pt, .int .i64 pq, .int .i64 pp, .int .u64 V1, .int .i64 0, .int .i64 0, .int .i64 0]), (v2, q + 1, CS (doneL to (out.take q)) ++ [.int .i64 1, .int .i64 pa, .int .i64 3, .int .i64 pt, .int .i64 pq, .int .i64 pp, .int .u64 V2, .int .i64 0, .int .i64 0, .int .i64 0])] from HB5.out.rev3)
          have H15 := Lib.hid (show (more w1 x2).ownsRow w1.heap.size 46 10 u15 q (CS (toldP (out.take q))) from HB6.out.own 0 _ rfl)
          clear HB5 HB3 HE3 HS3 HT3 HP3 hHeld HS5 HT5
          generalize more w1 x2 = W5 at *
          obtain ⟨p0, p1, p2, p3, p4, p5, p6, p7, p8, p9, p10, pll⟩ := cellsPl HP5.out
          obtain ⟨l1, l2, l3⟩ := lt_facts pll
          clear HP5 N14 N15 N17 hb12 hb123
          go_wp2_with (at_builtin; refine wpList_append_newB w1 el_Step rfl _ _ rfl u15 q _ rfl (by repeat (first | exact H15.out | apply own_more | apply own_alloc | apply own_drew | apply own_drewN)) (by repeat (first | exact HE5.out | apply Ext.more | apply Ext.alloc | apply Ext.drew | apply Ext.drewN)) _ _ 1 _ rfl (by simp) rfl rfl (by omega) ?_; intro v3 x3 HO3 keep3 blk3)
          have HB7 := Lib.hid (Beds.put (h := HB6.out) HO3.out keep3 blk3)
          clear HB6 H15 HO3 keep3 blk3
          go_roundw
          case rel => exact ⟨q + 1, by omega, by go_num, (by repeat (first | exact Ext.refl _ | apply Ext.more | apply Ext.alloc | apply Ext.drew | apply Ext.drewN)), by
            show Beds _ _ _ _ _
            rw [E.out.1, E.out.2.1, E.out.2.2]
            exact HB7.out.swap⟩
          case measure => simp [intOf]; omega
        · skip
          go_simp
          refine hK.out _ _ ⟨(show (_ : Option Obj) = _ from (by repeat (first | (with_reducible exact HS3.out) | (with_reducible apply box_more) | (with_reducible apply box_alloc) | (with_reducible apply box_drew) | (with_reducible apply box_drewN)))), (show (_ : Option Obj) = _ from (by repeat (first | (with_reducible exact HT3.out) | (with_reducible apply box_more) | (with_reducible apply box_alloc) | (with_reducible apply box_drew) | (with_reducible apply box_drewN))))⟩ (fun hHeld => ?_)
          clear hK K
          try simp only [Act.put, List.getElem_toArray, List.getElem_cons_zero, List.getElem_cons_succ, List.setIfInBounds_toArray, List.set_cons_zero, List.set_cons_succ]
          refine wpAnyH_ready (rs := [3]) (by kernel_rfl) (by simp) ?_
          refine AllReadyH.cons rfl (fun K hK => ?_) AllReadyH.nil
          refine step_append_beds w1 el_Step (by rfl) _ _ (by rfl) [(u15, q, CS (toldP (out.take q))), (u17, q, CS (doneL to (out.take q)))] u14 q _ (by rfl) (by repeat (first | exact HB3.out | apply Beds.more | apply Beds.alloc | apply Beds.drew | apply Beds.drewN)) (by repeat (first | exact HE3.out | apply Ext.more | apply Ext.alloc | apply Ext.drew | apply Ext.drewN)) #[.int .i64 1, .int .i64 pa, .int .i64 3, .int .i64 pt, .int .i64 pq, .int .i64 pp, .int .u64 V1, .int .i64 0, .int .i64 0, .int .i64 0] 46 1 _ (by rfl) (by repeat (first | (with_reducible exact heap_alloc_new _ _) | (with_reducible apply box_more) | (with_reducible apply box_alloc) | (with_reducible apply box_drew) | (with_reducible apply box_drewN))) rfl rfl (by omega) ?_
          intro v1 x1 HB4 keep1
          have HS4 := Lib.hid (keep1 b21 _ (by repeat (first | (with_reducible exact HS3.out) | (with_reducible apply box_more) | (with_reducible apply box_alloc) | (with_reducible apply box_drew) | (with_reducible apply box_drewN))) (fun e => absurd (N14.out _ e) (by omega)))
          have HP4 := Lib.hid (keep1 b19 _ (by repeat (first | (with_reducible exact HP3.out) | (with_reducible apply box_more) | (with_reducible apply box_alloc) | (with_reducible apply box_drew) | (with_reducible apply box_drewN))) (fun e => absurd (N14.out _ e) (by omega)))
          have HT4 := Lib.hid (keep1 b23 _ (by repeat (first | (with_reducible exact HT3.out) | (with_reducible apply box_more) | (with_reducible apply box_alloc) | (with_reducible apply box_drew) | (with_reducible apply box_drewN))) (fun e => absurd (N14.out _ e) (by omega)))
          have HU4 := Lib.hid (keep1 (W3.heap.size + 1) (.cells #[.int .i64 1, .int .i64 pa, .int .i64 3, .int .i64 pt, .int .i64 pq, .int .i64 pp, .int .u64 V2, .int .i64 0, .int .i64 0, .int .i64 0] 46 (0, 0)) (box_drew (heap_alloc_at _ _ (by simp))) (fun e => absurd (N14.out _ e) (by omega)))
          refine hK.out _ _ ⟨HS4.out, HT4.out⟩ (fun hHeld => ?_)
          clear hK K
          try simp only [Act.put, List.getElem_toArray, List.getElem_cons_zero, List.getElem_cons_succ, List.setIfInBounds_toArray, List.set_cons_zero, List.set_cons_succ]
          refine wpAnyH_ready (rs := [7]) (by kernel_rfl) (by simp) ?_
          refine AllReadyH.cons rfl (fun K hK => ?_) AllReadyH.nil
          refine step_append_beds w1 el_Step (by rfl) _ _ (by rfl) [(v1, q + 1, CS (heldL (out.take q)) ++ #[.int .i64 1, .int .i64 pa, .int .i64 3, .int .i64 pt, .int .i64 pq, .int .i64 pp, .int .u64 V1, .int .i64 0, .int .i64 0, .int .i64 0].toList), (u15, q, CS (toldP (out.take q)))] u17 q _ (by rfl) ((by repeat (first | exact HB4.out.third | apply Beds.more | apply Beds.alloc | apply Beds.drew | apply Beds.drewN))) (by repeat (first | exact Ext.refl _ | apply Ext.more | apply Ext.alloc | apply Ext.drew | apply Ext.drewN)) #[.int .i64 1, .int .i64 pa, .int .i64 3, .int .i64 pt, .int .i64 pq, .int .i64 pp, .int .u64 V2, .int .i64 0, .int .i64 0, .int .i64 0] 46 1 _ (by rfl) HU4.out rfl rfl (by omega) ?_
          intro v2 x2 HB5 keep2
          have HS5 := Lib.hid (keep2 b21 _ (by repeat (first | (with_reducible exact HS4.out) | (with_reducible apply box_more) | (with_reducible apply box_alloc) | (with_reducible apply box_drew) | (with_reducible apply box_drewN))) (fun e => absurd (N17.out _ e) (by omega)))
          have HP5 := Lib.hid (keep2 b19 _ (by repeat (first | (with_reducible exact HP4.out) | (with_reducible apply box_more) | (with_reducible apply box_alloc) | (with_reducible apply box_drew) | (with_reducible apply box_drewN))) (fun e => absurd (N17.out _ e) (by omega)))
          have HT5 := Lib.hid (keep2 b23 _ (by repeat (first | (with_reducible exact HT4.out) | (with_reducible apply box_more) | (with_reducible apply box_alloc) | (with_reducible apply box_drew) | (with_reducible apply box_drewN))) (fun e => absurd (N17.out _ e) (by omega)))
          refine hK.out _ _ ⟨HS5.out, HT5.out⟩ (fun hHeld => ?_)
          clear hK K
          try simp only [Act.put, List.getElem_toArray, List.getElem_cons_zero, List.getElem_cons_succ, List.setIfInBounds_toArray, List.set_cons_zero, List.set_cons_succ]
          clear keep1 keep2 HB4 HS4 HT4 HP4
          refine wpAnyH_take (i := 8) (v := ?_) rfl (by kernel_rfl) (by kernel_rfl) (by kernel_rfl) (fun _ _ _ h => h) (Or.inl ⟨by rfl, ?_⟩) (by assumption) ?_; rotate_left
          · intro w hSw; go_simp; try with_reducible rfl
          try simp only [Act.put, List.getElem_toArray, List.getElem_cons_zero, List.getElem_cons_succ, List.setIfInBounds_toArray, List.set_cons_zero, List.set_cons_succ]
          refine wpAnyH_take (i := 9) (v := ?_) rfl (by kernel_rfl) (by kernel_rfl) (by kernel_rfl) (fun _ _ _ h => h) (Or.inl ⟨by rfl, ?_⟩) (by assumption) ?_; rotate_left
          · intro w hSw; go_simp; try with_reducible rfl
          try simp only [Act.put, List.getElem_toArray, List.getElem_cons_zero, List.getElem_cons_succ, List.setIfInBounds_toArray, List.set_cons_zero, List.set_cons_succ]
          refine wpAnyH_done (by kernel_rfl) ?_ _
          have HE5 := Lib.hid (show Ext w1 (more w1 x2) from ⟨x2, rfl⟩)
          have HB6 := Lib.hid (show Beds (more w1 x2) w1.heap.size 46 10 [(u15, q, CS (toldP (out.take q))), (v1, q + 1, CS (heldL (out.take q)) ++ [.int .i64 1, .int .i64 pa, .int .i64 3, .int .i64 pt, .int .i64 pq, .int .i64 pp, .int .u64 V1, .int .i64 0, .int .i64 0, .int .i64 0]), (v2, q + 1, CS (doneL to (out.take q)) ++ [.int .i64 1, .int .i64 pa, .int .i64 3, .int .i64 pt, .int .i64 pq, .int .i64 pp, .int .u64 V2, .int .i64 0, .int .i64 0, .int .i64 0])] from HB5.out.rev3)
          have H15 := Lib.hid (show (more w1 x2).ownsRow w1.heap.size 46 10 u15 q (CS (toldP (out.take q))) from HB6.out.own 0 _ rfl)
          clear HB5 HB3 HE3 HS3 HT3 HP3 hHeld HS5 HT5
          generalize more w1 x2 = W5 at *
          obtain ⟨p0, p1, p2, p3, p4, p5, p6, p7, p8, p9, p10, pll⟩ := cellsPl HP5.out
          obtain ⟨l1, l2, l3⟩ := lt_facts pll
          clear HP5 N14 N15 N17 hb12 hb123
          go_wp2_with (at_builtin; refine wpList_append_newB w1 el_Step rfl _ _ rfl u15 q _ rfl (by repeat (first | exact H15.out | apply own_more | apply own_alloc | apply own_drew | apply own_drewN)) (by repeat (first | exact HE5.out | apply Ext.more | apply Ext.alloc | apply Ext.drew | apply Ext.drewN)) _ _ 1 _ rfl (by simp) rfl rfl (by omega) ?_; intro v3 x3 HO3 keep3 blk3)
          have HB7 := Lib.hid (Beds.put (h := HB6.out) HO3.out keep3 blk3)
          clear HB6 H15 HO3 keep3 blk3
          go_roundw
          case rel => exact ⟨q + 1, by omega, by go_num, (by repeat (first | exact Ext.refl _ | apply Ext.more | apply Ext.alloc | apply Ext.drew | apply Ext.drewN)), by
            show Beds _ _ _ _ _
            rw [E.out.1, E.out.2.1, E.out.2.2]
            exact HB7.out.swap⟩
          case measure => simp [intOf]; omega
      · skip
        go_simp
        refine hK.out _ _ ⟨(show (_ : Option Obj) = _ from (by repeat (first | (with_reducible exact HS3.out) | (with_reducible apply box_more) | (with_reducible apply box_alloc) | (with_reducible apply box_drew) | (with_reducible apply box_drewN)))), (show (_ : Option Obj) = _ from (by repeat (first | (with_reducible exact HT3.out) | (with_reducible apply box_more) | (with_reducible apply box_alloc) | (with_reducible apply box_drew) | (with_reducible apply box_drewN))))⟩ (fun hHeld => ?_)
        clear hK K
        try simp only [Act.put, List.getElem_toArray, List.getElem_cons_zero, List.getElem_cons_succ, List.setIfInBounds_toArray, List.set_cons_zero, List.set_cons_succ]
        refine wpAnyH_ready (rs := [2]) (by kernel_rfl) (by simp) ?_
        refine AllReadyH.cons rfl (fun K hK => ?_) AllReadyH.nil
        go_simp
        refine hK.out _ _ ⟨(show (_ : Option Obj) = _ from (by repeat (first | (with_reducible exact HS3.out) | (with_reducible apply box_more) | (with_reducible apply box_alloc) | (with_reducible apply box_drew) | (with_reducible apply box_drewN)))), (show (_ : Option Obj) = _ from (by repeat (first | (with_reducible exact HT3.out) | (with_reducible apply box_more) | (with_reducible apply box_alloc) | (with_reducible apply box_drew) | (with_reducible apply box_drewN))))⟩ (fun hHeld => ?_)
        clear hK K
        try simp only [Act.put, List.getElem_toArray, List.getElem_cons_zero, List.getElem_cons_succ, List.setIfInBounds_toArray, List.set_cons_zero, List.set_cons_succ]
        refine wpAnyH_ready (rs := [3]) (by kernel_rfl) (by simp) ?_
        refine AllReadyH.cons rfl (fun K hK => ?_) AllReadyH.nil
        refine step_append_beds w1 el_Step (by rfl) _ _ (by rfl) [(u15, q, CS (toldP (out.take q))), (u17, q, CS (doneL to (out.take q)))] u14 q _ (by rfl) (by repeat (first | exact HB3.out | apply Beds.more | apply Beds.alloc | apply Beds.drew | apply Beds.drewN)) (by repeat (first | exact HE3.out | apply Ext.more | apply Ext.alloc | apply Ext.drew | apply Ext.drewN)) #[.int .i64 1, .int .i64 pa, .int .i64 3, .int .i64 pt, .int .i64 pq, .int .i64 pp, .int .u64 V1, .int .i64 0, .int .i64 0, .int .i64 0] 46 1 _ (by rfl) (box_drew (heap_alloc_at _ _ (by simp))) rfl rfl (by omega) ?_
        intro v1 x1 HB4 keep1
        have HS4 := Lib.hid (keep1 b21 _ (by repeat (first | (with_reducible exact HS3.out) | (with_reducible apply box_more) | (with_reducible apply box_alloc) | (with_reducible apply box_drew) | (with_reducible apply box_drewN))) (fun e => absurd (N14.out _ e) (by omega)))
        have HP4 := Lib.hid (keep1 b19 _ (by repeat (first | (with_reducible exact HP3.out) | (with_reducible apply box_more) | (with_reducible apply box_alloc) | (with_reducible apply box_drew) | (with_reducible apply box_drewN))) (fun e => absurd (N14.out _ e) (by omega)))
        have HT4 := Lib.hid (keep1 b23 _ (by repeat (first | (with_reducible exact HT3.out) | (with_reducible apply box_more) | (with_reducible apply box_alloc) | (with_reducible apply box_drew) | (with_reducible apply box_drewN))) (fun e => absurd (N14.out _ e) (by omega)))
        have HU4 := Lib.hid (keep1 W3.heap.size (.cells #[.int .i64 1, .int .i64 pa, .int .i64 3, .int .i64 pt, .int .i64 pq, .int .i64 pp, .int .u64 V2, .int .i64 0, .int .i64 0, .int .i64 0] 46 (0, 0)) (box_drew (box_alloc (heap_alloc_at _ _ (by simp)) _)) (fun e => absurd (N14.out _ e) (by omega)))
        refine hK.out _ _ ⟨HS4.out, HT4.out⟩ (fun hHeld => ?_)
        clear hK K
        try simp only [Act.put, List.getElem_toArray, List.getElem_cons_zero, List.getElem_cons_succ, List.setIfInBounds_toArray, List.set_cons_zero, List.set_cons_succ]
        refine wpAnyH_ready (rs := [7]) (by kernel_rfl) (by simp) ?_
        refine AllReadyH.cons rfl (fun K hK => ?_) AllReadyH.nil
        refine step_append_beds w1 el_Step (by rfl) _ _ (by rfl) [(v1, q + 1, CS (heldL (out.take q)) ++ #[.int .i64 1, .int .i64 pa, .int .i64 3, .int .i64 pt, .int .i64 pq, .int .i64 pp, .int .u64 V1, .int .i64 0, .int .i64 0, .int .i64 0].toList), (u15, q, CS (toldP (out.take q)))] u17 q _ (by rfl) ((by repeat (first | exact HB4.out.third | apply Beds.more | apply Beds.alloc | apply Beds.drew | apply Beds.drewN))) (by repeat (first | exact Ext.refl _ | apply Ext.more | apply Ext.alloc | apply Ext.drew | apply Ext.drewN)) #[.int .i64 1, .int .i64 pa, .int .i64 3, .int .i64 pt, .int .i64 pq, .int .i64 pp, .int .u64 V2, .int .i64 0, .int .i64 0, .int .i64 0] 46 1 _ (by rfl) HU4.out rfl rfl (by omega) ?_
        intro v2 x2 HB5 keep2
        have HS5 := Lib.hid (keep2 b21 _ (by repeat (first | (with_reducible exact HS4.out) | (with_reducible apply box_more) | (with_reducible apply box_alloc) | (with_reducible apply box_drew) | (with_reducible apply box_drewN))) (fun e => absurd (N17.out _ e) (by omega)))
        have HP5 := Lib.hid (keep2 b19 _ (by repeat (first | (with_reducible exact HP4.out) | (with_reducible apply box_more) | (with_reducible apply box_alloc) | (with_reducible apply box_drew) | (with_reducible apply box_drewN))) (fun e => absurd (N17.out _ e) (by omega)))
        have HT5 := Lib.hid (keep2 b23 _ (by repeat (first | (with_reducible exact HT4.out) | (with_reducible apply box_more) | (with_reducible apply box_alloc) | (with_reducible apply box_drew) | (with_reducible apply box_drewN))) (fun e => absurd (N17.out _ e) (by omega)))
        refine hK.out _ _ ⟨HS5.out, HT5.out⟩ (fun hHeld => ?_)
        clear hK K
        try simp only [Act.put, List.getElem_toArray, List.getElem_cons_zero, List.getElem_cons_succ, List.setIfInBounds_toArray, List.set_cons_zero, List.set_cons_succ]
        clear keep1 keep2 HB4 HS4 HT4 HP4
        refine wpAnyH_take (i := 8) (v := ?_) rfl (by kernel_rfl) (by kernel_rfl) (by kernel_rfl) (fun _ _ _ h => h) (Or.inl ⟨by rfl, ?_⟩) (by assumption) ?_; rotate_left
        · intro w hSw; go_simp; try with_reducible rfl
        try simp only [Act.put, List.getElem_toArray, List.getElem_cons_zero, List.getElem_cons_succ, List.setIfInBounds_toArray, List.set_cons_zero, List.set_cons_succ]
        refine wpAnyH_take (i := 9) (v := ?_) rfl (by kernel_rfl) (by kernel_rfl) (by kernel_rfl) (fun _ _ _ h => h) (Or.inl ⟨by rfl, ?_⟩) (by assumption) ?_; rotate_left
        · intro w hSw; go_simp; try with_reducible rfl
        try simp only [Act.put, List.getElem_toArray, List.getElem_cons_zero, List.getElem_cons_succ, List.setIfInBounds_toArray, List.set_cons_zero, List.set_cons_succ]
        refine wpAnyH_done (by kernel_rfl) ?_ _
        have HE5 := Lib.hid (show Ext w1 (more w1 x2) from ⟨x2, rfl⟩)
        have HB6 := Lib.hid (show Beds (more w1 x2) w1.heap.size 46 10 [(u15, q, CS (toldP (out.take q))), (v1, q + 1, CS (heldL (out.take q)) ++ [.int .i64 1, .int .i64 pa, .int .i64 3, .int .i64 pt, .int .i64 pq, .int .i64 pp, .int .u64 V1, .int .i64 0, .int .i64 0, .int .i64 0]), (v2, q + 1, CS (doneL to (out.take q)) ++ [.int .i64 1, .int .i64 pa, .int .i64 3, .int .i64 pt, .int .i64 pq, .int .i64 pp, .int .u64 V2, .int .i64 0, .int .i64 0, .int .i64 0])] from HB5.out.rev3)
        have H15 := Lib.hid (show (more w1 x2).ownsRow w1.heap.size 46 10 u15 q (CS (toldP (out.take q))) from HB6.out.own 0 _ rfl)
        clear HB5 HB3 HE3 HS3 HT3 HP3 hHeld HS5 HT5
        generalize more w1 x2 = W5 at *
        obtain ⟨p0, p1, p2, p3, p4, p5, p6, p7, p8, p9, p10, pll⟩ := cellsPl HP5.out
        obtain ⟨l1, l2, l3⟩ := lt_facts pll
        clear HP5 N14 N15 N17 hb12 hb123
        go_wp2_with (at_builtin; refine wpList_append_newB w1 el_Step rfl _ _ rfl u15 q _ rfl (by repeat (first | exact H15.out | apply own_more | apply own_alloc | apply own_drew | apply own_drewN)) (by repeat (first | exact HE5.out | apply Ext.more | apply Ext.alloc | apply Ext.drew | apply Ext.drewN)) _ _ 1 _ rfl (by simp) rfl rfl (by omega) ?_; intro v3 x3 HO3 keep3 blk3)
        have HB7 := Lib.hid (Beds.put (h := HB6.out) HO3.out keep3 blk3)
        clear HB6 H15 HO3 keep3 blk3
        go_roundw
        case rel => exact ⟨q + 1, by omega, by go_num, (by repeat (first | exact Ext.refl _ | apply Ext.more | apply Ext.alloc | apply Ext.drew | apply Ext.drewN)), by
          show Beds _ _ _ _ _
          rw [E.out.1, E.out.2.1, E.out.2.2]
          exact HB7.out.swap⟩
        case measure => simp [intOf]; omega
    · obtain rfl : q = out.length := by omega
      rw [List.take_length] at HB
      have HB4 := Lib.hid (show Beds (more w1 x) w1.heap.size 46 10 [(.slice none 0 0, 0, CS (copiesN to frm 0)), (u14, out.length, CS (heldL out)), (u15, out.length, CS (toldP out)), (u17, out.length, CS (doneL to out))] from ⟨fun r hr => by
        rcases List.mem_cons.1 hr with rfl | hr
        · exact World.ownsRow_nil _ _ _ _
        · exact HB.out.1 r hr, .cons (fun a _ => sep_nil _) HB.out.2⟩)
      clear HB
      go_wp2_with fail
      go_loopw [16, 24, 118] (fun o16 _ i wr => ∃ k : Nat, k ≤ 8 ∧ i = .int .i64 k ∧ Ext w1 wr ∧ Hid (Beds wr w1.heap.size 46 10 [(o16, k, CS (copiesN to frm k)), (u14, out.length, CS (heldL out)), (u15, out.length, CS (toldP out)), (u17, out.length, CS (doneL to out))])) (fun _ _ i _ => 8 - (intOf i).toNat)
      case atStart => exact ⟨0, by omega, rfl, (by repeat (first | exact Ext.refl _ | apply Ext.more | apply Ext.alloc | apply Ext.drew | apply Ext.drewN)), HB4⟩
      case round =>
        obtain ⟨k, hk, rfl, ⟨y, rfl⟩, HBk⟩ := hrel
        by_cases hlt8 : k < 8
        · have H16 := Lib.hid (show (more w1 y).ownsRow w1.heap.size 46 10 u16 k (CS (copiesN to frm k)) from HBk.out.own 0 _ rfl)
          have E := Lib.hid (show CS (copiesN to frm (k + 1)) = CS (copiesN to frm k) ++ (copyS to frm k).cells from by rw [copiesN_succ, CS_snoc])
          go_wp2_with (at_builtin; refine wpList_append_newB w1 el_Step rfl _ _ rfl u16 k _ rfl (by repeat (first | exact H16.out | apply own_more | apply own_alloc | apply own_drew | apply own_drewN)) (by repeat (first | exact Ext.refl _ | apply Ext.more | apply Ext.alloc | apply Ext.drew | apply Ext.drewN)) _ _ 1 _ rfl (by simp) rfl rfl (by omega) ?_; intro v3 x3 HO3 keep3 blk3)
          have HB7 := Lib.hid (Beds.put (h := HBk.out) HO3.out keep3 blk3)
          clear H16 HO3 keep3 blk3
          go_roundw
          case rel => exact ⟨k + 1, by omega, by go_num, (by repeat (first | exact Ext.refl _ | apply Ext.more | apply Ext.alloc | apply Ext.drew | apply Ext.drewN)), by
            show Beds _ _ _ _ _
            rw [E.out]
            exact HB7.out⟩
          case measure => simp [intOf]; omega
        · obtain rfl : k = 8 := by omega
          obtain ⟨a16, c16, rfl⟩ := own_form (show World.ownsRow (more w1 y) w1.heap.size 46 10 u16 8 (CS (copiesN to frm 8)) from HBk.out.own 0 _ rfl)
          obtain ⟨a14, c14, rfl⟩ := own_form (show World.ownsRow (more w1 y) w1.heap.size 46 10 u14 out.length (CS (heldL out)) from HBk.out.own 1 _ rfl)
          obtain ⟨a15, c15, rfl⟩ := own_form (show World.ownsRow (more w1 y) w1.heap.size 46 10 u15 out.length (CS (toldP out)) from HBk.out.own 2 _ rfl)
          obtain ⟨a17, c17, rfl⟩ := own_form (show World.ownsRow (more w1 y) w1.heap.size 46 10 u17 out.length (CS (doneL to out)) from HBk.out.own 3 _ rfl)
          have HCo := Lib.hid (fun w' g cap (hE : Ext (more w1 y) w') (hg : g < w'.heap.size) hc => steps_Concat w' w1.heap.size [(.slice a14 out.length c14, heldL out), (.slice a15 out.length c15, toldP out), (.slice a16 8 c16, copiesN to frm 8), (.slice a17 out.length c17, doneL to out)] (fun r hr => by
            have h0 := HBk.out.own 0 _ rfl
            have h1 := HBk.out.own 1 _ rfl
            have h2 := HBk.out.own 2 _ rfl
            have h3 := HBk.out.own 3 _ rfl
            simp only [List.mem_cons, List.not_mem_nil, or_false] at hr
            rcases hr with rfl | rfl | rfl | rfl
            · show World.ownsRow _ _ _ _ _ (heldL out).length _
              rw [heldL_len]; exact own_ext h1 hE
            · show World.ownsRow _ _ _ _ _ (toldP out).length _
              rw [toldP_len]; exact own_ext h2 hE
            · show World.ownsRow _ _ _ _ _ (copiesN to frm 8).length _
              rw [copiesN_len]; exact own_ext h0 hE
            · show World.ownsRow _ _ _ _ _ (doneL to out).length _
              rw [doneL_len]; exact own_ext h3 hE) g cap hg hc (show 4 ≤ 1000 by omega) (by simp [catS, heldL_len, toldP_len, copiesN_len, doneL_len]; omega))
          have hcat : catS [(.slice a14 out.length c14, heldL out), (.slice a15 out.length c15, toldP out), (.slice a16 8 c16, copiesN to frm 8), (.slice a17 out.length c17, doneL to out)] = moveL to frm out := by simp [catS, moveL]
          rw [hcat] at HCo
          clear HB4 hcat
          go_wp2_with fail
          refine (HCo.out _ _ 4 (Ext.alloc (Ext.refl _) _) (by simp) ?_).mono ?_
          · intro i r hr
            rw [cell_of_row _ _ i _ _ _ (heap_alloc_new (more w1 y) _)]
            match i, hr with
            | 0, hr => cases hr; rfl
            | 1, hr => cases hr; rfl
            | 2, hr => cases hr; rfl
            | 3, hr => cases hr; rfl
          · rintro e w' ⟨hE, a, c2, rfl, hO⟩
            have HEz := Lib.hid (Ext.trans (Ext.trans HE1.out (by repeat (first | exact Ext.refl _ | apply Ext.more | apply Ext.alloc | apply Ext.drew | apply Ext.drewN))) hE)
            have HOz := Lib.hid hO
            have hsz := Ext.size HE1.out
            clear hE hO
            go_wp2_with fail
            go_ret2
            exact ⟨HEz.out, stepsRet_yes rfl HOz.out (by simp [size_more]; omega) rfl rfl⟩

end Go.Proofs.Ythcdecgecabgaaa
