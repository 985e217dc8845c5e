/- The law paviorlaw11.RmapStays. -/
import Derived.Test.YthcdecgecabgaaaRmon
import Derived.Laws.OwnMore
namespace Go.Proofs.Ythcdecgecabgaaa
open Go.RowKit
set_option linter.unusedVariables false
set_option linter.unusedSimpArgs false
attribute [local go_sem] setCell_drewN alloc_drewN lt_moreE le_moreE lt_moreK le_moreK cell_more frozen_more set_more drew_more drewN_more

/-- What a script's adds leave, and that each added page stands among the script's. -/
def KeysIn (l : List Deed11) (q : Nat) (rs : List Rw) : Prop := ∀ x ∈ rs, 1 ≤ x.s ∧ ∃ j, ∃ d, j < q ∧ l[j]? = some d ∧ x.key = (d.fW.fSpace, d.fW.fPage)
theorem keysIn_add {l : List Deed11} {q : Nat} {rs : List Rw} {d : Deed11} (h : KeysIn l q rs) (hz : l[q]? = some d) : KeysIn l (q + 1) (addR d.fFrame d.fW.fSpace d.fW.fPage rs) := by
  have h2 : KeysIn l (q + 1) rs := fun x hx => by
    obtain ⟨h1, j, d', hj, hd, hk⟩ := h x hx
    exact ⟨h1, j, d', by omega, hd, hk⟩
  unfold addR
  split
  · rename_i hc
    intro x hx
    rcases List.mem_cons.1 ((putR_perm _ _).mem_iff.1 hx) with rfl | hx
    · refine ⟨?_, q, d, by omega, hz, rfl⟩
      unfold addC at hc
      split at hc
      · rename_i h3; exact h3.2.2.1
      · cases hc
    · exact h2 x hx
  · exact h2
/-- What is left when a script's pages are taken. -/
def outsR (l : List Deed11) (rs : List Rw) : List Rw := l.foldl (fun rs d => outR d.fW.fSpace d.fW.fPage rs) rs
theorem outsR_mem {x : Rw} : ∀ (l : List Deed11) (rs : List Rw), x ∈ outsR l rs → x ∈ rs ∧ ∀ d ∈ l, x.key ≠ (d.fW.fSpace, d.fW.fPage) := by
  intro l
  induction l with
  | nil => intro rs h; exact ⟨h, fun d hd => by cases hd⟩
  | cons d l ih =>
    intro rs h
    obtain ⟨h1, h2⟩ := ih _ h
    obtain ⟨h3, h4⟩ := List.mem_filter.1 h1
    refine ⟨h3, fun d' hd' => ?_⟩
    rcases List.mem_cons.1 hd' with rfl | hd'
    · intro e
      rw [Rw.is_iff.2 e] at h4
      cases h4
    · exact h2 d' hd'
theorem outsR_all {l : List Deed11} {q : Nat} {rs : List Rw} (h : KeysIn l q rs) : outsR (l.take q) rs = [] := by
  rw [List.eq_nil_iff_forall_not_mem]
  intro x hx
  obtain ⟨h1, h2⟩ := outsR_mem _ _ hx
  obtain ⟨_, j, d, hj, hd, hk⟩ := h x h1
  refine h2 d ?_ hk
  exact List.mem_of_getElem? (by rw [List.getElem?_take, if_pos hj]; exact hd)
theorem outsR_snoc {l : List Deed11} {q : Nat} {d : Deed11} (h : l[q]? = some d) (rs : List Rw) : outsR (l.take (q + 1)) rs = outR d.fW.fSpace d.fW.fPage (outsR (l.take q) rs) := by
  unfold outsR
  rw [take_snocR h, List.foldl_append]
  rfl
theorem outsR_len (l : List Deed11) : ∀ rs : List Rw, (outsR l rs).length ≤ rs.length := by
  induction l with
  | nil => intro rs; exact Nat.le_refl _
  | cons d l ih => intro rs; exact Nat.le_trans (ih _) (outR_len _ _ _)

/-- A row of the call's own, whatever its cells are. -/
def RowY (w : World) (B : Nat) (T : TypeId) (sz : Nat) (v : Value) (n : Nat) : Prop := ∃ xs, w.ownsRow B T sz v n xs
theorem RowY.more {w : World} {B sz n : Nat} {T : TypeId} {v : Value} (h : RowY w B T sz v n) (x : Array Obj × Nat) : RowY (more w x) B T sz v n := ⟨_, own_more h.choose_spec x⟩
theorem RowY.set {w : World} {B sz n g cap : Nat} {T : TypeId} (h : RowY w B T sz (.slice (some ⟨g, 0, none⟩) n cap) n) (j : Nat) (u : Value) : RowY (w.setCell ⟨g, j, none⟩ u) B T sz (.slice (some ⟨g, 0, none⟩) n cap) n := ⟨_, (World.ownsRow.stored h.choose_spec j u).1⟩
theorem ext_setY {W w : World} {g : Nat} (h : Ext W w) (hg : W.heap.size ≤ g) (j : Nat) (u : Value) : Ext W (w.setCell ⟨g, j, none⟩ u) :=
  .of ⟨h.grow.os, h.grow.tape, h.grow.output, by simpa using h.size, fun i hi e => by rw [heap_setCell_other _ _ _ _ (by show i ≠ g; omega)]; exact h.grow.block i hi e⟩
theorem RowY.cells {w : World} {B sz n cap : Nat} {T : TypeId} {a : Option Addr} (h : RowY w B T sz (.slice a n cap) n) (hn : 0 < n) : ∃ g, a = some ⟨g, 0, none⟩ ∧ B ≤ g ∧ g < w.heap.size ∧ (∀ j, j < n * sz → ∃ u, w.cell? ⟨g, j, none⟩ = some u) ∧ ∀ j, w.frozen? ⟨g, j, none⟩ = false := by
  obtain ⟨xs, ho⟩ := h
  obtain ⟨g, rfl, h1, h2, _, h4, h5⟩ := own_at ho hn
  refine ⟨g, rfl, h1, h2, fun j hj => ⟨xs[j]'(by rw [ho.1]; exact hj), h4 j _ (List.getElem?_eq_getElem _)⟩, h5⟩

set_option maxRecDepth 100000 in
set_option maxHeartbeats 8000000 in
theorem law11_RmapStays (w : World) (l : List Deed11) (hl : ∀ d ∈ l, d.wf) (v : Value) (hv : SlRd w v 5 (l.map Deed11.cells)) :
    Calls Try.prog 7 #[v] w fun e w' => e = .returned (.bool true) ∧ w.grownBy w' none := by
  refine growC (R := fun e _ => e = .returned (.bool true)) ?_
  obtain ⟨la, lcap, rfl, hlc, hlx⟩ := hv.form
  rw [List.length_map] at *
  have hll : l.length ≤ 9223372036854775807 := by unfold maxLen at hlc; exact hlc
  have HLX := Lib.hid hlx
  clear hv hlx hl hlc
  go_enter Try.func7, Try.ntmps7
  go_wp2_with fail
  refine (law11_up w).mono ?_
  rintro e w0 ⟨hE0, rfl⟩
  go_wp2_with fail
  refine (rmap_New w w0 hE0).mono ?_
  rintro e w1 ⟨hE1, hb, mb, rfl, hO1⟩
  have HE1 := Lib.hid (hE0.trans hE1)
  have HO1 := Lib.hid hO1
  clear hE0 hE1 hO1
  go_wp2_with fail
  go_loopw [5] (fun i wr => ∃ (q : Nat) (rs : List Rw), q ≤ l.length ∧ q ≤ 30 ∧ rs.length ≤ q ∧ i = .int .i64 q ∧ Ext w wr ∧ Hid (RmOn wr w.heap.size hb mb rs) ∧ Hid (KeysIn l q rs)) (fun i _ => 30 - (intOf i).toNat)
  case atStart => exact ⟨0, [], by omega, by omega, by simp, rfl, HE1.out, HO1, Lib.hid (fun x hx => by cases hx)⟩
  case round =>
    obtain ⟨q, rs, hq, hq30, hrl, rfl, hEr, HOr, HKr⟩ := hrel
    have HEr := Lib.hid hEr
    clear hEr HO1 HE1
    obtain ⟨wo, rfl⟩ : ∃ wo : World, wo = wr := ⟨_, rfl⟩
    by_cases hlt : q < l.length ∧ q < 30
    · obtain ⟨hq1, hq2⟩ := hlt
      have hz : l[q]? = some l[q] := List.getElem?_eq_getElem hq1
      obtain ⟨b, o, rfl, hb1, hc⟩ := HLX.out q l[q].cells (by rw [List.getElem?_map, hz]; rfl) (by simp [Deed11.cells])
      obtain ⟨_, x1, _, x3, x4⟩ := deed_cells hc
      have hbw : b < wo.heap.size := Nat.lt_of_lt_of_le hb1 HEr.out.size
      have y1 := (HEr.out.grow).cell x1 (by simp)
      have y3 := (HEr.out.grow).cell x3 (by simp)
      have y4 := (HEr.out.grow).cell x4 (by simp)
      have HKn := Lib.hid (keysIn_add HKr.out hz)
      generalize l[q] = d at *
      obtain ⟨dw, df, dt, ⟨ds, dp⟩⟩ := d
      dsimp only at y1 y3 y4 HKn
      clear hc x1 x3 x4 hz
      obtain ⟨l1, l2, l3⟩ := lt_facts hbw
      have hqi : (q : Int) < l.length := by omega
      have hqi0 : 0 ≤ (q : Int) := by omega
      have hd1 : decide ((q : Int) < 30) = true := decide_eq_true (by omega)
      have HAd := Lib.hid (rmap_Add wo.drew (HOr.out.ext ((Ext.refl wo).drew)) df ds dp _ rfl _ rfl)
      go_wp2_with fail
      refine wp_region_still_tail 11 (by kernel_rfl) (by kernel_rfl) ?_
      simp only [List.take_succ_cons, List.take_zero, List.drop_succ_cons, List.drop_zero]
      repeat still_step
      refine wpStill_nil ?_
      clear y1 y3 y4
      go_wp2_with fail
      refine (HAd.out).mono ?_
      rintro e w2 ⟨⟨rfl, hO2⟩, hg2⟩
      have HE2 := Lib.hid (ext_grow HEr.out.drew hg2 HOr.out.mB)
      have HO2 := Lib.hid hO2
      clear hO2 hg2
      go_wp2_with fail
      go_roundw
      case rel => exact ⟨q + 1, _, by omega, by omega, Nat.le_trans (addR_len _ _ _ _) (by omega), by go_num, HE2.out, HO2, HKn⟩
      case measure => simp [intOf]; omega
    · have hcs : q = l.length ∨ (q < l.length ∧ q = 30) := by omega
      have hlen : rs.length ≤ 100000 := by omega
      have HFr := Lib.hid (fun w' (h' : RmOn w' w.heap.size hb mb rs) => rmap_Frames w' h' hlen)
      have HOf := Lib.hid (fun w' (h' : RmOn w' w.heap.size hb mb rs) n => rmap_Of w' h' hlen n)
      have HNil := Lib.hid (outsR_all HKr.out)
      have hfl : (framesR rs).length ≤ 30 := Nat.le_trans (framesR_len rs) (by omega)
      have hrl2 : rs.length ≤ 30 := by omega
      clear hlt hlen hrl
      by_cases hF0 : (framesR rs).length = 0
      · have hF0' : (((framesR rs).length : Int) == 0) = true := by simpa using (show ((framesR rs).length : Int) = 0 by omega)
        rcases hcs with rfl | ⟨hq6, rfl⟩
        all_goals
          (try have hq7 : (30 : Int) < l.length := by omega)
          clear hF0
          go_wp2_with fail
          refine (HFr.out _ HOr.out).mono ?_
          rintro e w2 ⟨hE2, af, cf, rfl, _⟩
          have HE2 := Lib.hid (HEr.out.trans hE2)
          clear hE2
          go_wp2_with fail
          go_ret
          exact ⟨HE2.out, rfl⟩
      · have hF0' : (((framesR rs).length : Int) == 0) = false := by simpa using (show ¬ ((framesR rs).length : Int) = 0 by omega)
        have hz0 : (framesR rs)[0]? = some (framesR rs)[0] := List.getElem?_eq_getElem (by omega)
        have hF1 : (0 : Int) < (framesR rs).length := by omega
        have hpos := ofR_some hz0
        have hol := ofR_len rs (framesR rs)[0]
        have HSp := Lib.hid (fun (x : Int × Int) (hx : (ofR rs (framesR rs)[0])[0]? = some x) => (by
          obtain ⟨r, hr, rfl⟩ := List.mem_map.1 (List.mem_of_getElem? hx)
          exact (HKr.out r (List.mem_filter.1 hr).1).1 : 1 ≤ x.1))
        have HZ0 := Lib.hid hz0
        generalize (framesR rs)[0] = was at *
        have hL1 : (0 : Int) < (ofR rs was).length := by omega
        have hL0 : (((ofR rs was).length : Int) == 0) = false := by simpa using (show ¬ ((ofR rs was).length : Int) = 0 by omega)
        clear hz0 hF0
        rcases hcs with rfl | ⟨hq6, rfl⟩
        · (try have hq7 : (30 : Int) < l.length := by omega)
          go_wp2_with fail
          refine (HFr.out _ HOr.out).mono ?_
          rintro e w2 ⟨hE2, af, cf, rfl, hF2⟩
          have HE2 := Lib.hid hE2
          have HF2 := Lib.hid hF2
          have HO2 := Lib.hid (HOr.out.ext hE2)
          obtain ⟨gf, rfl, hgB, hgf, f0⟩ := ints_at hF2 HZ0.out rfl
          have hfz := (own_at hF2 (by omega))
          clear hE2 hF2
          go_wp2_with fail
          refine (HOf.out _ HO2.out was).mono ?_
          rintro e w3 ⟨hE3, ao, co, rfl, hL3⟩
          have HE3 := Lib.hid hE3
          have HR3 := Lib.hid (show RowY w3 w2.heap.size 57 2 (.slice ao (ofR rs was).length co) (ofR rs was).length from ⟨_, hL3⟩)
          clear hE3 hL3
          go_wp2_with fail
          go_loopw [10] (fun i wr => ∃ q : Nat, q ≤ (ofR rs was).length ∧ i = .int .i64 q ∧ Ext w2 wr ∧ Hid (RowY wr w2.heap.size 57 2 (.slice ao (ofR rs was).length co) (ofR rs was).length)) (fun i _ => (ofR rs was).length - (intOf i).toNat)
          case atStart => exact ⟨0, by omega, rfl, HE3.out, HR3⟩
          case round =>
            obtain ⟨q, hq', rfl, hEq, HRq⟩ := hrel
            have HEq := Lib.hid hEq
            clear hEq HE3 HR3
            by_cases hql : q < (ofR rs was).length
            · obtain ⟨g, rfl, hg2, hg3, hcl, hfr⟩ := HRq.out.cells (by omega)
              obtain ⟨u0, c0⟩ := hcl (q * 2) (by omega)
              obtain ⟨u1, c1⟩ := hcl (q * 2 + 1) (by omega)
              have hqi : (q : Int) < (ofR rs was).length := by omega
              have hqi0 : 0 ≤ (q : Int) := by omega
              clear hcl
              go_wp2_with fail
              go_roundw
              case rel => exact ⟨q + 1, by omega, by go_num, ext_setY (ext_setY HEq.out hg2 _ _) hg2 _ _, by
                show RowY _ _ _ _ _ _
                exact RowY.set (RowY.set HRq.out _ _) _ _⟩
              case measure => simp [intOf]; omega
            · obtain rfl : q = (ofR rs was).length := by omega
              obtain ⟨wp, rfl⟩ : ∃ wp : World, wp = wr := ⟨_, rfl⟩
              have f1 := (HEq.out.grow).cell f0 (by simp)
              have hgfp : gf < wp.heap.size := Nat.lt_of_lt_of_le hgf HEq.out.size
              have hfz2 : ∀ j, wp.frozen? ⟨gf, j, none⟩ = false := by
                obtain ⟨_, e1, _, _, _, _, e2⟩ := hfz
                cases e1
                intro j
                rw [show wp.frozen? ⟨gf, j, none⟩ = w2.frozen? ⟨gf, j, none⟩ from World.frozen?_of_block (HEq.out.grow.block gf hgf (by simp))]
                exact e2 j
              have HEp := Lib.hid (ext_setY (HE2.out.trans HEq.out) hgB 0 (.int .i64 (-1)))
              clear hfz HRq
              have HB0 := HEr.out.size
              go_wp2_with fail
              have HOp := Lib.hid (HOr.out.ext HEp.out)
              have HEw := Lib.hid (HEr.out.trans HEp.out)
              clear f1 hfz2
              generalize wp.setCell ⟨gf, 0, none⟩ (.int .i64 (-1)) = w5 at *
              refine (rmap_Clone w5 HOp.out HEw.out.size).mono ?_
              rintro e w6 ⟨hE6, hb', mb', rfl, hO6, hhb, hmb⟩
              have HE6 := Lib.hid hE6
              have HO6 := Lib.hid hO6
              clear hE6 hO6
              go_wp2_with fail
              go_loopw [12] (fun i wr => ∃ q : Nat, q ≤ l.length ∧ q ≤ 30 ∧ i = .int .i64 q ∧ Ext w5 wr ∧ Hid (RmOn wr w.heap.size hb' mb' (outsR (l.take q) rs))) (fun i _ => 30 - (intOf i).toNat)
              case atStart => exact ⟨0, by omega, by omega, rfl, HE6.out, HO6⟩
              case round =>
                obtain ⟨q, hq, hq30, rfl, hEr6, HOr6⟩ := hrel
                have HEr6 := Lib.hid hEr6
                have HEw6 := Lib.hid (HEw.out.trans hEr6)
                clear hEr6 HO6 HE6
                obtain ⟨wk, rfl⟩ : ∃ wk : World, wk = wr := ⟨_, rfl⟩
                by_cases hlt : q < l.length ∧ q < 30
                · obtain ⟨hq1, hq2⟩ := hlt
                  have hz : l[q]? = some l[q] := List.getElem?_eq_getElem hq1
                  obtain ⟨b, o, rfl, hb1, hc⟩ := HLX.out q l[q].cells (by rw [List.getElem?_map, hz]; rfl) (by simp [Deed11.cells])
                  obtain ⟨_, _, _, x3, x4⟩ := deed_cells hc
                  have hbw : b < wk.heap.size := Nat.lt_of_lt_of_le hb1 HEw6.out.size
                  have y3 := (HEw6.out.grow).cell x3 (by simp)
                  have y4 := (HEw6.out.grow).cell x4 (by simp)
                  have HSn := Lib.hid (outsR_snoc hz rs)
                  generalize l[q] = d at *
                  obtain ⟨dw, df, dt, ⟨ds, dp⟩⟩ := d
                  dsimp only at y3 y4 HSn
                  clear hc x3 x4 hz
                  obtain ⟨l1, l2, l3⟩ := lt_facts hbw
                  have hqi : (q : Int) < l.length := by omega
                  have hqi0 : 0 ≤ (q : Int) := by omega
                  have hd1 : decide ((q : Int) < 30) = true := decide_eq_true (by omega)
                  have HRm := Lib.hid (rmap_Remove wk HOr6.out ds dp _ rfl)
                  go_wp2_with fail
                  refine (HRm.out).mono ?_
                  rintro e w7 ⟨⟨rfl, hO7⟩, hg7⟩
                  have HE7 := Lib.hid (ext_grow HEr6.out hg7 hmb)
                  have HO7 := Lib.hid hO7
                  clear hO7 hg7 y3 y4
                  go_wp2_with fail
                  go_roundw
                  case rel => exact ⟨q + 1, by omega, by omega, by go_num, HE7.out, by rw [HSn.out]; exact HO7⟩
                  case measure => simp [intOf]; omega
                · have hqe : q = l.length := by omega
                  subst hqe
                  have hO7 := HOr6.out
                  rw [HNil.out] at hO7
                  have HC1 := Lib.hid (fun w' (h' : RmOn w' w.heap.size hb' mb' []) => rmap_Frames w' h' (by simp))
                  have HC2 := Lib.hid (fun w' (h' : RmOn w' w.heap.size hb' mb' []) => rmap_Count w' h' (by simp) was)
                  rw [show framesR [] = [] from rfl] at HC1
                  rw [show ofR [] was = [] from rfl] at HC2
                  have HO7 := Lib.hid hO7
                  have HM7 := Lib.hid (HOp.out.ext HEr6.out)
                  clear hO7 HOr6
                  go_wp2_with fail
                  refine (HFr.out _ HM7.out).mono ?_
                  rintro e w8 ⟨hE8, a8, c8, rfl, hF8⟩
                  obtain ⟨g8, rfl, _, hg8, k0⟩ := ints_at hF8 HZ0.out rfl
                  have HE8 := Lib.hid hE8
                  have hB7 := hE8.size
                  clear hE8 hF8
                  go_wp2_with fail
                  refine (HOf.out _ (HM7.out.ext HE8.out) was).mono ?_
                  rintro e w9 ⟨hE9, a9, c9, rfl, hF9⟩
                  have hz9 : (ofR rs was)[0]? = some (ofR rs was)[0] := List.getElem?_eq_getElem (by omega)
                  obtain ⟨g9, rfl, _, hg9, m0, m1⟩ := keys_at hF9 hz9 rfl
                  have hsp := HSp.out _ hz9
                  generalize (ofR rs was)[0] = y9 at *
                  obtain ⟨ys, yp⟩ := y9
                  dsimp only at m0 m1 hsp
                  have k1 := (hE9.grow).cell k0 (by simp)
                  have hg89 : g8 < w9.heap.size := Nat.lt_of_lt_of_le hg8 hE9.size
                  have HE9 := Lib.hid (HE8.out.trans hE9)
                  have HO9 := Lib.hid (HO7.out.ext HE9.out)
                  clear hE9 hF9 hz9 k0 HE8
                  go_wp2_with fail
                  refine (HC1.out _ HO9.out).mono ?_
                  rintro e wA ⟨⟨xA, rfl⟩, aA, cA, rfl, _⟩
                  go_wp2_with fail
                  refine (HC2.out _ (HO9.out.ext (by repeat (first | exact Ext.refl _ | apply Ext.more | apply Ext.alloc | apply Ext.drew | apply Ext.drewN)))).mono ?_
                  rintro e wB ⟨⟨xB, rfl⟩, rfl⟩
                  obtain ⟨l1, l2, l3⟩ := lt_facts hg89
                  obtain ⟨l4, l5, l6⟩ := lt_facts hg9
                  have hg1 : (0 : Int) < ys := by omega
                  have k2 : w9.cell? ⟨g8, 0, none⟩ = some (.int .i64 was) := k1
                  have m2 : w9.cell? ⟨g9, 0, none⟩ = some (.int .i64 ys) := m0
                  dsimp only [List.length]
                  go_wp2_with fail
                  go_ret
                  exact ⟨(by repeat (first | exact HEw6.out.trans HE9.out | apply Ext.more | apply Ext.alloc | apply Ext.drew | apply Ext.drewN)), by simp⟩
        · (try have hq7 : (30 : Int) < l.length := by omega)
          go_wp2_with fail
          refine (HFr.out _ HOr.out).mono ?_
          rintro e w2 ⟨hE2, af, cf, rfl, hF2⟩
          have HE2 := Lib.hid hE2
          have HF2 := Lib.hid hF2
          have HO2 := Lib.hid (HOr.out.ext hE2)
          obtain ⟨gf, rfl, hgB, hgf, f0⟩ := ints_at hF2 HZ0.out rfl
          have hfz := (own_at hF2 (by omega))
          clear hE2 hF2
          go_wp2_with fail
          refine (HOf.out _ HO2.out was).mono ?_
          rintro e w3 ⟨hE3, ao, co, rfl, hL3⟩
          have HE3 := Lib.hid hE3
          have HR3 := Lib.hid (show RowY w3 w2.heap.size 57 2 (.slice ao (ofR rs was).length co) (ofR rs was).length from ⟨_, hL3⟩)
          clear hE3 hL3
          go_wp2_with fail
          go_loopw [10] (fun i wr => ∃ q : Nat, q ≤ (ofR rs was).length ∧ i = .int .i64 q ∧ Ext w2 wr ∧ Hid (RowY wr w2.heap.size 57 2 (.slice ao (ofR rs was).length co) (ofR rs was).length)) (fun i _ => (ofR rs was).length - (intOf i).toNat)
          case atStart => exact ⟨0, by omega, rfl, HE3.out, HR3⟩
          case round =>
            obtain ⟨q, hq', rfl, hEq, HRq⟩ := hrel
            have HEq := Lib.hid hEq
            clear hEq HE3 HR3
            by_cases hql : q < (ofR rs was).length
            · obtain ⟨g, rfl, hg2, hg3, hcl, hfr⟩ := HRq.out.cells (by omega)
              obtain ⟨u0, c0⟩ := hcl (q * 2) (by omega)
              obtain ⟨u1, c1⟩ := hcl (q * 2 + 1) (by omega)
              have hqi : (q : Int) < (ofR rs was).length := by omega
              have hqi0 : 0 ≤ (q : Int) := by omega
              clear hcl
              go_wp2_with fail
              go_roundw
              case rel => exact ⟨q + 1, by omega, by go_num, ext_setY (ext_setY HEq.out hg2 _ _) hg2 _ _, by
                show RowY _ _ _ _ _ _
                exact RowY.set (RowY.set HRq.out _ _) _ _⟩
              case measure => simp [intOf]; omega
            · obtain rfl : q = (ofR rs was).length := by omega
              obtain ⟨wp, rfl⟩ : ∃ wp : World, wp = wr := ⟨_, rfl⟩
              have f1 := (HEq.out.grow).cell f0 (by simp)
              have hgfp : gf < wp.heap.size := Nat.lt_of_lt_of_le hgf HEq.out.size
              have hfz2 : ∀ j, wp.frozen? ⟨gf, j, none⟩ = false := by
                obtain ⟨_, e1, _, _, _, _, e2⟩ := hfz
                cases e1
                intro j
                rw [show wp.frozen? ⟨gf, j, none⟩ = w2.frozen? ⟨gf, j, none⟩ from World.frozen?_of_block (HEq.out.grow.block gf hgf (by simp))]
                exact e2 j
              have HEp := Lib.hid (ext_setY (HE2.out.trans HEq.out) hgB 0 (.int .i64 (-1)))
              clear hfz HRq
              have HB0 := HEr.out.size
              go_wp2_with fail
              have HOp := Lib.hid (HOr.out.ext HEp.out)
              have HEw := Lib.hid (HEr.out.trans HEp.out)
              clear f1 hfz2
              generalize wp.setCell ⟨gf, 0, none⟩ (.int .i64 (-1)) = w5 at *
              refine (rmap_Clone w5 HOp.out HEw.out.size).mono ?_
              rintro e w6 ⟨hE6, hb', mb', rfl, hO6, hhb, hmb⟩
              have HE6 := Lib.hid hE6
              have HO6 := Lib.hid hO6
              clear hE6 hO6
              go_wp2_with fail
              go_loopw [12] (fun i wr => ∃ q : Nat, q ≤ l.length ∧ q ≤ 30 ∧ i = .int .i64 q ∧ Ext w5 wr ∧ Hid (RmOn wr w.heap.size hb' mb' (outsR (l.take q) rs))) (fun i _ => 30 - (intOf i).toNat)
              case atStart => exact ⟨0, by omega, by omega, rfl, HE6.out, HO6⟩
              case round =>
                obtain ⟨q, hq, hq30, rfl, hEr6, HOr6⟩ := hrel
                have HEr6 := Lib.hid hEr6
                have HEw6 := Lib.hid (HEw.out.trans hEr6)
                clear hEr6 HO6 HE6
                obtain ⟨wk, rfl⟩ : ∃ wk : World, wk = wr := ⟨_, rfl⟩
                by_cases hlt : q < l.length ∧ q < 30
                · obtain ⟨hq1, hq2⟩ := hlt
                  have hz : l[q]? = some l[q] := List.getElem?_eq_getElem hq1
                  obtain ⟨b, o, rfl, hb1, hc⟩ := HLX.out q l[q].cells (by rw [List.getElem?_map, hz]; rfl) (by simp [Deed11.cells])
                  obtain ⟨_, _, _, x3, x4⟩ := deed_cells hc
                  have hbw : b < wk.heap.size := Nat.lt_of_lt_of_le hb1 HEw6.out.size
                  have y3 := (HEw6.out.grow).cell x3 (by simp)
                  have y4 := (HEw6.out.grow).cell x4 (by simp)
                  have HSn := Lib.hid (outsR_snoc hz rs)
                  generalize l[q] = d at *
                  obtain ⟨dw, df, dt, ⟨ds, dp⟩⟩ := d
                  dsimp only at y3 y4 HSn
                  clear hc x3 x4 hz
                  obtain ⟨l1, l2, l3⟩ := lt_facts hbw
                  have hqi : (q : Int) < l.length := by omega
                  have hqi0 : 0 ≤ (q : Int) := by omega
                  have hd1 : decide ((q : Int) < 30) = true := decide_eq_true (by omega)
                  have HRm := Lib.hid (rmap_Remove wk HOr6.out ds dp _ rfl)
                  go_wp2_with fail
                  refine (HRm.out).mono ?_
                  rintro e w7 ⟨⟨rfl, hO7⟩, hg7⟩
                  have HE7 := Lib.hid (ext_grow HEr6.out hg7 hmb)
                  have HO7 := Lib.hid hO7
                  clear hO7 hg7 y3 y4
                  go_wp2_with fail
                  go_roundw
                  case rel => exact ⟨q + 1, by omega, by omega, by go_num, HE7.out, by rw [HSn.out]; exact HO7⟩
                  case measure => simp [intOf]; omega
                · have hqe : q = 30 := by omega
                  subst hqe
                  have hO7 := HOr6.out
                  rw [HNil.out] at hO7
                  have HC1 := Lib.hid (fun w' (h' : RmOn w' w.heap.size hb' mb' []) => rmap_Frames w' h' (by simp))
                  have HC2 := Lib.hid (fun w' (h' : RmOn w' w.heap.size hb' mb' []) => rmap_Count w' h' (by simp) was)
                  rw [show framesR [] = [] from rfl] at HC1
                  rw [show ofR [] was = [] from rfl] at HC2
                  have HO7 := Lib.hid hO7
                  have HM7 := Lib.hid (HOp.out.ext HEr6.out)
                  clear hO7 HOr6
                  go_wp2_with fail
                  refine (HFr.out _ HM7.out).mono ?_
                  rintro e w8 ⟨hE8, a8, c8, rfl, hF8⟩
                  obtain ⟨g8, rfl, _, hg8, k0⟩ := ints_at hF8 HZ0.out rfl
                  have HE8 := Lib.hid hE8
                  have hB7 := hE8.size
                  clear hE8 hF8
                  go_wp2_with fail
                  refine (HOf.out _ (HM7.out.ext HE8.out) was).mono ?_
                  rintro e w9 ⟨hE9, a9, c9, rfl, hF9⟩
                  have hz9 : (ofR rs was)[0]? = some (ofR rs was)[0] := List.getElem?_eq_getElem (by omega)
                  obtain ⟨g9, rfl, _, hg9, m0, m1⟩ := keys_at hF9 hz9 rfl
                  have hsp := HSp.out _ hz9
                  generalize (ofR rs was)[0] = y9 at *
                  obtain ⟨ys, yp⟩ := y9
                  dsimp only at m0 m1 hsp
                  have k1 := (hE9.grow).cell k0 (by simp)
                  have hg89 : g8 < w9.heap.size := Nat.lt_of_lt_of_le hg8 hE9.size
                  have HE9 := Lib.hid (HE8.out.trans hE9)
                  have HO9 := Lib.hid (HO7.out.ext HE9.out)
                  clear hE9 hF9 hz9 k0 HE8
                  go_wp2_with fail
                  refine (HC1.out _ HO9.out).mono ?_
                  rintro e wA ⟨⟨xA, rfl⟩, aA, cA, rfl, _⟩
                  go_wp2_with fail
                  refine (HC2.out _ (HO9.out.ext (by repeat (first | exact Ext.refl _ | apply Ext.more | apply Ext.alloc | apply Ext.drew | apply Ext.drewN)))).mono ?_
                  rintro e wB ⟨⟨xB, rfl⟩, rfl⟩
                  obtain ⟨l1, l2, l3⟩ := lt_facts hg89
                  obtain ⟨l4, l5, l6⟩ := lt_facts hg9
                  have hg1 : (0 : Int) < ys := by omega
                  have k2 : w9.cell? ⟨g8, 0, none⟩ = some (.int .i64 was) := k1
                  have m2 : w9.cell? ⟨g9, 0, none⟩ = some (.int .i64 ys) := m0
                  dsimp only [List.length]
                  go_wp2_with fail
                  go_ret
                  exact ⟨(by repeat (first | exact HEw6.out.trans HE9.out | apply Ext.more | apply Ext.alloc | apply Ext.drew | apply Ext.drewN)), by simp⟩

end Go.Proofs.Ythcdecgecabgaaa
