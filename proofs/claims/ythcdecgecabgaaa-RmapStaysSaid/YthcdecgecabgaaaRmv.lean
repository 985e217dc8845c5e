/- The contracts of rmap.Move, Pages, Clone. -/
import Derived.Test.YthcdecgecabgaaaRmu
import Derived.Test.YthcdecgecabgaaaMorf
import Derived.Shelf.SlMaps.Clone
import Derived.Ground.SlmcProg
namespace Go.Proofs
open Go.Shelf
shelf_lay_g SlLaysW.n5 Slmc 5 at Try 89 as YthcdecgecabgaaacloneM
end Go.Proofs
namespace Go.Proofs.Ythcdecgecabgaaa
open Go.RowKit
open Go.Lib Go.Sort
open Go.ChangeMaps (setBlock)
set_option linter.unusedVariables false
set_option linter.unusedSimpArgs false
attribute [local go_sem] setCell_drewN alloc_drewN lt_moreE le_moreE lt_moreK le_moreK cell_more frozen_more set_more drew_more drewN_more

theorem take_snocR {α : Type} {l : List α} {q : Nat} {z : α} (h : l[q]? = some z) : l.take (q + 1) = l.take q ++ [z] := by
  rw [List.take_add_one, h]
  rfl
theorem keys_at {w : World} {B n cap : Nat} {T : TypeId} {a : Option Addr} {ks : List (Int × Int)} (h : w.ownsRow B T 2 (.slice a n cap) n (ks.map encK).flatten) {q : Nat} {k : Int × Int} (hq : ks[q]? = some k) (hn : ks.length = n) :
    ∃ g, a = some ⟨g, 0, none⟩ ∧ B ≤ g ∧ g < w.heap.size ∧ w.cell? ⟨g, q * 2, none⟩ = some (.int .i64 k.1) ∧ w.cell? ⟨g, q * 2 + 1, none⟩ = some (.int .i64 k.2) := by
  have hql := (List.getElem?_eq_some_iff.1 hq).1
  obtain ⟨g, h1, h2, h3, _, h5, _⟩ := own_at h (by omega)
  refine ⟨g, h1, h2, h3, h5 _ _ ?_, h5 _ _ ?_⟩
  · exact flatten_at 2 (ks.map encK) q 0 (encK k) _ (fun c hc => by obtain ⟨x, _, rfl⟩ := List.mem_map.1 hc; rfl) (by simp [hq]) rfl
  · exact flatten_at 2 (ks.map encK) q 1 (encK k) _ (fun c hc => by obtain ⟨x, _, rfl⟩ := List.mem_map.1 hc; rfl) (by simp [hq]) rfl
def moveC (frm to : Int) (rs : List Rw) : Option Int := if frameB frm = true ∧ frameB to = true ∧ frm ≠ to then (if (ofR rs to).length = 0 then none else some 7) else some 1
def moveM (frm to : Int) (rs : List Rw) : List Rw := if moveC frm to rs = none then rs.map (moveR frm to) else rs
theorem frameAt_map {rs : List Rw} {g : Rw → Rw} (hg : ∀ x, (g x).key = x.key) {s p f : Int} (h : frameAt rs s p = some f) : ∃ f', frameAt (rs.map g) s p = some f' := by
  cases hn : frameAt (rs.map g) s p with
  | some f' => exact ⟨f', rfl⟩
  | none =>
    exact absurd (hg ⟨s, p, f⟩) (frameAt_none.1 hn _ (List.mem_map_of_mem (frameAt_some h)))
theorem ofR_len (rs : List Rw) (n : Int) : (ofR rs n).length ≤ rs.length := by
  unfold ofR
  rw [List.length_map]
  exact List.length_filter_le _ _

set_option maxRecDepth 100000 in
set_option maxHeartbeats 4000000 in
theorem rmap_Move (w : World) {B hb mb : Nat} {rs : List Rw} (h : RmOn w B hb mb rs) (hlen : rs.length ≤ 100000) (frm to : Int) (o : Option Int) (ho : moveC frm to rs = o) (rs' : List Rw) (hr : moveM frm to rs = rs') :
    Calls Try.prog 40 #[.pointer (some ⟨hb, 0, none⟩), .int .i64 frm, .int .i64 to] w fun e w' => (e = .returned (errO o) ∧ RmOn w' B hb mb rs') ∧ w.grownBy w' (some mb) := by
  have HO := Lib.hid h
  obtain ⟨b1, hb1⟩ : ∃ b, frameB frm = b := ⟨_, rfl⟩
  obtain ⟨b2, hb2⟩ : ∃ b, frameB to = b := ⟨_, rfl⟩
  have HF1 := Lib.hid (fun w' => rmap_frame w' frm b1 hb1)
  have HF2 := Lib.hid (fun w' => rmap_frame w' to b2 hb2)
  by_cases hc : b1 = true ∧ b2 = true ∧ frm ≠ to
  · obtain ⟨rfl, rfl, hne⟩ := hc
    have hmc : moveC frm to rs = if (ofR rs to).length = 0 then none else some 7 := by unfold moveC; rw [if_pos ⟨hb1, hb2, hne⟩]
    have hne' : (frm == to) = false := by simpa using hne
    have HC := Lib.hid (fun w' (h' : RmOn w' B hb mb rs) => rmap_Count w' h' hlen to)
    have hol := ofR_len rs frm
    by_cases hz : (ofR rs to).length = 0
    · rw [if_pos hz] at hmc
      obtain rfl : none = o := hmc.symm.trans ho
      obtain rfl : rs.map (moveR frm to) = rs' := by rw [← hr]; unfold moveM; rw [if_pos hmc]
      rw [hz] at HC
      have HOf := Lib.hid (fun w' (h' : RmOn w' B hb mb rs) => rmap_Of w' h' hlen frm)
      have HAll := Lib.hid (movedSo_all (frm := frm) (to := to) h.asc)
      have HNd := Lib.hid (fun (q : Nat) (k : Int × Int) (hk : (ofR rs frm)[q]? = some k) => ofR_frame h.asc (List.mem_of_getElem? hk))
      have hL0 : (ofR rs frm).length ≤ 100000 := by omega
      generalize ofR rs frm = L at *
      clear h ho hr hmc hne hb1 hb2 hz
      go_enter Try.func40, Try.ntmps40
      go_wp2_with (go_at_call 81; first | (with_reducible refine (HF1.out _).mono ?_; rintro e w' ⟨rfl, hww⟩; subst w') | (with_reducible refine (HF2.out _).mono ?_; rintro e w' ⟨rfl, hww⟩; subst w'))
      refine (HC.out _ HO.out).mono ?_
      rintro e w' ⟨⟨x1, rfl⟩, rfl⟩
      go_wp2_with fail
      refine (HOf.out _ (HO.out.ext (by repeat (first | exact Ext.refl _ | apply Ext.more | apply Ext.alloc | apply Ext.drew | apply Ext.drewN)))).mono ?_
      rintro e w2 ⟨hE2, a, cap, rfl, hO2⟩
      have HE2 := Lib.hid (show Ext w w2 from Ext.trans (by repeat (first | exact Ext.refl _ | apply Ext.more | apply Ext.alloc | apply Ext.drew | apply Ext.drewN)) hE2)
      have HO2 := Lib.hid hO2
      have HR2 := Lib.hid (HO.out.ext HE2.out)
      clear hE2 hO2
      generalize (more w x1).heap.size = B2 at *
      go_wp2_with fail
      go_loopw [8, 34] (fun _ i wr => ∃ q : Nat, q ≤ L.length ∧ i = .int .i64 q ∧ Hid (RmOn wr B hb mb (rs.map (movedSo to (L.take q)))) ∧ Hid (w.grownBy wr (some mb)) ∧ Hid (wr.ownsRow B2 57 2 (.slice a L.length cap) L.length (L.map encK).flatten)) (fun _ i _ => L.length - (intOf i).toNat)
      case atStart => exact ⟨0, by omega, rfl, by rw [List.take_zero, movedSo_nil]; exact HR2, Lib.hid (grow_of_none HE2.out.grow), HO2⟩
      case round =>
        obtain ⟨q, hq, rfl, HRq, HGq, HOq⟩ := hrel
        clear HO2 HR2 HE2
        by_cases hlt : q < L.length
        · have hz : L[q]? = some L[q] := List.getElem?_eq_getElem hlt
          obtain ⟨g, rfl, hBg, hgl, c0, c1⟩ := keys_at HOq.out hz rfl
          obtain ⟨f', hf'⟩ := frameAt_map (g := movedSo to (L.take q)) (movedSo_key to _) (HNd.out q _ hz)
          have hsn := movedSo_snoc to (L.take q) L[q] rs
          rw [← take_snocR hz] at hsn
          have HSn := Lib.hid hsn
          generalize L[q] = k at *
          obtain ⟨s, p⟩ := k
          dsimp only at c0 c1 hf' HSn
          obtain ⟨l1, l2, l3⟩ := lt_facts hgl
          have hE : Ext wr (wr.alloc (.cells #[.int .i64 s, .int .i64 p] 57)).drew := (by repeat (first | exact Ext.refl _ | apply Ext.more | apply Ext.alloc | apply Ext.drew | apply Ext.drewN))
          obtain ⟨es', clock', hup, hat, hof⟩ := (HRq.out.ext hE).set hf' to
          have HAt := Lib.hid (And.intro hat hof)
          have HG1 := Lib.hid (grow_of_none (row := some mb) hE.grow)
          have HOb := Lib.hid (own_keepO (HRq.out.ext hE) (grow_setBlock _ mb (.map (entsK (es'.map RE.ke)) clock')) (own_ext HOq.out hE))
          obtain ⟨y0, hl⟩ := HRq.out.hcell
          obtain ⟨l4, l5, l6⟩ := lt_facts hl
          have hqi : (q : Int) < L.length := by omega
          have hqi0 : 0 ≤ (q : Int) := by omega
          clear hat hof hE hf' hsn hz
          go_wp2_with fail
          go_region
          all_goals
            have HGn := Lib.hid (grow_trans HGq.out (grow_trans HG1.out (grow_setBlock _ mb (.map (entsK (es'.map RE.ke)) clock'))))
            clear hup
            generalize setBlock (wr.alloc (.cells #[.int .i64 s, .int .i64 p] 57)).drew mb (.map (entsK (es'.map RE.ke)) clock') = W6 at *
            go_wp2_with fail
            go_roundw
            case rel => exact ⟨q + 1, by omega, by go_num, Lib.hid ⟨es', clock', HAt.out.1, by rw [HSn.out]; exact HAt.out.2⟩, HGn, HOb⟩
            case measure => simp [intOf]; omega
        · obtain rfl : q = L.length := by omega
          rw [List.take_length, HAll.out] at HRq
          go_wp2_with fail
          go_ret
          exact ⟨⟨rfl, HRq.out⟩, HGq.out⟩
    · rw [if_neg hz] at hmc
      obtain rfl : some 7 = o := hmc.symm.trans ho
      obtain rfl : rs = rs' := by rw [← hr]; unfold moveM; rw [if_neg (by rw [hmc]; simp)]
      generalize (ofR rs to).length = ln at *
      have hlz : (0 : Int) < ln := by omega
      clear h ho hr hmc hne hb1 hb2 hz
      go_enter Try.func40, Try.ntmps40
      go_wp2_with (go_at_call 81; first | (with_reducible refine (HF1.out _).mono ?_; rintro e w' ⟨rfl, hww⟩; subst w') | (with_reducible refine (HF2.out _).mono ?_; rintro e w' ⟨rfl, hww⟩; subst w'))
      refine (HC.out _ HO.out).mono ?_
      rintro e w' ⟨⟨x1, rfl⟩, rfl⟩
      go_wp2_with fail
      go_ret
      exact ⟨⟨rfl, HO.out.ext (by repeat (first | exact Ext.refl _ | apply Ext.more | apply Ext.alloc | apply Ext.drew | apply Ext.drewN))⟩, grow_of_none (Ext.grow (by repeat (first | exact Ext.refl _ | apply Ext.more | apply Ext.alloc | apply Ext.drew | apply Ext.drewN)))⟩
  · have hmc : moveC frm to rs = some 1 := by unfold moveC; rw [hb1, hb2, if_neg hc]
    obtain rfl : some 1 = o := hmc.symm.trans ho
    obtain rfl : rs = rs' := by rw [← hr]; unfold moveM; rw [if_neg (by rw [hmc]; simp)]
    have hcs : b1 = false ∨ (b1 = true ∧ b2 = false) ∨ (b1 = true ∧ b2 = true ∧ (frm == to) = true) := by
      cases b1 with
      | false => exact .inl rfl
      | true =>
        cases b2 with
        | false => exact .inr (.inl ⟨rfl, rfl⟩)
        | true =>
          refine .inr (.inr ⟨rfl, rfl, ?_⟩)
          by_cases he : frm = to
          · simpa using he
          · exact absurd ⟨rfl, rfl, he⟩ hc
    clear h ho hr hmc hb1 hb2 hc
    rcases hcs with rfl | ⟨rfl, rfl⟩ | ⟨rfl, rfl, h3⟩
    all_goals
      go_enter Try.func40, Try.ntmps40
      go_wp2_with (go_at_call 81; first | (with_reducible refine (HF1.out _).mono ?_; rintro e w' ⟨rfl, hww⟩; subst w') | (with_reducible refine (HF2.out _).mono ?_; rintro e w' ⟨rfl, hww⟩; subst w'))
      go_ret
      exact ⟨⟨rfl, HO.out.ext (by repeat (first | exact Ext.refl _ | apply Ext.more | apply Ext.alloc | apply Ext.drew | apply Ext.drewN))⟩, grow_of_none (Ext.grow (by repeat (first | exact Ext.refl _ | apply Ext.more | apply Ext.alloc | apply Ext.drew | apply Ext.drewN)))⟩

set_option maxRecDepth 100000 in
theorem rmap_Clone (w : World) {B hb mb : Nat} {rs : List Rw} (h : RmOn w B hb mb rs) (hB : B ≤ w.heap.size) :
    Calls Try.prog 43 #[.pointer (some ⟨hb, 0, none⟩)] w fun e w' => Ext w w' ∧ ∃ hb' mb', e = .returned (.pointer (some ⟨hb', 0, none⟩)) ∧ RmOn w' B hb' mb' rs ∧ w.heap.size ≤ hb' ∧ w.heap.size ≤ mb' := by
  obtain ⟨y0, hl⟩ := h.hcell
  obtain ⟨l1, l2, l3⟩ := lt_facts hl
  obtain ⟨es, clock, h1, h2⟩ := h
  have HC := Lib.hid (AnyW.maps_Clone YthcdecgecabgaaacloneM mb (entsK (es.map RE.ke)) clock w h1.map)
  have HA := Lib.hid (And.intro h1 h2)
  clear h1 h2
  go_enter Try.func43, Try.ntmps43
  go_wp2_with fail
  refine Calls.mono HC.out ?_
  rintro e w' ⟨rfl, hww⟩
  rw [hww]
  clear hww w'
  go_wp2_with fail
  go_ret
  refine ⟨(by repeat (first | exact Ext.refl _ | apply Ext.more | apply Ext.alloc | apply Ext.drew | apply Ext.drewN)), w.heap.size + 1, w.heap.size, rfl, ⟨es, clock, { hdr := ?_, map := ?_, borns := HA.out.1.borns, old := HA.out.1.old, hB := by omega, mB := hB }, HA.out.2⟩, by omega, Nat.le_refl _⟩
  · exact heap_alloc_at _ _ (by simp)
  · exact box_alloc (heap_alloc_new _ _) _

end Go.Proofs.Ythcdecgecabgaaa
