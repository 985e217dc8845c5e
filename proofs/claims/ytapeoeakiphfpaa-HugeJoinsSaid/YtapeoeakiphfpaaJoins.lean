import Derived.Test.YtapeoeakiphfpaaMerj
import Derived.Test.YtapeoeakiphfpaaUnl
import Derived.Test.YtapeoeakiphfpaaWata
import Derived.Test.YtapeoeakiphfpaaBFitsHugeHugfHugsMerglMerk
/- The law paviorlaw16.HugeJoins. -/
namespace Go.Proofs.Ytapeoeakiphfpaa
open Go.RowKit
set_option linter.unusedVariables false
set_option linter.unusedSimpArgs false
attribute [local go_sem] setCell_drewN alloc_drewN lt_moreE le_moreE lt_moreK le_moreK cell_more frozen_more set_more drew_more drewN_more

/-- What Merge tells of any arguments. -/
theorem merge_any (n : Nat) (ws : List Int) (hw : WOk ws) (root asid page base : Int) (wr ex : Bool) : ∃ R : MergeR, (∀ s t l, R = .yes s t l → MayM n root asid page base ∧ ∃ sl dz, wayAt ws n page 4 0 root = some (sl, dz) ∧ ¬ sl.length < 4 ∧ pagesN ws (sl.getD 3 (0, 0)).1 page 8 = some l ∧ mergeS ws asid page base wr ex (sl.getD 3 (0, 0)).1 (sl.getD 2 (0, 0)).1 l = s) ∧
    ∀ (w : World) (b g c : Nat), MemAt w b g n c ws → Calls Try.prog 57 #[.pointer (some ⟨b, 0, none⟩), .int .i64 root, .int .i64 asid, .int .i64 page, .int .i64 base, .agg #[.bool wr, .bool ex]] w fun e w' => Ext w w' ∧ MergeRet w.heap.size w' .nilIface R e (fun k => errW k) := by
  by_cases h : MayM n root asid page base
  · refine ⟨mergeRes ws asid page base wr ex (wayAt ws n page 4 0 root), fun s t l hs => ⟨h, ?_⟩, fun w b g c hm => huge_Merge w hm hw root asid page base wr ex h _ rfl⟩
    cases hr : wayAt ws n page 4 0 root with
    | none => rw [hr] at hs; cases hs
    | some z =>
      obtain ⟨sl, dz⟩ := z
      rw [hr] at hs
      by_cases h4 : sl.length < 4
      · unfold mergeRes at hs
        dsimp only at hs
        rw [if_pos h4] at hs
        cases hs
      · cases hp : pagesN ws (sl.getD 3 (0, 0)).1 page 8 with
        | none => rw [mergeRes_no h4 hp] at hs; cases hs
        | some l' =>
          rw [mergeRes_yes h4 hp] at hs
          injection hs with h1 h2 h3
          subst h3
          exact ⟨sl, dz, rfl, h4, hp, h1⟩
  · exact ⟨.no 1, fun s t l hs => (by cases hs), fun w b g c hm => huge_Merge_no w hm root asid page base wr ex h⟩
def ownsN (base : Int) (k : Nat) : List Int := (List.range k).map fun i : Nat => base + (i : Int)
theorem ownsN_succ (base : Int) (k : Nat) : ((ownsN base (k + 1)).map intC).flatten = ((ownsN base k).map intC).flatten ++ [.int .i64 (base + (k : Int))] := by
  unfold ownsN
  rw [List.range_succ, List.map_append, List.map_append, List.flatten_append]
  rfl
/-- Frames that must be unlike. -/
def othersL (base : Int) (l : List (Int × Int)) (q : Nat) : List Int := ownsN base 8 ++ (l.take q).map (·.2)
def FrOk (n : Nat) (l : List (Int × Int)) (q : Nat) : Prop := ∀ j, j < q → (l.getD j (0, 0)).2 < n
theorem others_all (base : Int) (l : List (Int × Int)) : othersL base l l.length = ownsN base 8 ++ l.map (·.2) := by unfold othersL; rw [List.take_length]
theorem others_none (base : Int) (l : List (Int × Int)) : othersL base l 0 = ownsN base 8 := by simp [othersL]
theorem hads_succ {l : List (Int × Int)} {q : Nat} {z : Int × Int} (h : l[q]? = some z) (base : Int) : ((othersL base l (q + 1)).map intC).flatten = ((othersL base l q).map intC).flatten ++ [.int .i64 z.2] := by
  unfold othersL
  simp only [take_snoc h, List.map_append, List.flatten_append, List.append_assoc]
  rfl

set_option maxRecDepth 100000 in
set_option maxHeartbeats 8000000 in
theorem law16_HugeJoins (w : World) (fr : Int) (hfr : (Lit.int .i64 fr).wf = true) (l : List Laid) (hl : ∀ d ∈ l, d.wf) (v : Value) (hv : SlRd w v 3 (l.map Laid.cells)) (root : Int) (_ : (Lit.int .i64 root).wf = true) (asid : Int) (_ : (Lit.int .i64 asid).wf = true) (page : Int) (_ : (Lit.int .i64 page).wf = true) (base : Int) (hbw : (Lit.int .i64 base).wf = true) (rt : Rights) (_ : rt.wf) :
    Calls Try.prog 10 #[.int .i64 fr, v, .int .i64 root, .int .i64 asid, .int .i64 page, .int .i64 base, .agg rt.cells.toArray] w fun e w' => e = .returned (.bool true) ∧ w.grownBy w' none := by
  refine growC (R := fun e _ => e = .returned (.bool true)) ?_
  have hw := WOk_layW (layN fr) l hl
  have hn1 := layN_lo fr
  have hn2 := layN_hi fr
  have HL := Lib.hid hl
  have HV := Lib.hid hv
  have HR := Lib.hid hfr
  have HW := Lib.hid hw
  obtain ⟨wr, ex⟩ := rt
  simp only [Rights.cells]
  clear hl hv hfr hw
  go_enter Try.func10, Try.ntmps10
  go_wp2_with fail
  refine (law16_up _).mono ?_
  rintro e w1 ⟨⟨ex1, rfl⟩, rfl⟩
  go_wp2_with fail
  refine (lay_ext _ fr HR.out l HL.out v (by repeat (first | exact HV.out | apply rd_more | apply rd_alloc | apply rd_drew | apply rd_drewN))).mono ?_
  rintro e w2 ⟨b, g, h, hc, gb, gc, rfl, hm2, hr2, hE⟩
  have hE2 : Ext w w2 := Ext.trans (by repeat (first | exact Ext.refl _ | apply Ext.more | apply Ext.alloc | apply Ext.drew | apply Ext.drewN)) hE
  have HM := Lib.hid hm2
  have HRF := Lib.hid hr2
  have HE2 := Lib.hid hE2
  have hbx : w2.heap[w.heap.size]? = some (.cells #[.bool wr, .bool ex] 99 (0, 0)) := (hE.grow.block _ (by simp [size_more]; omega) (by simp)).trans (by repeat (first | (with_reducible exact heap_alloc_new _ _) | (with_reducible apply box_more) | (with_reducible apply box_alloc) | (with_reducible apply box_drew) | (with_reducible apply box_drewN)))
  have HBX := Lib.hid hbx
  obtain ⟨g0, g1, gf⟩ := cells2u hbx
  have hbl : w.heap.size < w2.heap.size := (Array.getElem?_eq_some_iff.1 hbx).1
  obtain ⟨k1, k2, k3⟩ := lt_facts hbl
  clear HL HV HR hE hE2 hr2 hbx hm2
  generalize layW (layN fr) l = ws at *
  generalize layN fr = n at *
  obtain ⟨R, hR, hC⟩ := merge_any n ws HW.out root asid page base wr ex
  have HC := Lib.hid hC
  have HRR := Lib.hid hR
  clear hC hR
  go_wp2_with fail
  refine (HC.out _ _ _ _ (by repeat (first | exact HM.out | apply MemAt.more | apply MemAt.alloc | apply MemAt.drew | apply MemAt.drewN))).mono ?_
  rintro e w3 ⟨hE3, hq⟩
  have HE3 := Lib.hid (HE2.out.trans hE3)
  have HRF3 := Lib.hid (HRF.out.kept0 hE3.grow)
  have HBX3 := Lib.hid ((hE3.grow.block _ hbl (by simp)).trans HBX.out)
  clear hE3 HM HRF HE2 HC HBX g0 g1 gf k1 k2 k3 hbl
  generalize w.heap.size = xb at *
  cases R with
  | no k =>
    obtain rfl := hq
    clear HRF3 HRR HBX3
    go_wp2_with fail
    go_ret
    exact ⟨(by repeat (first | exact HE3.out | apply Ext.more | apply Ext.alloc | apply Ext.drew | apply Ext.drewN)), rfl⟩
  | yes s t lp =>
    obtain ⟨sa, scap, sa2, scap2, rfl, hos, hol⟩ := hq
    obtain ⟨hmay, sl, dz, hway, h4, hpg, hms⟩ := HRR.out s t lp rfl
    obtain ⟨⟨r0, r1, p0, p1, f0, f1, a0, a1⟩, hb7, hb8, hp8⟩ := hmay
    have hll : lp.length ≤ 8 := by rw [(pagesN_pgs hpg).1]; exact pgs_len
    have hsl : s.length ≤ 1000 := by
      rw [← hms]
      have := (fillN_len ws (sl.getD 3 (0, 0)).1 base 8).2
      simp only [mergeS, List.length_append, awayM_len, swapS_len, List.length_cons, List.length_nil]
      omega
    have HWay := Lib.hid hway
    have HPg := Lib.hid hpg
    have HMs := Lib.hid hms
    have H4 := Lib.hid h4
    have HOs := Lib.hid hos
    have HOl := Lib.hid hol
    have hcl := own_cap hol
    have hcl1 : scap2 ≤ 9223372036854775807 := by have := hcl.2.2; unfold maxLen at this; exact this
    have hcl2 := hcl.2.1
    clear hway hpg hms h4 hos hol hcl HRR
    go_wp2_with fail
    go_loopw [22, 23] (fun o i wr => ∃ q : Nat, q ≤ 8 ∧ i = .int .i64 q ∧ Ext w3 wr ∧ Hid (wr.ownsRow w3.heap.size 3 1 o q ((ownsN base q).map intC).flatten)) (fun _ i _ => 8 - (intOf i).toNat)
    case atStart => exact ⟨0, by omega, rfl, Ext.refl _, by show World.ownsRow _ _ _ _ _ _ _; exact World.ownsRow_nil _ _ _ _⟩
    case round =>
      obtain ⟨q, hq, rfl, ⟨x, rfl⟩, HO⟩ := hrel
      by_cases hlt : q < 8
      · have E := Lib.hid (ownsN_succ base q)
        have hwq : IntKind.i64.wrap (base + (q : Int)) = base + (q : Int) := by rw [i64_wraps] <;> omega
        go_wp2_with ((at_builtin; refine wpList_append_new w3 el_int rfl _ _ rfl u22 q _ rfl (by repeat (first | exact HO.out | apply own_more | apply own_alloc | apply own_drew | apply own_drewN)) (by repeat (first | exact Ext.refl _ | apply Ext.more | apply Ext.alloc | apply Ext.drew | apply Ext.drewN)) _ _ 1 _ rfl (by simp) rfl rfl (by omega) ?_); intro v' x' HO' keep; clear keep)
        go_roundw
        case rel => exact ⟨q + 1, by omega, by go_num, (by repeat (first | exact Ext.refl _ | apply Ext.more | apply Ext.alloc | apply Ext.drew | apply Ext.drewN)), by
          show World.ownsRow _ _ _ _ _ _ _
          rw [E.out]
          exact HO'.out⟩
        case measure => simp [intOf]; omega
      · obtain rfl : q = 8 := by omega
        have hO1 := HO.out
        have HO1 := Lib.hid hO1
        clear hO1 HO hlt hq
        go_wp2_with fail
        go_loopw [22, 24] (fun o i wr => ∃ q : Nat, q ≤ lp.length ∧ i = .int .i64 q ∧ Ext w3 wr ∧ Hid (FrOk n lp q) ∧ Hid (wr.ownsRow w3.heap.size 3 1 o (8 + q) ((othersL base lp q).map intC).flatten)) (fun _ i _ => lp.length - (intOf i).toNat)
        case atStart => exact ⟨0, by omega, rfl, (by repeat (first | exact Ext.refl _ | apply Ext.more | apply Ext.alloc | apply Ext.drew | apply Ext.drewN)), Lib.hid (fun j hj => by omega), by show World.ownsRow _ _ _ _ _ _ _; rw [others_none]; exact (by repeat (first | exact HO1.out | apply own_more | apply own_alloc | apply own_drew | apply own_drewN))⟩
        case round =>
          obtain ⟨q, hq, rfl, ⟨x, rfl⟩, HFr, HO⟩ := hrel
          by_cases hlt : q < lp.length
          · have hz : lp[q]? = some lp[q] := List.getElem?_eq_getElem hlt
            obtain ⟨gl, rfl, _, hgl, _, hx, _⟩ := own_at HOl.out (by omega)
            obtain ⟨z0, z1⟩ := slot_at hx q _ hz
            obtain ⟨g1, g2, g3⟩ := lt_facts hgl
            have E := Lib.hid (hads_succ hz base)
            have hzd : lp.getD q (0, 0) = lp[q] := by rw [List.getD_eq_getElem?_getD, hz]; rfl
            have HZ := Lib.hid hzd
            generalize lp[q] = z at *
            obtain ⟨za, zb⟩ := z
            dsimp only at z0 z1 E
            clear hz hx hzd
            by_cases hbig : (n : Int) ≤ zb
            · go_wp2_with fail
              go_ret
              exact ⟨(by repeat (first | exact HE3.out | apply Ext.more | apply Ext.alloc | apply Ext.drew | apply Ext.drewN)), rfl⟩
            · have HFr' := Lib.hid (show FrOk n lp (q + 1) from fun j hj => by
                by_cases hjq : j = q
                · subst hjq
                  rw [HZ.out]
                  show zb < n
                  omega
                · exact HFr.out j (by omega))
              go_wp2_with ((at_builtin; refine wpList_append_new w3 el_int rfl _ _ rfl u22 (8 + q) _ rfl (by repeat (first | exact HO.out | apply own_more | apply own_alloc | apply own_drew | apply own_drewN)) (by repeat (first | exact Ext.refl _ | apply Ext.more | apply Ext.alloc | apply Ext.drew | apply Ext.drewN)) _ _ 1 _ rfl (by simp) rfl rfl (by omega) ?_); intro v' x' HO' keep; clear keep)
              go_roundw
              case rel =>
                have ho : World.ownsRow (more w3 x') w3.heap.size 3 1 v' (8 + (q + 1)) ((othersL base lp (q + 1)).map intC).flatten := by rw [E.out, ← Nat.add_assoc]; exact HO'.out
                exact ⟨_, _, _, ⟨q + 1, by omega, rfl, (by repeat (first | exact Ext.refl _ | apply Ext.more | apply Ext.alloc | apply Ext.drew | apply Ext.drewN)), HFr', ho⟩, rfl, rfl, by go_num⟩
              case measure => simp [intOf]; omega
          · obtain rfl : q = lp.length := by omega
            have hO2 := HO.out
            rw [others_all] at hO2
            have hfrn : ∀ z ∈ lp, z.2 < n := fun z hz => by
              obtain ⟨j, hj, rfl⟩ := List.getElem_of_mem hz
              have := HFr.out j hj
              rw [List.getD_eq_getElem?_getD, List.getElem?_eq_getElem hj] at this
              exact this
            have HFN := Lib.hid hfrn
            obtain ⟨oa, ocap, rfl⟩ := own_form hO2
            have hrd : SlRd (more w3 x) (.slice oa (8 + lp.length) ocap) 1 ((ownsN base 8 ++ lp.map (·.2)).map intCells) := own_rd hO2 (by simp [ownsN]) rfl (fun c hc => by obtain ⟨y, _, rfl⟩ := List.mem_map.1 hc; rfl)
            have HRd := Lib.hid hrd
            have HE4 := Lib.hid (HE3.out.more x)
            have HRF4 := Lib.hid (show RefAt (more w3 x) h hc n gb gc ws from (by repeat (first | exact HRF3.out | apply RefAt.more | apply RefAt.alloc | apply RefAt.drew | apply RefAt.drewN)))
            have HOs4 := Lib.hid (own_ext HOs.out (show Ext w3 (more w3 x) from ⟨x, rfl⟩))
            have HBX4 := Lib.hid (show (more w3 x).heap[xb]? = some (.cells #[.bool wr, .bool ex] 99 (0, 0)) from (by repeat (first | (with_reducible exact HBX3.out) | (with_reducible apply box_more) | (with_reducible apply box_alloc) | (with_reducible apply box_drew) | (with_reducible apply box_drewN))))
            clear hO2 hfrn hrd HO HFr HO1 HE3 HRF3 HOs HBX3 HOl hlt hq
            generalize more w3 x = W4 at *
            go_wp2_with fail
            have HUn := law16_unlike _ HRF4.out HW.out root r0 r1 (ownsN base 8 ++ lp.map (·.2)) _ HRd.out (by simp [ownsN]; omega)
            with_reducible refine HUn.mono ?_
            rintro e w5 ⟨hE5, bb, rfl, hbb⟩
            clear HUn HRd
            have HE5 := Lib.hid (HE4.out.trans hE5)
            have HRF5 := Lib.hid (HRF4.out.kept0 hE5.grow)
            have HOs5 := Lib.hid (own_ext HOs4.out hE5)
            have HBX5 := Lib.hid ((hE5.grow.block _ (Array.getElem?_eq_some_iff.1 HBX4.out).1 (by simp)).trans HBX4.out)
            have HBB := Lib.hid hbb
            clear hE5 hbb HE4 HRF4 HOs4 HBX4
            cases bb with
            | false =>
              clear HRF5 HOs5 HBB
              go_wp2_with fail
              go_ret
              exact ⟨(by repeat (first | exact HE5.out | apply Ext.more | apply Ext.alloc | apply Ext.drew | apply Ext.drewN)), rfl⟩
            | true =>
              obtain ⟨tl, hat, hnd⟩ := HBB.out rfl
              have hpl := merge_behind (wr := wr) (ex := ex) (by omega) HRF5.out.len ⟨⟨r0, r1, p0, p1, f0, f1, a0, a1⟩, hb7, hb8, hp8⟩ hat HWay.out H4.out HPg.out HFN.out hnd s HMs.out
              obtain ⟨hok, hsafe, hwalks⟩ := hpl
              have HSafe := Lib.hid hsafe
              have HWa := Lib.hid hwalks
              have HWU := Lib.hid (WOk_doW _ _ HW.out hok : WOk (doW n ws s))
              clear hat hnd hok hsafe hwalks HBB HWay H4 HPg HFN HMs
              go_wp2_with fail
              refine (ref12_Copy _ HRF5.out (by omega) (by omega)).mono ?_
              rintro e w6 ⟨hE6, h6, hc6, gb6, gc6, rfl, hr6, hh6, hgb6⟩
              have HDo := Lib.hid (ref12_Do w5 w6 hE6 hr6 hh6 hgb6 (own_ext HOs5.out hE6) (by omega))
              clear hE6 hr6 hh6 hgb6
              go_wp2_with fail
              refine HDo.out.mono ?_
              rintro e w7 ⟨rfl, hE7, _, gb7, gc7, hr7, _⟩
              have HR7 := Lib.hid hr7
              have HR70 := Lib.hid (HRF5.out.kept0 hE7.grow)
              have HE7 := Lib.hid (HE5.out.trans hE7)
              have HOs7 := Lib.hid (own_ext HOs5.out hE7)
              have HBX7 := Lib.hid ((hE7.grow.block _ (Array.getElem?_eq_some_iff.1 HBX5.out).1 (by simp)).trans HBX5.out)
              clear hE7 hr7 HDo HOs5 HRF5 HE5 HBX5
              go_wp2_with fail
              refine (law16_watched _ HR70.out HW.out (by omega) (by omega) HOs7.out (by omega) HSafe.out).mono ?_
              rintro e w8 ⟨hE8, rfl⟩
              have HR8 := Lib.hid (HR7.out.kept0 hE8.grow)
              have HR80 := Lib.hid (HR70.out.kept0 hE8.grow)
              have HE8 := Lib.hid (HE7.out.trans hE8)
              have hbx8 := (hE8.grow.block _ (Array.getElem?_eq_some_iff.1 HBX7.out).1 (by simp)).trans HBX7.out
              obtain ⟨d0, d1, df⟩ := cells2u hbx8
              have hbl8 : xb < w8.heap.size := (Array.getElem?_eq_some_iff.1 hbx8).1
              obtain ⟨k1, k2, k3⟩ := lt_facts hbl8
              clear hE8 HR7 HR70 HE7 HOs7 HSafe HBX7 hbx8
              generalize doW n ws s = us at *
              go_wp2_with fail
              go_loopw [27, 28, 29, 30, 31, 32, 33] (fun i _ _ _ _ _ _ wr => ∃ k : Nat, k ≤ 4096 ∧ i = .int .i64 k ∧ Ext w8 wr) (fun i _ _ _ _ _ _ _ => 4096 - (intOf i).toNat)
              case atStart => exact ⟨0, Nat.zero_le _, rfl, Ext.refl _⟩
              case round =>
                obtain ⟨k, hk, rfl, hEk⟩ := hrel
                have HEk := Lib.hid hEk
                clear hEk
                by_cases hlt : k < 4096
                · obtain ⟨xk, rfl⟩ := HEk.out
                  obtain ⟨fx, fy, hx, hy, hout, hin⟩ := HWa.out k (by omega) (by omega)
                  have HX := Lib.hid (fun w hr => ref04_Walk (w := w) (h := h) (hc := hc) (gb := gb) (gc := gc) hr HW.out root k (by omega) (by omega) _ hx)
                  have HY := Lib.hid (fun w hr => ref04_Walk (w := w) (h := h6) (hc := hc6) (gb := gb7) (gc := gc7) hr HWU.out root k (by omega) (by omega) _ hy)
                  clear hx hy
                  by_cases hkp : (k : Int) / 8 = page / 8
                  · obtain ⟨e1, e2, e3, e4, e5, e6⟩ := hin hkp
                    obtain ⟨F0, F1, F2, F3, F4, F5, F6, F7, F8, F9, F10⟩ := fx
                    obtain ⟨Y0, Y1, Y2, Y3, Y4, Y5, Y6, Y7, Y8, Y9, Y10⟩ := fy
                    dsimp only at e1 e2 e3 e4 e5 e6
                    have HVal := Lib.hid e6
                    have HFx := Lib.hid e5
                    subst e1 e3 e4
                    have hkb : ((k : Int) / 8 == page / 8) = true := by simpa using hkp
                    have hkm : (k : Int).tmod 8 = (k : Int) % 8 := Int.tmod_eq_emod_of_nonneg (by omega)
                    have hy0 : 0 ≤ Y4 := by omega
                    have hy1 : Y4 < n := by omega
                    have HEy := Lib.hid e2
                    clear hin hout hkp e5 e6 e2
                    go_wp2_with fail
                    refine (HX.out _ (by repeat (first | exact HR80.out | apply RefAt.more | apply RefAt.alloc | apply RefAt.drew | apply RefAt.drewN))).mono ?_
                    rintro e w' ⟨⟨ex1, rfl⟩, rfl⟩
                    rw [refV_s]
                    go_wp2_with fail
                    refine (HY.out _ (by repeat (first | exact HR8.out | apply RefAt.more | apply RefAt.alloc | apply RefAt.drew | apply RefAt.drewN))).mono ?_
                    rintro e w' ⟨⟨ex2, rfl⟩, rfl⟩
                    rw [refV_s]
                    obtain ⟨C, rfl⟩ := Int.eq_ofNat_of_zero_le hy0
                    have hC : C < n := by omega
                    have e2' : base + (k : Int) % 8 = (C : Int) := HEy.out.symm
                    have hwy : IntKind.i64.wrap (C : Int) = (C : Int) := by rw [i64_wraps] <;> omega
                    have hwk : IntKind.i64.wrap ((k : Int) % 8) = (k : Int) % 8 := by rw [i64_wraps] <;> omega
                    have i4 : (C : Int) < n := by omega
                    clear HEy
                    have y0 := HR8.out.hcell C hC
                    have y2 := HR8.out.cc C hC
                    have y3 := HR8.out.nc
                    have lt1 := HR8.out.lth
                    have lt2 := HR8.out.ltg C hC
                    obtain ⟨u1, u2, u3⟩ := lt_facts lt1
                    obtain ⟨u4, u5, u6⟩ := lt_facts lt2
                    by_cases hF3 : F0 = 3
                    · subst hF3
                      obtain ⟨q0, q1⟩ := HFx.out rfl
                      obtain ⟨A, rfl⟩ := Int.eq_ofNat_of_zero_le q0
                      have hA : A < n := by omega
                      have i5 : (A : Int) < n := by omega
                      have z0 := HR80.out.hcell A hA
                      have z2 := HR80.out.cc A hA
                      have z3 := HR80.out.nc
                      have lt3 := HR80.out.lth
                      have lt4 := HR80.out.ltg A hA
                      obtain ⟨u7, u8, u9⟩ := lt_facts lt3
                      obtain ⟨u10, u11, u12⟩ := lt_facts lt4
                      go_wp2_with fail
                      go_loopw [32, 33] (fun i _ wr => ∃ p : Nat, p ≤ 8 ∧ i = .int .i64 p ∧ wr = ((more ((more (more w8 xk) ex1).alloc (.cells #[.int .i64 3, .int .i64 F1, .int .i64 F2, .int .i64 F3, .int .i64 A, .int .i64 F5, .int .i64 F6, .int .i64 F7, .bool F8, .bool F9, .bool F10] 80)) ex2).alloc (.cells #[.int .i64 2, .int .i64 Y1, .int .i64 Y2, .int .i64 Y3, .int .i64 C, .int .i64 Y5, .int .i64 Y6, .int .i64 Y7, .bool Y8, .bool Y9, .bool Y10] 80))) (fun i _ _ => 8 - (intOf i).toNat)
                      case atStart => exact ⟨0, by omega, rfl, rfl⟩
                      case round =>
                        obtain ⟨p, hp, rfl, rfl⟩ := hrel
                        by_cases hpl : p < 8
                        · have y1 := HR8.out.cell C p hC hpl
                          have z1 := HR80.out.cell A p hA hpl
                          have hv : us.getD (C * 8 + p) 0 = ws.getD (A * 8 + p) 0 := by have h_ := HVal.out p hpl; simpa only [if_true, eq_self_iff_true, Int.toNat_natCast] using h_
                          rw [hv] at y1
                          have i1 : (p : Int) < 8 := by omega
                          have i3 : 0 ≤ (p : Int) := by omega
                          clear hv
                          generalize ws.getD (A * 8 + p) 0 = X at *
                          go_wp2_with fail
                          go_roundw
                          case rel => exact ⟨p + 1, by omega, by go_num, trivial⟩
                          case measure => simp [intOf]; omega
                        · obtain rfl : p = 8 := by omega
                          go_wp2_with fail
                          go_roundw
                          case rel => exact ⟨k + 1, by omega, by go_num, (by repeat (first | exact Ext.refl _ | apply Ext.more | apply Ext.alloc | apply Ext.drew | apply Ext.drewN))⟩
                          case measure => simp [intOf]; omega
                    · have hF3b : (F0 == (3 : Int)) = false := by simpa using hF3
                      go_wp2_with fail
                      go_loopw [32, 33] (fun i _ wr => ∃ p : Nat, p ≤ 8 ∧ i = .int .i64 p ∧ wr = ((more ((more (more w8 xk) ex1).alloc (.cells #[.int .i64 F0, .int .i64 F1, .int .i64 F2, .int .i64 F3, .int .i64 F4, .int .i64 F5, .int .i64 F6, .int .i64 F7, .bool F8, .bool F9, .bool F10] 80)) ex2).alloc (.cells #[.int .i64 2, .int .i64 Y1, .int .i64 Y2, .int .i64 Y3, .int .i64 C, .int .i64 Y5, .int .i64 Y6, .int .i64 Y7, .bool Y8, .bool Y9, .bool Y10] 80))) (fun i _ _ => 8 - (intOf i).toNat)
                      case atStart => exact ⟨0, by omega, rfl, rfl⟩
                      case round =>
                        obtain ⟨p, hp, rfl, rfl⟩ := hrel
                        by_cases hpl : p < 8
                        · have y1 := HR8.out.cell C p hC hpl
                          have hv : us.getD (C * 8 + p) 0 = 0 := by have h_ := HVal.out p hpl; simpa only [hF3, if_false, Int.toNat_natCast] using h_
                          rw [hv] at y1
                          have i1 : (p : Int) < 8 := by omega
                          have i3 : 0 ≤ (p : Int) := by omega
                          clear hv
                          go_wp2_with fail
                          go_roundw
                          case rel => exact ⟨p + 1, by omega, by go_num, trivial⟩
                          case measure => simp [intOf]; omega
                        · obtain rfl : p = 8 := by omega
                          go_wp2_with fail
                          go_roundw
                          case rel => exact ⟨k + 1, by omega, by go_num, (by repeat (first | exact Ext.refl _ | apply Ext.more | apply Ext.alloc | apply Ext.drew | apply Ext.drewN))⟩
                          case measure => simp [intOf]; omega
                  · have he := hout hkp
                    subst he
                    obtain ⟨F0, F1, F2, F3, F4, F5, F6, F7, F8, F9, F10⟩ := fy
                    have hkb : ((k : Int) / 8 == page / 8) = false := by simpa using hkp
                    clear hin hout hkp
                    go_wp2_with fail
                    refine (HX.out _ (by repeat (first | exact HR80.out | apply RefAt.more | apply RefAt.alloc | apply RefAt.drew | apply RefAt.drewN))).mono ?_
                    rintro e w' ⟨⟨ex1, rfl⟩, rfl⟩
                    rw [refV_s]
                    go_wp2_with fail
                    refine (HY.out _ (by repeat (first | exact HR8.out | apply RefAt.more | apply RefAt.alloc | apply RefAt.drew | apply RefAt.drewN))).mono ?_
                    rintro e w' ⟨⟨ex2, rfl⟩, rfl⟩
                    rw [refV_s]
                    go_wp2_with fail
                    go_roundw
                    case rel => exact ⟨k + 1, by omega, by go_num, (by repeat (first | exact Ext.refl _ | apply Ext.more | apply Ext.alloc | apply Ext.drew | apply Ext.drewN))⟩
                    case measure => simp [intOf]; omega
                · obtain rfl : k = 4096 := by omega
                  obtain ⟨xk, rfl⟩ := HEk.out
                  have HMay := Lib.hid (fun w => (show Calls Try.prog 58 #[.int .i64 2, .agg #[.int .i64 2, .int .i64 base, .bool false, .bool false, .bool false, .bool false, .int .i64 0]] w fun e w' => Ext w w' ∧ e = .returned (.bool true) from by have := ref02_May w 2 ⟨2, base, false, false, false, false, 0⟩; rw [show okD 2 ⟨2, base, false, false, false, false, 0⟩ = true from okD_blk (wr := false) (ex := false) f0 (by omega) hb8] at this; exact this))
                  go_wp2_with fail
                  refine (HMay.out _).mono ?_
                  rintro e w' ⟨⟨ex9, rfl⟩, rfl⟩
                  go_wp2_with fail
                  go_ret
                  exact ⟨(by repeat (first | exact HE8.out | apply Ext.more | apply Ext.alloc | apply Ext.drew | apply Ext.drewN)), rfl⟩

end Go.Proofs.Ytapeoeakiphfpaa
