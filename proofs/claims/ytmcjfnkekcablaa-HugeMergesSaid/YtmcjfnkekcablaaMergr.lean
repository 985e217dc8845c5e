/- The contract of the document's answer paviorref16.Merge. -/
import Derived.Test.YtmcjfnkekcablaaMergh
namespace Go.Proofs.Ytmcjfnkekcablaa
open Go.RowKit
set_option linter.unusedVariables false
set_option linter.unusedSimpArgs false
attribute [local go_sem] setCell_drewN alloc_drewN lt_moreE le_moreE lt_moreK le_moreK cell_more frozen_more set_more drew_more drewN_more

/-- The frame of a page, among pages; below 0: it has none. -/
def fromL (l : List (Int × Int)) (p : Int) : Int := l.foldl (fun acc z => if z.1 = p then z.2 else acc) (-1)
theorem fromL_snoc (l : List (Int × Int)) (z : Int × Int) (p : Int) : fromL (l ++ [z]) p = if z.1 = p then z.2 else fromL l p := by unfold fromL; rw [List.foldl_append]; rfl
theorem from_pgs {ws : List Int} {t first : Int} {q : Nat} (hq : q < 8) : ∀ (j i : Nat) (acc : Int), i + j = 8 → (pgs ws t first i).foldl (fun acc z => if z.1 = first + (q : Int) then z.2 else acc) acc = if i ≤ q ∧ (wordD ws t q).fKind = 3 then (wordD ws t q).fFrame else acc := by
  intro j
  induction j with
  | zero =>
    intro i acc hi
    obtain rfl : i = 8 := by omega
    rw [pgs_end, if_neg (by omega)]; rfl
  | succ j ih =>
    intro i acc hi
    by_cases h3 : (wordD ws t i).fKind = 3
    · rw [pgs_yes (by omega) h3, List.foldl_cons, ih _ _ (by omega)]
      dsimp only
      by_cases e : i = q
      · subst e
        rw [if_neg (by omega), if_pos rfl, if_pos ⟨Nat.le_refl _, h3⟩]
      · rw [if_neg (show ¬ (first + (i : Int) = first + (q : Int)) by omega)]
        by_cases hc : i ≤ q ∧ (wordD ws t q).fKind = 3
        · rw [if_pos hc, if_pos ⟨by omega, hc.2⟩]
        · rw [if_neg hc, if_neg (by intro h; exact hc ⟨by omega, h.2⟩)]
    · rw [pgs_no (by omega) h3, ih _ _ (by omega)]
      by_cases e : i = q
      · subst e
        rw [if_neg (by omega), if_neg (by intro h; exact h3 h.2)]
      · by_cases hc : i ≤ q ∧ (wordD ws t q).fKind = 3
        · rw [if_pos hc, if_pos ⟨by omega, hc.2⟩]
        · rw [if_neg hc, if_neg (by intro h; exact hc ⟨by omega, h.2⟩)]
theorem fromL_pgs {ws : List Int} {t first : Int} {q : Nat} (hq : q < 8) : fromL (pgs ws t first 0) (first + q) = if (wordD ws t q).fKind = 3 then (wordD ws t q).fFrame else -1 := by
  unfold fromL
  rw [from_pgs hq 8 0 _ (by omega)]
  simp

def wipeL (asid t first : Int) (l : List (Int × Int)) : List Step := l.map fun z => wr0 asid 3 t (z.1 - first) z.1 0
def sayL (asid : Int) (l : List (Int × Int)) : List Step := l.map fun z => tellS asid z.1
theorem wipeL_snoc (asid t first : Int) (l : List (Int × Int)) (z : Int × Int) : CS (wipeL asid t first (l ++ [z])) = CS (wipeL asid t first l) ++ (wr0 asid 3 t (z.1 - first) z.1 0).cells := by unfold wipeL; rw [List.map_append]; exact CS_snoc _ _
theorem sayL_snoc (asid : Int) (l : List (Int × Int)) (z : Int × Int) : CS (sayL asid (l ++ [z])) = CS (sayL asid l) ++ (tellS asid z.1).cells := by unfold sayL; rw [List.map_append]; exact CS_snoc _ _
theorem mergeRes_no {ws : List Int} {asid page base : Int} {wr ex : Bool} {s : List (Int × Int)} {d : Desc} (h4 : ¬ s.length < 4) (h : pagesN ws (s.getD 3 (0, 0)).1 page 8 = none) : mergeRes ws asid page base wr ex (some (s, d)) = .no 7 := by
  unfold mergeRes; dsimp only; rw [if_neg h4, h]
theorem mergeRes_yes {ws : List Int} {asid page base : Int} {wr ex : Bool} {s : List (Int × Int)} {d : Desc} {l : List (Int × Int)} (h4 : ¬ s.length < 4) (h : pagesN ws (s.getD 3 (0, 0)).1 page 8 = some l) : mergeRes ws asid page base wr ex (some (s, d)) = .yes (mergeS ws asid page base wr ex (s.getD 3 (0, 0)).1 (s.getD 2 (0, 0)).1 l) (s.getD 3 (0, 0)).1 l := by
  unfold mergeRes; dsimp only; rw [if_neg h4, h]

set_option maxRecDepth 100000 in
set_option maxHeartbeats 8000000 in
theorem ref16_Merge (w : World) {h hc n : Nat} {gb gc : Nat → Nat} {ws : List Int} (hr0 : RefAt w h hc n gb gc ws) (hn : n ≤ 512) (hw : WOk ws) (root asid page base : Int) (wr ex : Bool) (hM : MayM n root asid page base) (r : Option (List (Int × Int) × Desc)) (hr : wayAt ws n page 4 0 root = r) :
    Calls Try.prog 35 #[.slice (some ⟨h, 0, none⟩) n hc, .int .i64 root, .int .i64 asid, .int .i64 page, .int .i64 base, .agg #[.bool wr, .bool ex]] w fun e w' => Ext w w' ∧ MergeRet w.heap.size w' (.int .i64 0) (mergeRes ws asid page base wr ex r) e (fun k => .int .i64 k) := by
  obtain ⟨hP, h7, b2, p2⟩ := hM
  obtain ⟨r0, r1, p0, p1, b0, b1, a0, a1⟩ := hP
  have HN := Lib.hid (fun w hr0 => ref12_Need w (h := h) (hc := hc) (n := n) (gb := gb) (gc := gc) hr0 hw root page 3 r0 r1 p0 p1 (by omega) r hr)
  have HD := Lib.hid (fun w hr0 => ref12_Way w (h := h) (hc := hc) (n := n) (gb := gb) (gc := gc) hr0 hw root page 3 r0 r1 p0 p1 (by omega))
  rw [show wayAt ws n page (3 + 1) 0 root = r from hr] at HD
  have HRF := Lib.hid hr0
  have HW := Lib.hid hw
  have HR := Lib.hid hr
  have hnc := hr0.nc
  clear hr0 hr hw
  cases r with
  | none =>
    go_enter Try.func35, Try.ntmps35
    go_wp2_with fail
    refine (HN.out _ (by repeat (first | exact HRF.out | apply RefAt.more | apply RefAt.alloc | apply RefAt.drew | apply RefAt.drewN))).mono ?_
    rintro e w' ⟨⟨x1, rfl⟩, rfl⟩
    rw [show needP 3 none = (0, 2) from rfl]
    dsimp only
    go_wp2_with fail
    refine bodyPost_ret (results_tmp4 rfl _ _ _) rfl ?_
    exact ⟨(by repeat (first | exact Ext.refl _ | apply Ext.more | apply Ext.alloc | apply Ext.drew | apply Ext.drewN)), rfl⟩
  | some r =>
    obtain ⟨s, d⟩ := r
    obtain ⟨s0, s1⟩ := wayAt_len 4 0 root s d HR.out
    by_cases h4 : s.length < 4
    · have HV := Lib.hid (show mergeRes ws asid page base wr ex (some (s, d)) = .no 7 from by unfold mergeRes; dsimp only; rw [if_pos h4])
      by_cases hk : d.fKind = 0
      · have HNP := Lib.hid (show needP 3 (some (s, d)) = (((4 - s.length : Nat) : Int), 0) from by simp only [needP]; rw [if_neg (by omega)]; congr 1; omega)
        obtain ⟨k, hk2⟩ : ∃ k, 4 - s.length = k := ⟨_, rfl⟩
        have hk0 : 0 < k := by omega
        rw [hk2] at HNP
        clear h4 hk hk2
        go_enter Try.func35, Try.ntmps35
        go_wp2_with fail
        refine (HN.out _ (by repeat (first | exact HRF.out | apply RefAt.more | apply RefAt.alloc | apply RefAt.drew | apply RefAt.drewN))).mono ?_
        rintro e w' ⟨⟨x1, rfl⟩, rfl⟩
        rw [HNP.out]
        dsimp only
        go_wp2_with fail
        refine bodyPost_ret (results_tmp4 rfl _ _ _) rfl ?_
        exact ⟨(by repeat (first | exact Ext.refl _ | apply Ext.more | apply Ext.alloc | apply Ext.drew | apply Ext.drewN)), by rw [HV.out]; rfl⟩
      · have HNP := Lib.hid (show needP 3 (some (s, d)) = (0, 7) from by simp only [needP]; rw [if_pos ⟨by omega, hk⟩])
        clear h4 hk
        go_enter Try.func35, Try.ntmps35
        go_wp2_with fail
        refine (HN.out _ (by repeat (first | exact HRF.out | apply RefAt.more | apply RefAt.alloc | apply RefAt.drew | apply RefAt.drewN))).mono ?_
        rintro e w' ⟨⟨x1, rfl⟩, rfl⟩
        rw [HNP.out]
        dsimp only
        go_wp2_with fail
        refine bodyPost_ret (results_tmp4 rfl _ _ _) rfl ?_
        exact ⟨(by repeat (first | exact Ext.refl _ | apply Ext.more | apply Ext.alloc | apply Ext.drew | apply Ext.drewN)), by rw [HV.out]; rfl⟩
    · have hl4 : s.length = 4 := by omega
      have HNP := Lib.hid (show needP 3 (some (s, d)) = (0, 0) from by simp only [needP]; rw [if_neg (by omega), hl4]; rfl)
      have hz3 : s[3]? = some (s.getD 3 (0, 0)) := by rw [List.getD_eq_getElem?_getD, List.getElem?_eq_getElem (by omega)]; rfl
      have hz2 : s[2]? = some (s.getD 2 (0, 0)) := by rw [List.getD_eq_getElem?_getD, List.getElem?_eq_getElem (by omega)]; rfl
      obtain ⟨t0, t1⟩ := way_in' 4 0 root s d r0 r1 HR.out _ (List.mem_of_getElem? hz3)
      have hVn := fun h => mergeRes_no (asid := asid) (base := base) (wr := wr) (ex := ex) (d := d) h4 (ws := ws) (page := page) h
      have hVy := fun l h => mergeRes_yes (asid := asid) (base := base) (wr := wr) (ex := ex) (d := d) h4 (ws := ws) (page := page) (l := l) h
      generalize s.getD 3 (0, 0) = z3 at *
      generalize s.getD 2 (0, 0) = z2 at *
      obtain ⟨t, tp⟩ := z3
      obtain ⟨tb, pl⟩ := z2
      dsimp only at t0 t1 hVn hVy
      have HVn := Lib.hid hVn
      have HVy := Lib.hid hVy
      have HZ3 := Lib.hid hz3
      have HZ2 := Lib.hid hz2
      have hls4 : 4 ≤ s.length := by omega
      obtain ⟨T, rfl⟩ := Int.eq_ofNat_of_zero_le t0
      clear hz3 hz2 h4 hVn hVy hl4
      obtain ⟨dk, df, dw, de, dsn, dfo, dso⟩ := d
      go_enter Try.func35, Try.ntmps35
      go_wp2_with fail
      refine (HN.out _ (by repeat (first | exact HRF.out | apply RefAt.more | apply RefAt.alloc | apply RefAt.drew | apply RefAt.drewN))).mono ?_
      rintro e w' ⟨⟨x1, rfl⟩, rfl⟩
      rw [HNP.out]
      dsimp only
      go_wp2_with fail
      refine (HD.out _ (by repeat (first | exact HRF.out | apply RefAt.more | apply RefAt.alloc | apply RefAt.drew | apply RefAt.drewN))).mono ?_
      rintro e w' ⟨⟨x2, rfl⟩, wa, wcap, rfl, hO⟩
      have hoc := own_cap hO
      have hm' : wcap ≤ 9223372036854775807 := by have := hoc.2.2; unfold maxLen at this; exact this
      have hsc := hoc.2.1
      obtain ⟨wg, rfl, _, hwg, _, hwx, _⟩ := own_at hO (by omega)
      have z3 := hwx _ _ (flat_one (fun s : Int × Int => Value.int .i64 s.1) s _ _ HZ3.out)
      have z2 := hwx _ _ (flat_one (fun s : Int × Int => Value.int .i64 s.1) s _ _ HZ2.out)
      dsimp only at z3 z2
      clear hO hoc hwx HZ3 HZ2 HD HN
      go_wp2_with fail
      obtain ⟨W0, hW0⟩ : ∃ W0, (more (more (w.alloc (.cells #[.bool wr, .bool ex] 53)) x1) x2).alloc (.cells #[.int .i64 dk, .int .i64 df, .bool dw, .bool de, .bool dsn, .bool dfo, .int .i64 dso] 94) = W0 := ⟨_, rfl⟩
      have HE0 := Lib.hid (show Ext w W0 from hW0 ▸ (show Ext w ((more (more (w.alloc (.cells #[.bool wr, .bool ex] 53)) x1) x2).alloc (.cells #[.int .i64 dk, .int .i64 df, .bool dw, .bool de, .bool dsn, .bool dfo, .int .i64 dso] 94)) from (by repeat (first | exact Ext.refl _ | apply Ext.more | apply Ext.alloc | apply Ext.drew | apply Ext.drewN))))
      have y2 : W0.cell? ⟨wg, 2, none⟩ = some (.int .i64 tb) := by rw [← hW0]; exact (World.cell?_of_block (heap_alloc_lt _ _ hwg)).trans z2
      have hwg0 : wg < W0.heap.size := by rw [← hW0]; simp; omega
      have hBr : W0.heap[w.heap.size]? = some (.cells #[.bool wr, .bool ex] 53 (0, 0)) := by rw [← hW0]; exact (by repeat (first | (with_reducible exact heap_alloc_new _ _) | (with_reducible apply box_more) | (with_reducible apply box_alloc) | (with_reducible apply box_drew) | (with_reducible apply box_drewN)))
      obtain ⟨g0, g1, gf⟩ := cells2u hBr
      have hbr : w.heap.size < W0.heap.size := (Array.getElem?_eq_some_iff.1 hBr).1
      rw [hW0]
      generalize (more (more (w.alloc (.cells #[.bool wr, .bool ex] 53)) x1) x2).heap.size = db at *
      clear hW0 hBr z2 z3 hwg
      have hRF := HRF.out.kept0 HE0.out.grow
      have hT : T < n := by omega
      have q1 := hRF.hcell T hT
      have q2 := fun (q : Nat) (hq : q < 8) => hRF.cell T q hT hq
      have q3 := hRF.lth
      have q4 := hRF.ltg T hT
      have q5 := hRF.cc T hT
      generalize gb T = gt at *
      generalize gc T = ct at *
      have HC := Lib.hid q2
      obtain ⟨q31, q32, q33⟩ := lt_facts q3
      obtain ⟨q41, q42, q43⟩ := lt_facts q4
      clear q2 hRF HRF
      go_loopw [22, 23] (fun o i wr => ∃ (q : Nat) (acc : List (Int × Int)), q ≤ 8 ∧ acc.length ≤ q ∧ i = .int .i64 q ∧ Ext W0 wr ∧ Hid (pagesN ws T page q = some acc) ∧ Hid (wr.ownsRow W0.heap.size 69 2 o acc.length (acc.map slotC).flatten)) (fun _ i _ => 8 - (intOf i).toNat)
      case atStart => exact ⟨0, [], by omega, by simp, rfl, (by repeat (first | exact Ext.refl _ | apply Ext.more | apply Ext.alloc | apply Ext.drew | apply Ext.drewN)), rfl, World.ownsRow_nil _ _ _ _⟩
      case round =>
        obtain ⟨q, acc, hq, hac, rfl, ⟨x, rfl⟩, HP, HO⟩ := hrel
        by_cases hlt : q < 8
        · have hx := HW.out.getD (T * 8 + q)
          have y0 := HC.out q hlt
          have HS := Lib.hid (pagesN_step HP.out rfl)
          unfold wordD at HS
          rw [show ((T : Nat) : Int).toNat = T from rfl] at HS
          generalize ws.getD (T * 8 + q) 0 = X at *
          obtain ⟨x0, x1⟩ := hx
          have HDc := Lib.hid (fun w => ref02_Decode w 3 X x0 x1)
          generalize decD 3 X = d at *
          obtain ⟨d0, d1, d2, d3, d4, d5, d6⟩ := d
          dsimp only at HS
          by_cases h0 : d0 = 0
          · have HS' := Lib.hid (HS.out.trans (if_pos h0))
            subst h0
            clear HS HP
            go_wp2_with fail
            refine (HDc.out _).mono ?_
            rintro e w' ⟨⟨ex2, rfl⟩, rfl⟩
            go_wp2_with fail
            go_roundw
            case rel => exact ⟨q + 1, acc, by omega, by omega, by go_num, (by repeat (first | exact Ext.refl _ | apply Ext.more | apply Ext.alloc | apply Ext.drew | apply Ext.drewN)), HS', (by repeat (first | exact HO.out | apply own_more | apply own_alloc | apply own_drew | apply own_drewN))⟩
            case measure => simp [intOf]; omega
          · have b0 : (d0 != 0) = true := by simpa using h0
            by_cases h3 : d0 = 3
            · have HS' := Lib.hid (HS.out.trans ((if_neg h0).trans (if_pos h3)))
              subst h3
              clear HS HP h0
              go_wp2_with fail
              refine (HDc.out _).mono ?_
              rintro e w' ⟨⟨ex2, rfl⟩, rfl⟩
              go_wp2_with ((at_builtin; refine wpList_append_new W0 el_Mapped rfl _ _ rfl u22 acc.length _ rfl (by repeat (first | exact HO.out | apply own_more | apply own_alloc | apply own_drew | apply own_drewN)) (by repeat (first | exact Ext.refl _ | apply Ext.more | apply Ext.alloc | apply Ext.drew | apply Ext.drewN)) _ _ 1 _ rfl (by simp) rfl rfl (by omega) ?_); intro v' x' HO' keep; clear keep)
              go_roundw
              case rel => exact ⟨q + 1, acc ++ [(page + q, d1)], by omega, by simp only [List.length_append, List.length_cons, List.length_nil]; omega, by go_num, (by repeat (first | exact Ext.refl _ | apply Ext.more | apply Ext.alloc | apply Ext.drew | apply Ext.drewN)), HS', (by show World.ownsRow _ _ _ _ _ _ _; simpa [slotC] using HO'.out)⟩
              case measure => simp [intOf]; omega
            · have b3 : (d0 == 3) = false := by simpa using h3
              have HS' := Lib.hid (HVn.out (by
                have := pagesN_none (HS.out.trans ((if_neg h0).trans (if_neg h3))) (7 - q)
                rwa [show q + 1 + (7 - q) = 8 by omega] at this))
              clear HS HP h0 h3
              go_wp2_with fail
              refine (HDc.out _).mono ?_
              rintro e w' ⟨⟨ex2, rfl⟩, rfl⟩
              go_wp2_with fail
              refine bodyPost_ret (results_tmp4 rfl _ _ _) rfl ?_
              exact ⟨(by repeat (first | exact HE0.out | apply Ext.more | apply Ext.alloc | apply Ext.drew | apply Ext.drewN)), by rw [HS'.out]; rfl⟩
        · obtain rfl : q = 8 := by omega
          have HV := Lib.hid (HVy.out _ HP.out)
          clear HVy HVn
          go_wp2_with fail
          obtain ⟨hlp, hkk⟩ := pagesN_pgs HP.out
          obtain ⟨la, lcap, rfl⟩ := own_form HO.out
          have hO := HO.out
          have hlc := own_cap hO
          have hlcm : lcap ≤ 9223372036854775807 := by have := hlc.2.2; unfold maxLen at this; exact this
          have hlc1 := hlc.2.1
          have hA := own_at hO
          have hE1 : Ext W0 (more W0 x) := ⟨x, rfl⟩
          have hB0 := HE0.out.size
          have y2' := hE1.grow.cell y2 (by simp)
          have g0' := hE1.grow.cell g0 (by simp)
          have g1' := hE1.grow.cell g1 (by simp)
          have hs1 := hE1.size
          have hwg1 : wg < (more W0 x).heap.size := by omega
          have hbr1 : w.heap.size < (more W0 x).heap.size := by omega
          have HE1 := Lib.hid (HE0.out.trans hE1)
          have HA := Lib.hid hA
          have HOl := Lib.hid hO
          have HKK := Lib.hid hkk
          have HPg := Lib.hid (fun z (hz : z ∈ acc) => (show ∃ j : Nat, j < 8 ∧ z.1 = page + (j : Int) from by
            rw [hlp] at hz
            obtain ⟨j, _, h2, _, rfl⟩ := pgs_in z hz
            exact ⟨j, h2, rfl⟩))
          have HFr := Lib.hid (fun (q : Nat) (hq : q < 8) => (show fromL acc (page + q) = if (wordD ws T q).fKind = 3 then (wordD ws T q).fFrame else -1 from by rw [hlp]; exact fromL_pgs hq))
          clear hO hlc hA hE1 hs1 HO HP hlp hkk y2 g0 g1 gf hwg0 hbr HE0 q1 q3 q4 q5 q31 q32 q33 q41 q42 q43 HC HW hlt hq
          generalize W0.heap.size = B0 at *
          generalize more W0 x = W1 at *
          go_loopw [25, 26] (fun o i wr => ∃ k : Nat, k ≤ acc.length ∧ i = .int .i64 k ∧ Ext W1 wr ∧ Hid (wr.ownsRow W1.heap.size 49 10 o k (CS (wipeL asid T page (acc.take k))))) (fun _ i _ => acc.length - (intOf i).toNat)
          case atStart => exact ⟨0, by omega, rfl, Ext.refl _, World.ownsRow_nil _ _ _ _⟩
          case round =>
            obtain ⟨k, hk, rfl, ⟨x3, rfl⟩, HO⟩ := hrel
            by_cases hlt : k < acc.length
            · have hz : acc[k]? = some acc[k] := List.getElem?_eq_getElem hlt
              obtain ⟨lg, rfl, _, hlg, _, hlx, _⟩ := HA.out (by omega)
              obtain ⟨k1, k2, k3⟩ := lt_facts hlg
              obtain ⟨z0, z1⟩ := slot_at hlx k _ hz
              obtain ⟨j, hj, hzj⟩ := HPg.out _ (List.mem_of_getElem? hz)
              have E := Lib.hid (show CS (wipeL asid T page (acc.take (k + 1))) = CS (wipeL asid T page (acc.take k)) ++ (wr0 asid 3 T (acc[k].1 - page) acc[k].1 0).cells from by rw [take_snoc hz]; exact wipeL_snoc _ _ _ _ _)
              generalize acc[k] = z at *
              obtain ⟨za, zb⟩ := z
              dsimp only at z0 z1 E hzj
              have hza0 : 0 ≤ za - page := by omega
              have hza1 : za - page < 8 := by omega
              have hwr : IntKind.i64.wrap (za - page) = za - page := i64_wraps _ (by omega) (by omega)
              have hk0 : (0 : Int) ≤ (k : Int) := by omega
              have hk1 : (k : Int) < (acc.length : Int) := by omega
              clear hz hlx hzj
              go_wp2_with fail
              go_region_held3 (fun w' => w'.cell? ⟨lg, k * 2, none⟩ = some (.int .i64 za)) (first | (go_simp; done) | (dsimp only; go_simp))
                ((first
                  | (go_at_call 70; refine (ref16_step _ asid 3 T (za - page) za 0).mono ?_; rintro e w' ⟨⟨ex4, rfl⟩, rfl⟩)
                  | (refine step_append_new W1 el_Step (by rfl) _ _ (by rfl) u25 k _ (by rfl) (by repeat (first | exact HO.out | apply own_more | apply own_alloc | apply own_drew | apply own_drewN)) (by repeat (first | exact Ext.refl _ | apply Ext.more | apply Ext.alloc | apply Ext.drew | apply Ext.drewN)) _ _ 1 _ (by rfl) (by repeat (first | (with_reducible exact heap_alloc_new _ _) | (with_reducible apply box_more) | (with_reducible apply box_alloc) | (with_reducible apply box_drew) | (with_reducible apply box_drewN))) rfl rfl (by omega) ?_; intro v' x' HO' keep; clear keep)))
              all_goals
                go_wp2_with fail
                go_roundw
                case rel => exact ⟨k + 1, by omega, by go_num, (by repeat (first | exact Ext.refl _ | apply Ext.more | apply Ext.alloc | apply Ext.drew | apply Ext.drewN)), by
                  show World.ownsRow _ _ _ _ _ _ _
                  rw [E.out]
                  have HO2 : (more W1 x').ownsRow W1.heap.size 49 10 v' (k + 1) (CS (wipeL asid T page (acc.take k)) ++ (wr0 asid 3 T (za - page) za 0).cells) := HO'.out
                  clear HO' E HR HA
                  repeat (first | (with_reducible exact HO2) | (with_reducible apply own_more) | (with_reducible apply own_alloc) | (with_reducible apply own_drewN) | (with_reducible apply own_drew))⟩
                case measure => simp [intOf]; omega
            · obtain rfl : k = acc.length := by omega
              have hO := HO.out
              rw [List.take_length] at hO
              have HO1 := Lib.hid hO
              clear hO HO hlt hk
              go_wp2_with fail
              go_loopw [25, 27] (fun o i wr => ∃ k : Nat, k ≤ acc.length ∧ i = .int .i64 k ∧ Ext W1 wr ∧ Hid (wr.ownsRow W1.heap.size 49 10 o (acc.length + k) (CS (wipeL asid T page acc) ++ CS (sayL asid (acc.take k))))) (fun _ i _ => acc.length - (intOf i).toNat)
              case atStart => exact ⟨0, by omega, rfl, (by repeat (first | exact Ext.refl _ | apply Ext.more | apply Ext.alloc | apply Ext.drew | apply Ext.drewN)), by show World.ownsRow _ _ _ _ _ _ _; simpa [CS, sayL] using HO1.out⟩
              case round =>
                obtain ⟨k, hk, rfl, ⟨x4, rfl⟩, HO⟩ := hrel
                by_cases hlt : k < acc.length
                · have hz : acc[k]? = some acc[k] := List.getElem?_eq_getElem hlt
                  obtain ⟨lg, rfl, _, hlg, _, hlx, _⟩ := HA.out (by omega)
                  obtain ⟨k1, k2, k3⟩ := lt_facts hlg
                  obtain ⟨z0, z1⟩ := slot_at hlx k _ hz
                  have E := Lib.hid (show CS (sayL asid (acc.take (k + 1))) = CS (sayL asid (acc.take k)) ++ (tellS asid acc[k].1).cells from by rw [take_snoc hz]; exact sayL_snoc _ _ _)
                  generalize acc[k] = z at *
                  obtain ⟨za, zb⟩ := z
                  dsimp only at z0 z1 E
                  clear hz hlx
                  go_wp2_with ((at_builtin; refine wpList_append_new W1 el_Step rfl _ _ rfl u25 (acc.length + k) _ rfl (by repeat (first | exact HO.out | apply own_more | apply own_alloc | apply own_drew | apply own_drewN)) (by repeat (first | exact Ext.refl _ | apply Ext.more | apply Ext.alloc | apply Ext.drew | apply Ext.drewN)) _ _ 1 _ rfl (by simp) rfl rfl (by omega) ?_); intro v' x' HO' keep; clear keep)
                  go_roundw
                  case rel => exact ⟨k + 1, by omega, by go_num, (by repeat (first | exact Ext.refl _ | apply Ext.more | apply Ext.alloc | apply Ext.drew | apply Ext.drewN)), by
                    show World.ownsRow _ _ _ _ _ _ _
                    rw [E.out, ← List.append_assoc]
                    exact HO'.out⟩
                  case measure => simp [intOf]; omega
                · obtain rfl : k = acc.length := by omega
                  have hO2 := HO.out
                  rw [List.take_length, ← CS_append] at hO2
                  have HO2 := Lib.hid (show (more W1 x4).ownsRow W1.heap.size 49 10 u25 (acc.length + acc.length) (CS (awayM acc asid T page)) from hO2)
                  clear hO2 HO HO1 hlt hk
                  go_wp2_with fail
                  go_loopw [25, 28] (fun o i wr => ∃ q : Nat, q ≤ 8 ∧ i = .int .i64 q ∧ Ext W1 wr ∧ Hid (wr.ownsRow W1.heap.size 49 10 o (acc.length + acc.length + (fillN ws T base q).length) (CS (awayM acc asid T page) ++ CS (fillN ws T base q)))) (fun _ i _ => 8 - (intOf i).toNat)
                  case atStart => exact ⟨0, by omega, rfl, (by repeat (first | exact Ext.refl _ | apply Ext.more | apply Ext.alloc | apply Ext.drew | apply Ext.drewN)), by show World.ownsRow _ _ _ _ _ _ _; simpa [CS, fillN] using HO2.out⟩
                  case round =>
                    obtain ⟨q, hq, rfl, ⟨x5, rfl⟩, HO⟩ := hrel
                    by_cases hlt : q < 8
                    · have hfl := (fillN_len ws T base q).2
                      have hfr := HFr.out q hlt
                      go_wp2_with fail
                      go_loopw [29, 30] (fun f i wr => ∃ k : Nat, k ≤ acc.length ∧ i = .int .i64 k ∧ f = .int .i64 (fromL (acc.take k) (page + q)) ∧ more W1 x5 = wr) (fun _ i _ => acc.length - (intOf i).toNat)
                      case atStart => exact ⟨0, by omega, rfl, rfl, rfl⟩
                      case round =>
                        obtain ⟨k, hk, rfl, rfl, rfl⟩ := hrel
                        by_cases hlk : k < acc.length
                        · have hz : acc[k]? = some acc[k] := List.getElem?_eq_getElem hlk
                          obtain ⟨lg, rfl, _, hlg, _, hlx, _⟩ := HA.out (by omega)
                          obtain ⟨k1, k2, k3⟩ := lt_facts hlg
                          obtain ⟨z0, z1⟩ := slot_at hlx k _ hz
                          have E := Lib.hid (show fromL (acc.take (k + 1)) (page + q) = if acc[k].1 = page + q then acc[k].2 else fromL (acc.take k) (page + q) from by rw [take_snoc hz]; exact fromL_snoc _ _ _)
                          generalize acc[k] = z at *
                          generalize fromL (acc.take k) (page + q) = fk at *
                          obtain ⟨za, zb⟩ := z
                          dsimp only at z0 z1 E
                          by_cases he : za = page + q
                          · have E2 := Lib.hid (E.out.trans (if_pos he))
                            subst he
                            clear hz hlx E hfr
                            go_wp2_with fail
                            go_roundw
                            case rel => exact ⟨k + 1, by omega, by go_num, by rw [E2.out], by first | rfl | trivial⟩
                            case measure => simp [intOf]; omega
                          · have E2 := Lib.hid (E.out.trans (if_neg he))
                            have he' : (za == page + q) = false := by simpa using he
                            clear hz hlx E hfr he
                            go_wp2_with fail
                            go_roundw
                            case rel => exact ⟨k + 1, by omega, by go_num, by rw [E2.out], by first | rfl | trivial⟩
                            case measure => simp [intOf]; omega
                        · obtain rfl : k = acc.length := by omega
                          rw [List.take_length, hfr]
                          by_cases h3 : (wordD ws T q).fKind = 3
                          · have E := Lib.hid (show fillN ws T base (q + 1) = fillN ws T base q ++ copiesN (base + q) (wordD ws T q).fFrame 8 from by show _ ++ fillOne ws T base q = _; unfold fillOne; rw [if_pos h3])
                            rw [if_pos h3]
                            have hf0 : 0 ≤ (wordD ws T q).fFrame := (decD_frame _ _).1
                            generalize (wordD ws T q).fFrame = fr at *
                            clear hfr h3 hlk hk
                            go_wp2_with fail
                            go_loopw [25, 31] (fun o i wr => ∃ k : Nat, k ≤ 8 ∧ i = .int .i64 k ∧ Ext W1 wr ∧ Hid (wr.ownsRow W1.heap.size 49 10 o (acc.length + acc.length + (fillN ws T base q).length + k) (CS (awayM acc asid T page) ++ CS (fillN ws T base q) ++ CS (copiesN (base + q) fr k)))) (fun _ i _ => 8 - (intOf i).toNat)
                            case atStart => exact ⟨0, by omega, rfl, (by repeat (first | exact Ext.refl _ | apply Ext.more | apply Ext.alloc | apply Ext.drew | apply Ext.drewN)), by show World.ownsRow _ _ _ _ _ _ _; simpa [copiesN, CS] using HO.out⟩
                            case round =>
                              obtain ⟨k, hk, rfl, ⟨x6, rfl⟩, HOk⟩ := hrel
                              by_cases hlk : k < 8
                              · have E2 := Lib.hid (show CS (copiesN (base + q) fr (k + 1)) = CS (copiesN (base + q) fr k) ++ (copyS (base + q) fr k).cells from by rw [copiesN_succ]; exact CS_snoc _ _)
                                go_wp2_with ((at_builtin; refine wpList_append_new W1 el_Step rfl _ _ rfl u25 (acc.length + acc.length + (fillN ws T base q).length + k) _ rfl (by repeat (first | exact HOk.out | apply own_more | apply own_alloc | apply own_drew | apply own_drewN)) (by repeat (first | exact Ext.refl _ | apply Ext.more | apply Ext.alloc | apply Ext.drew | apply Ext.drewN)) _ _ 1 _ rfl (by simp) rfl rfl (by omega) ?_); intro v' x' HO' keep; clear keep)
                                go_roundw
                                case rel => exact ⟨k + 1, by omega, by go_num, (by repeat (first | exact Ext.refl _ | apply Ext.more | apply Ext.alloc | apply Ext.drew | apply Ext.drewN)), by
                                  show World.ownsRow _ _ _ _ _ _ _
                                  have hh := HO'.out
                                  rw [E2.out]
                                  simp only [← List.append_assoc, ← Nat.add_assoc] at hh ⊢
                                  exact hh⟩
                                case measure => simp [intOf]; omega
                              · obtain rfl : k = 8 := by omega
                                have HO8 := Lib.hid (show (more W1 x6).ownsRow W1.heap.size 49 10 u25 (acc.length + acc.length + (fillN ws T base (q + 1)).length) (CS (awayM acc asid T page) ++ CS (fillN ws T base (q + 1))) from by
                                  rw [E.out, CS_append, List.length_append, copiesN_len, ← List.append_assoc, ← Nat.add_assoc]
                                  exact HOk.out)
                                clear hlk hk E HOk
                                go_wp2_with fail
                                go_roundw
                                case rel => exact ⟨q + 1, by omega, by go_num, (by repeat (first | exact Ext.refl _ | apply Ext.more | apply Ext.alloc | apply Ext.drew | apply Ext.drewN)), HO8⟩
                                case measure => simp [intOf]; omega
                          · have E := Lib.hid (show CS (fillN ws T base (q + 1)) = CS (fillN ws T base q) ++ (clearS (base + q)).cells from by show CS (_ ++ fillOne ws T base q) = _; unfold fillOne; rw [if_neg h3]; exact CS_snoc _ _)
                            have El := Lib.hid (show (fillN ws T base (q + 1)).length = (fillN ws T base q).length + 1 from by show (_ ++ fillOne ws T base q).length = _; unfold fillOne; rw [if_neg h3]; simp)
                            rw [if_neg h3]
                            clear hfr h3 hlk hk
                            go_wp2_with ((at_builtin; refine wpList_append_new W1 el_Step rfl _ _ rfl u25 (acc.length + acc.length + (fillN ws T base q).length) _ rfl (by repeat (first | exact HO.out | apply own_more | apply own_alloc | apply own_drew | apply own_drewN)) (by repeat (first | exact Ext.refl _ | apply Ext.more | apply Ext.alloc | apply Ext.drew | apply Ext.drewN)) _ _ 1 _ rfl (by simp) rfl rfl (by omega) ?_); intro v' x' HO' keep; clear keep)
                            go_loopw [25, 31] (fun o i wr => o = v' ∧ i = Value.int .i64 0 ∧ more W1 x' = wr) (fun _ _ _ => (0 : Nat))
                            case atStart => exact ⟨rfl, rfl, rfl⟩
                            case round =>
                              obtain ⟨rfl, rfl, rfl⟩ := hrel
                              go_wp2_with fail
                              go_roundw
                              case rel =>
                                have hfin : (more W1 x').ownsRow W1.heap.size 49 10 u25 (acc.length + acc.length + (fillN ws T base (q + 1)).length) (CS (awayM acc asid T page) ++ CS (fillN ws T base (q + 1))) := by
                                  have hh := HO'.out
                                  rw [E.out, El.out]
                                  simp only [← List.append_assoc, ← Nat.add_assoc] at hh ⊢
                                  exact hh
                                first
                                  | exact ⟨q + 1, by omega, by go_num, (by repeat (first | exact Ext.refl _ | apply Ext.more | apply Ext.alloc | apply Ext.drew | apply Ext.drewN)), hfin⟩
                                  | (repeat apply Exists.intro
                                     exact ⟨⟨q + 1, by omega, by go_num, (by repeat (first | exact Ext.refl _ | apply Ext.more | apply Ext.alloc | apply Ext.drew | apply Ext.drewN)), hfin⟩, rfl⟩)
                              case measure => simp [intOf]; omega
                    · obtain rfl : q = 8 := by omega
                      have hfl := (fillN_len ws T base 8).2
                      clear hlt hq HO2 HFr HKK HPg
                      obtain ⟨k1, k2, k3⟩ := lt_facts hbr1
                      obtain ⟨k4, k5, k6⟩ := lt_facts hwg1
                      have HWd := Lib.hid (fun w => ref02_Word w 2 _ (okD_blk (wr := wr) (ex := ex) b0 (show base < 512 by omega) b2))
                      have hi2 : (2 : Int) < (s.length : Int) := by omega
                      have hi3 : 2 < s.length := by omega
                      have HPc := Lib.hid (fun w => ref04_Place w 2 page (by omega) (by omega) p0 p1)
                      have HSw := Lib.hid (fun w pl v => ref16_swap w asid tb pl page v p0 (by omega))
                      go_wp2_with fail
                      refine (HWd.out _).mono ?_
                      rintro e w' ⟨⟨x6, rfl⟩, rfl⟩
                      obtain ⟨ev, hev⟩ : ∃ ev, encW (blockD base wr ex) = ev := ⟨_, rfl⟩
                      rw [hev]
                      have HEv := Lib.hid hev
                      clear hev
                      go_wp2_with fail
                      go_region_held3 (fun w' => w'.cell? ⟨wg, 2, none⟩ = some (.int .i64 tb)) (first | (go_simp; done) | (dsimp only; go_simp))
                        ((first
                          | (go_at_call 77; refine (HPc.out _).mono ?_; rintro e w' ⟨rfl, hww⟩; subst w')
                          | (go_at_call 71; refine (HSw.out _ _ ev).mono ?_; rintro e w' ⟨⟨x7, rfl⟩, a9, c9, rfl, hO9⟩; have HO9 := Lib.hid hO9; clear hO9)
                          | (refine step_append_row W1 el_Step (by rfl) _ _ (by rfl) u25 (acc.length + acc.length + (fillN ws T base 8).length) _ (by rfl) (by repeat (first | exact HO.out | apply own_more | apply own_alloc | apply own_drew | apply own_drewN)) (by repeat (first | exact Ext.refl _ | apply Ext.more | apply Ext.alloc | apply Ext.drew | apply Ext.drewN)) _ (.slice a9 10 c9) 10 _ (by rfl) (by repeat (first | (with_reducible apply own_alloc) | (with_reducible apply own_drew) | (with_reducible apply own_drewN) | exact HO9.out | (with_reducible apply own_more))) (by omega) (CS_one _) (by omega) ?_; intro v' x' HO10 keep; clear keep)))
                      all_goals
                        go_wp2_with ((at_builtin; refine wpList_append_new W1 el_Step rfl _ _ rfl v' (acc.length + acc.length + (fillN ws T base 8).length + 10) _ rfl (by repeat (first | exact HO10.out | apply own_more | apply own_alloc | apply own_drew | apply own_drewN)) (by repeat (first | exact Ext.refl _ | apply Ext.more | apply Ext.alloc | apply Ext.drew | apply Ext.drewN)) _ _ 1 _ rfl (by simp) rfl rfl (by omega) ?_); intro v2 x8' HO11 keep; clear keep)
                        refine bodyPost_ret (results_tmp4 rfl _ _ _) rfl ?_
                        exact ⟨(by repeat (first | exact HE1.out | apply Ext.more | apply Ext.alloc | apply Ext.drew | apply Ext.drewN)), mergeRet_yes HV.out HO11.out (by repeat (first | exact HOl.out | apply own_more | apply own_alloc | apply own_drew | apply own_drewN)) (Ext.size HE1.out) hB0 (by simp only [mergeS, List.length_append, awayM_len, swapS_len]; rfl) (by rw [← HEv.out]; simp [mergeS, CS, dropS, Step.cells]) rfl rfl⟩

end Go.Proofs.Ytmcjfnkekcablaa
