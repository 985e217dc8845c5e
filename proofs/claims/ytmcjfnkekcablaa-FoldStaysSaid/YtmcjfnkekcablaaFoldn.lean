/- The contract of paviorref17.Anew. -/
import Derived.Test.YtmcjfnkekcablaaFolda
import Derived.Deep.RegionHeld3
namespace Go.Proofs.Ytmcjfnkekcablaa
open Go.RowKit
set_option linter.unusedVariables false
set_option linter.unusedSimpArgs false
attribute [local go_sem] setCell_drewN alloc_drewN lt_moreE le_moreE lt_moreK le_moreK cell_more frozen_more set_more drew_more drewN_more

set_option maxRecDepth 100000 in
set_option maxHeartbeats 8000000 in
theorem ref17_Anew (w : World) {h hc n : Nat} {gb gc : Nat → Nat} {ws : List Int} (hr0 : RefAt w h hc n gb gc ws) (hw : WOk ws) {B cap : Nat} {a : Option Addr} {s : List Found} (hO : w.ownsRow B 92 11 (.slice a s.length cap) s.length (s.map Found.cells).flatten) (hs : s.length = 4) (hg : ∀ f ∈ s, goodP ws n f) (asid page : Int) (fold : Bool) (p0 : 0 ≤ page) (p1 : page < 4096) :
    Calls Try.prog 25 #[.slice (some ⟨h, 0, none⟩) n hc, .slice a s.length cap, .int .i64 asid, .int .i64 page, .bool fold] w fun e w' => Ext w w' ∧ ∃ a' cap', e = .returned (.slice a' (anewL ws s asid (page - page % 4) fold).length cap') ∧ OwnS w' w.heap.size (.slice a' (anewL ws s asid (page - page % 4) fold).length cap') (anewL ws s asid (page - page % 4) fold) := by
  have hfp : page - page % 4 = page / 4 * 4 := by omega
  rw [hfp]
  obtain ⟨fp, hfp'⟩ : ∃ fp, page / 4 * 4 = fp := ⟨_, rfl⟩
  rw [hfp']
  have hf0 : 0 ≤ fp := by omega
  have hf1 : fp + 3 < 4096 := by omega
  have hl1 : 4 ≤ s.length := by omega
  have hl2 : s.length ≤ 4 := by omega
  have HR := Lib.hid hr0
  have HW := Lib.hid hw
  have HG := Lib.hid hg
  have hcp := own_cap hO
  have hm' : cap ≤ 9223372036854775807 := by have := hcp.2.2; unfold maxLen at this; exact this
  have hs1 := hcp.2.1
  obtain ⟨gr, rfl, _, hgr, _, hx, _⟩ := own_at hO (by omega)
  obtain ⟨hg1, hg2, hg3⟩ := lt_facts hgr
  have HX := Lib.hid hx
  have hq1 : page.tdiv 4 * 4 = fp := by rw [Int.tdiv_eq_ediv_of_nonneg p0]; exact hfp'
  clear hr0 hw hO hs hg hfp hcp hx
  go_enter Try.func25, Try.ntmps25
  go_wp2_with fail
  go_loopw [11, 13] (fun o i wr => ∃ q : Nat, q ≤ 4 ∧ i = .int .i64 q ∧ Ext w wr ∧ Hid (wr.ownsRow w.heap.size 49 10 o q (CS (goneL (s.take q) asid fp)))) (fun _ i _ => 4 - (intOf i).toNat)
  case atStart => exact ⟨0, by omega, rfl, (by repeat (first | exact Ext.refl _ | apply Ext.more | apply Ext.alloc | apply Ext.drew | apply Ext.drewN)), World.ownsRow_nil _ _ _ _⟩
  case round =>
    obtain ⟨q, hq, rfl, ⟨x, rfl⟩, HO⟩ := hrel
    by_cases hlt : q < 4
    · have hlt' : q < s.length := by omega
      have hz : s[q]? = some s[q] := List.getElem?_eq_getElem hlt'
      obtain ⟨x0, x1, x2, x3, x4, x5, x6, x7, x8, x9, x10⟩ := found_at HX.out q _ hz
      obtain ⟨q1, q2, q3, q4, q5, q6, q7⟩ := HG.out _ (List.getElem_mem hlt')
      have htk := take_snoc hz
      have htl : (s.take q).length = q := by rw [List.length_take]; omega
      have e1 : CS (goneL (s.take (q + 1)) asid fp) = CS (goneL (s.take q) asid fp) ++ (wrS asid s[q] (fp + q) 0).cells := by rw [htk, goneL_snoc, CS_snoc, htl]
      have E := Lib.hid e1
      generalize s[q] = z at *
      obtain ⟨F0, F1, F2, F3, F4, F5, F6, F7, F8, F9, F10⟩ := z
      dsimp only at x0 x1 x2 x3 x4 x5 x6 x7 x8 x9 x10 q1 q2 q3 q4 q5
      subst q5
      clear q6 q7 htk htl e1 hz
      have hwr : IntKind.i64.wrap (fp + (q : Int)) = fp + q := i64_wraps _ (by omega) (by omega)
      go_wp2_with fail
      go_region_held3 (fun w' => w'.cell? ⟨gr, q * 11 + 2, none⟩ = some (.int .i64 F2) ∧ w'.cell? ⟨gr, q * 11 + 3, none⟩ = some (.int .i64 F3)) (first | (go_simp; done) | (dsimp only; refine ⟨?_, ?_⟩ <;> go_simp))
        ((refine step_append_new w el_Step (by rfl) _ _ (by rfl) u11 q _ (by rfl) (by repeat (first | exact HO.out | apply own_more | apply own_alloc | apply own_drew | apply own_drewN)) (by repeat (first | exact Ext.refl _ | apply Ext.more | apply Ext.alloc | apply Ext.drew | apply Ext.drewN)) _ _ 1 _ (by rfl) (by repeat (first | (with_reducible exact heap_alloc_new _ _) | (with_reducible apply box_more) | (with_reducible apply box_alloc) | (with_reducible apply box_drew) | (with_reducible apply box_drewN))) rfl rfl (by omega) ?_; intro v' x' HO' keep; clear keep))
      all_goals
        go_wp2_with fail
        go_roundw
        case rel => exact ⟨q + 1, by omega, by go_num, (by repeat (first | exact Ext.refl _ | apply Ext.more | apply Ext.alloc | apply Ext.drew | apply Ext.drewN)), by
          show World.ownsRow _ _ _ _ _ _ _
          rw [E.out]
          have HO2 : (more w x').ownsRow w.heap.size 49 10 v' (q + 1) (CS (goneL (s.take q) asid fp) ++ (wrS asid ⟨F0, 3, F2, F3, F4, F5, F6, F7, F8, F9, F10⟩ (fp + q) 0).cells) := HO'.out
          clear HO' E HX HG HR HW
          repeat (first | (with_reducible exact HO2) | (with_reducible apply own_more) | (with_reducible apply own_alloc) | (with_reducible apply own_drewN) | (with_reducible apply own_drew))⟩
        case measure => simp [intOf]; omega
    · obtain rfl : q = 4 := by omega
      rw [List.take_of_length_le hl2] at HO
      go_wp2_with fail
      go_loopw [11, 14] (fun o i wr => ∃ q : Nat, q ≤ 4 ∧ i = .int .i64 q ∧ Ext w wr ∧ Hid (wr.ownsRow w.heap.size 49 10 o (4 + q) (CS (goneL s asid fp) ++ CS (toldL (s.take q) asid fp)))) (fun _ i _ => 4 - (intOf i).toNat)
      case atStart => exact ⟨0, by omega, rfl, (by repeat (first | exact Ext.refl _ | apply Ext.more | apply Ext.alloc | apply Ext.drew | apply Ext.drewN)), by show World.ownsRow _ _ _ _ _ _ _; simpa [toldL, CS] using HO.out⟩
      case round =>
        obtain ⟨q, hq, rfl, ⟨x, rfl⟩, HO⟩ := hrel
        by_cases hlt : q < 4
        · have hlt' : q < s.length := by omega
          have hz : s[q]? = some s[q] := List.getElem?_eq_getElem hlt'
          have htk := take_snoc hz
          have htl : (s.take q).length = q := by rw [List.length_take]; omega
          have e1 : CS (toldL (s.take (q + 1)) asid fp) = CS (toldL (s.take q) asid fp) ++ (tellS asid (fp + q)).cells := by rw [htk, toldL_snoc, CS_snoc, htl]
          have E := Lib.hid e1
          clear htk htl e1 hz
          go_wp2_with ((at_builtin; refine wpList_append_new w el_Step rfl _ _ rfl u11 (4 + q) _ rfl (by repeat (first | exact HO.out | apply own_more | apply own_alloc | apply own_drew | apply own_drewN)) (by repeat (first | exact Ext.refl _ | apply Ext.more | apply Ext.alloc | apply Ext.drew | apply Ext.drewN)) _ _ 1 _ rfl (by simp) rfl rfl (by omega) ?_); intro v' x' HO' keep; clear keep)
          go_roundw
          case rel => exact ⟨q + 1, by omega, by go_num, (by repeat (first | exact Ext.refl _ | apply Ext.more | apply Ext.alloc | apply Ext.drew | apply Ext.drewN)), by
            show World.ownsRow _ _ _ _ _ _ _
            rw [E.out, ← List.append_assoc]
            exact HO'.out⟩
          case measure => simp [intOf]; omega
        · obtain rfl : q = 4 := by omega
          rw [List.take_of_length_le hl2] at HO
          go_wp2_with fail
          go_loopw [11, 15] (fun o i wr => ∃ q : Nat, q ≤ 4 ∧ i = .int .i64 q ∧ Ext w wr ∧ Hid (wr.ownsRow w.heap.size 49 10 o (8 + q) ((CS (goneL s asid fp) ++ CS (toldL s asid fp)) ++ CS (backL ws (s.take q) asid fp fold)))) (fun _ i _ => 4 - (intOf i).toNat)
          case atStart => exact ⟨0, by omega, rfl, (by repeat (first | exact Ext.refl _ | apply Ext.more | apply Ext.alloc | apply Ext.drew | apply Ext.drewN)), by show World.ownsRow _ _ _ _ _ _ _; simpa [backL, CS] using HO.out⟩
          case round =>
            obtain ⟨q, hq, rfl, ⟨x, rfl⟩, HO⟩ := hrel
            by_cases hlt : q < 4
            · have hlt' : q < s.length := by omega
              have hz : s[q]? = some s[q] := List.getElem?_eq_getElem hlt'
              obtain ⟨x0, x1, x2, x3, x4, x5, x6, x7, x8, x9, x10⟩ := found_at HX.out q _ hz
              obtain ⟨q1, q2, q3, q4, q5, q6, q7⟩ := HG.out _ (List.getElem_mem hlt')
              have htk := take_snoc hz
              have htl : (s.take q).length = q := by rw [List.length_take]; omega
              have e1 : CS (backL ws (s.take (q + 1)) asid fp fold) = CS (backL ws (s.take q) asid fp fold) ++ (wrS asid s[q] (fp + q) (foldW ws fold s[q])).cells := by rw [htk, backL_snoc, CS_snoc, htl]
              have E := Lib.hid e1
              generalize s[q] = z at *
              obtain ⟨F0, F1, F2, F3, F4, F5, F6, F7, F8, F9, F10⟩ := z
              dsimp only at x0 x1 x2 x3 x4 x5 x6 x7 x8 x9 x10 q1 q2 q3 q4 q5 q6 q7
              subst q5
              obtain ⟨T, rfl⟩ := Int.eq_ofNat_of_zero_le q1
              obtain ⟨Pl, rfl⟩ := Int.eq_ofNat_of_zero_le q3
              have t1 : T < n := by omega
              have t2 : Pl < 8 := by omega
              obtain ⟨hh1, hh2, hh3⟩ := lt_facts HR.out.lth
              obtain ⟨gg1, gg2, gg3⟩ := lt_facts (HR.out.ltg T t1)
              have hlth := HR.out.lth
              have hltg := HR.out.ltg T t1
              have y0 := HR.out.hcell T t1
              have y1 := HR.out.cell T Pl t1 t2
              have hXb := HW.out.getD (T * 8 + Pl)
              rw [Int.toNat_natCast, Int.toNat_natCast] at q6 q7
              have HV := Lib.hid (show foldW ws fold ⟨F0, 3, T, Pl, F4, F5, F6, F7, F8, F9, F10⟩ = encW { decD 3 (ws.getD (T * 8 + Pl) 0) with fFold := fold } from by unfold foldW; dsimp only; rw [Int.toNat_natCast, Int.toNat_natCast])
              generalize hX : ws.getD (T * 8 + Pl) 0 = X at *
              obtain ⟨X0, X1⟩ := hXb
              have HD := Lib.hid (fun w => ref02_Decode w 3 X X0 X1)
              have HN := Lib.hid (fun w => ref02_Word w 3 _ (okD_fold q6 q7 fold))
              rw [HV.out] at E
              generalize hEW : encW { decD 3 X with fFold := fold } = EW at *
              generalize hdd : decD 3 X = d at *
              obtain ⟨d0, d1, d2, d3, d4, d5, d6⟩ := d
              dsimp only at HD HN
              clear hX hdd hEW hz htk htl e1 HV q6 q7
              have hwr : IntKind.i64.wrap (fp + (q : Int)) = fp + q := i64_wraps _ (by omega) (by omega)
              go_wp2_with fail
              go_region_held3 (fun w' => w'.cell? ⟨gr, q * 11 + 2, none⟩ = some (.int .i64 T) ∧ w'.cell? ⟨gr, q * 11 + 3, none⟩ = some (.int .i64 Pl) ∧ w'.cell? ⟨h, T, none⟩ = some (.slice (some ⟨gb T, 0, none⟩) 8 (gc T)) ∧ w'.cell? ⟨gb T, Pl, none⟩ = some (.int .u64 X)) (first | (go_simp; done) | (dsimp only; refine ⟨?_, ?_, ?_, ?_⟩ <;> go_simp))
                ((go_at_call 60; refine (HD.out _).mono ?_; rintro e w' ⟨⟨ex1, rfl⟩, rfl⟩))
              all_goals
                go_wp2_with fail
                first
                | (go_region_held3 (fun w' => w'.cell? ⟨gr, q * 11 + 2, none⟩ = some (Value.int .i64 (T : Int)) ∧ w'.cell? ⟨gr, q * 11 + 3, none⟩ = some (Value.int .i64 (Pl : Int)) ∧ w'.cell? ⟨(more w x).heap.size, 0, none⟩ = some (.int .i64 d0) ∧ w'.cell? ⟨(more w x).heap.size, 1, none⟩ = some (.int .i64 d1) ∧ w'.cell? ⟨(more w x).heap.size, 2, none⟩ = some (.bool d2) ∧ w'.cell? ⟨(more w x).heap.size, 3, none⟩ = some (.bool d3) ∧ w'.cell? ⟨(more w x).heap.size, 4, none⟩ = some (.bool d4) ∧ w'.cell? ⟨(more w x).heap.size, 5, none⟩ = some (.bool fold) ∧ w'.cell? ⟨(more w x).heap.size, 6, none⟩ = some (.int .i64 d6)) (first | (go_simp; done) | (dsimp only; refine ⟨?_, ?_, ?_, ?_, ?_, ?_, ?_, ?_, ?_⟩ <;> go_simp))
                    ((first
                      | (go_at_call 61; refine (HN.out _).mono ?_; rintro e w' ⟨⟨ex2, rfl⟩, rfl⟩)
                      | (refine step_append_new w el_Step (by rfl) _ _ (by rfl) u11 (8 + q) _ (by rfl) (by repeat (first | exact HO.out | apply own_more | apply own_alloc | apply own_drew | apply own_drewN)) (by repeat (first | exact Ext.refl _ | apply Ext.more | apply Ext.alloc | apply Ext.drew | apply Ext.drewN)) _ _ 1 _ (by rfl) (by repeat (first | (with_reducible exact heap_alloc_new _ _) | (with_reducible apply box_more) | (with_reducible apply box_alloc) | (with_reducible apply box_drew) | (with_reducible apply box_drewN))) rfl rfl (by omega) ?_; intro v' x' HO' keep; obtain ⟨c0, c1, c2, c3, c4, c5, c6, cf⟩ := cells7 (keep _ _ (by repeat (first | (with_reducible exact heap_alloc_new _ _) | (with_reducible apply box_more) | (with_reducible apply box_alloc) | (with_reducible apply box_drew) | (with_reducible apply box_drewN))) (by intro e_; have h_ := (World.ownsRow.lt HO.out _ e_).2; simp only [size_more, World.size_alloc, World.size_drew] at h_; omega)); clear keep))))
                | (go_region_held3 (fun w' => w'.cell? ⟨gr, q * 11 + 2, none⟩ = some (Value.int .i64 (T : Int)) ∧ w'.cell? ⟨gr, q * 11 + 3, none⟩ = some (Value.int .i64 (Pl : Int)) ∧ w'.cell? ⟨(more (more w x) ex1).heap.size, 0, none⟩ = some (.int .i64 d0) ∧ w'.cell? ⟨(more (more w x) ex1).heap.size, 1, none⟩ = some (.int .i64 d1) ∧ w'.cell? ⟨(more (more w x) ex1).heap.size, 2, none⟩ = some (.bool d2) ∧ w'.cell? ⟨(more (more w x) ex1).heap.size, 3, none⟩ = some (.bool d3) ∧ w'.cell? ⟨(more (more w x) ex1).heap.size, 4, none⟩ = some (.bool d4) ∧ w'.cell? ⟨(more (more w x) ex1).heap.size, 5, none⟩ = some (.bool fold) ∧ w'.cell? ⟨(more (more w x) ex1).heap.size, 6, none⟩ = some (.int .i64 d6)) (first | (go_simp; done) | (dsimp only; refine ⟨?_, ?_, ?_, ?_, ?_, ?_, ?_, ?_, ?_⟩ <;> go_simp))
                    ((first
                      | (go_at_call 61; refine (HN.out _).mono ?_; rintro e w' ⟨⟨ex2, rfl⟩, rfl⟩)
                      | (refine step_append_new w el_Step (by rfl) _ _ (by rfl) u11 (8 + q) _ (by rfl) (by repeat (first | exact HO.out | apply own_more | apply own_alloc | apply own_drew | apply own_drewN)) (by repeat (first | exact Ext.refl _ | apply Ext.more | apply Ext.alloc | apply Ext.drew | apply Ext.drewN)) _ _ 1 _ (by rfl) (by repeat (first | (with_reducible exact heap_alloc_new _ _) | (with_reducible apply box_more) | (with_reducible apply box_alloc) | (with_reducible apply box_drew) | (with_reducible apply box_drewN))) rfl rfl (by omega) ?_; intro v' x' HO' keep; obtain ⟨c0, c1, c2, c3, c4, c5, c6, cf⟩ := cells7 (keep _ _ (by repeat (first | (with_reducible exact heap_alloc_new _ _) | (with_reducible apply box_more) | (with_reducible apply box_alloc) | (with_reducible apply box_drew) | (with_reducible apply box_drewN))) (by intro e_; have h_ := (World.ownsRow.lt HO.out _ e_).2; simp only [size_more, World.size_alloc, World.size_drew] at h_; omega)); clear keep))))
                all_goals
                  go_wp2_with fail
                  go_roundw
                  case rel => exact ⟨q + 1, by omega, by go_num, (by repeat (first | exact Ext.refl _ | apply Ext.more | apply Ext.alloc | apply Ext.drew | apply Ext.drewN)), by
                    show World.ownsRow _ _ _ _ _ _ _
                    rw [E.out]
                    have HO2 : (more w x').ownsRow w.heap.size 49 10 v' (8 + (q + 1)) (((CS (goneL s asid fp) ++ CS (toldL s asid fp)) ++ CS (backL ws (s.take q) asid fp fold)) ++ (wrS asid ⟨F0, 3, T, Pl, F4, F5, F6, F7, F8, F9, F10⟩ (fp + q) EW).cells) := HO'.out
                    simp only [List.append_assoc] at HO2; try simp only [List.append_assoc]
                    clear HO' E HX HG HR HW
                    repeat (first | (with_reducible exact HO2) | (with_reducible apply own_more) | (with_reducible apply own_alloc) | (with_reducible apply own_drewN) | (with_reducible apply own_drew))⟩
                  case measure => simp [intOf]; omega
            · obtain rfl : q = 4 := by omega
              rw [List.take_of_length_le hl2] at HO
              go_wp2_with fail
              have hll : (anewL ws s asid fp fold).length = 12 := by simp [anewL, goneL_len, toldL_len, backL_len]; omega
              have HA : Hid ((more w x).ownsRow w.heap.size 49 10 u11 (anewL ws s asid fp fold).length (CS (anewL ws s asid fp fold))) := by
                show World.ownsRow _ _ _ _ _ _ _
                rw [hll]
                unfold anewL
                rw [CS_append, CS_append]
                exact HO.out
              clear HO
              obtain ⟨a', cap', rfl⟩ := own_form HA.out
              clear hll
              go_ret
              exact ⟨(by repeat (first | exact Ext.refl _ | apply Ext.more | apply Ext.alloc | apply Ext.drew | apply Ext.drewN)), a', cap', rfl, HA.out⟩

end Go.Proofs.Ytmcjfnkekcablaa
