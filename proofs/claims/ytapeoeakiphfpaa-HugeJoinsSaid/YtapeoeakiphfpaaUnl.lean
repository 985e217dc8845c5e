import Derived.Test.YtapeoeakiphfpaaBKeeqBacp
import Derived.Test.YtapeoeakiphfpaaReff
/- The contract of paviorlaw16.unlike. -/
namespace Go.Proofs.Ytapeoeakiphfpaa
open Go.RowKit
set_option linter.unusedVariables false
set_option linter.unusedSimpArgs false
attribute [local go_sem] setCell_drewN alloc_drewN lt_moreE le_moreE lt_moreK le_moreK cell_more frozen_more set_more drew_more drewN_more

def UnlRet (ws : List Int) (n : Nat) (root : Int) (others : List Int) (e : Ending) : Prop := ∃ b : Bool, e = .returned (.bool b) ∧ (b = true → ∃ t, tabsAt ws n 4 0 root = some t ∧ (t ++ others).Nodup)
set_option maxRecDepth 100000 in
set_option maxHeartbeats 8000000 in
theorem law16_unlike (w : World) {h hc n : Nat} {gb gc : Nat → Nat} {ws : List Int} (hr : RefAt w h hc n gb gc ws) (hw : WOk ws) (root : Int) (r0 : 0 ≤ root) (r1 : root < n) (others : List Int) (v : Value) (hv : SlRd w v 1 (others.map intCells)) (hl : others.length ≤ 1000) :
    Calls Try.prog 43 #[.slice (some ⟨h, 0, none⟩) n hc, .int .i64 root, v] w fun e w' => Ext w w' ∧ UnlRet ws n root others e := by
  have HV := Lib.hid hv
  obtain ⟨rt, hrt⟩ : ∃ rt, tabsAt ws n 4 0 root = rt := ⟨_, rfl⟩
  have HT0 := ref12_Tables hw 4 w hr 0 root (by omega) (by omega) (by omega)
  rw [hrt] at HT0
  have HT := Lib.hid HT0
  have HRT := Lib.hid hrt
  clear hr hv HT0 hrt
  go_enter Try.func43, Try.ntmps43
  go_wp2_with fail
  refine HT.out.mono ?_
  rintro e w3 ⟨hE3, hq⟩
  have HE3 := Lib.hid hE3
  have HF3 := Lib.hid (HV.out.kept0 hE3.grow)
  have hbB := hE3.size
  generalize hB2 : w.heap.size = B2 at *
  clear HT hE3
  cases rt with
  | none =>
    unfold TabsRet at hq
    dsimp only at hq
    subst hq
    go_wp2_with fail
    go_ret
    exact ⟨(by repeat (first | exact HE3.out | apply Ext.more | apply Ext.alloc | apply Ext.drew | apply Ext.drewN)), false, rfl, fun h => by cases h⟩
  | some t =>
    obtain ⟨ta, tcap, rfl, hot⟩ := hq
    obtain ⟨tl0, tl1⟩ := tabs_len _ _ _ _ HRT.out
    have HOT := Lib.hid hot
    have tok1 : True := trivial
    have HT1 := Lib.hid (all_flat intC Value.oneCell' (fun a => rfl) t)
    clear hot
    go_wp2_with (first
      | (have _t := tok1; at_builtin; refine wpList_append_row w3 el_int rfl _ _ rfl (.slice (some ⟨w3.heap.size, 0, none⟩) 0 0) 0 [] rfl (own_lit' rfl (Nat.le_refl _) rfl (by decide) rfl rfl) (by repeat (first | exact Ext.refl _ | apply Ext.more | apply Ext.alloc | apply Ext.drew | apply Ext.drewN)) B2 _ t.length _ rfl (by repeat (first | exact HOT.out | apply own_more | apply own_alloc | apply own_drew | apply own_drewN)) tl0 HT1.out (by omega) ?_; intro v1 x1 HO1 keep; clear keep tok1)
      | (at_builtin; refine wpList_append_in w3 el_int rfl _ _ rfl v1 (0 + t.length) _ rfl HO1.out (by repeat (first | exact Ext.refl _ | apply Ext.more | apply Ext.alloc | apply Ext.drew | apply Ext.drewN)) _ (others.map intCells) rfl (by repeat (first | exact HF3.out | apply rd_more | apply rd_alloc | apply rd_drew | apply rd_drewN)) (ints_one _) (ints_flat _) (by simp; omega) ?_; intro v2 x2 HO2 keep; clear keep))
    obtain ⟨aa, acap, rfl⟩ := own_form HO2.out
    obtain ⟨N, hN⟩ : ∃ N, 0 + t.length + (others.map intCells).length = N := ⟨_, rfl⟩
    have hNl : N = (t ++ others).length := by rw [← hN]; simp
    have ho2 : (more w3 x2).ownsRow w3.heap.size 3 1 (.slice aa N acap) N ((t ++ others).map intC).flatten := by
      have := HO2.out
      rw [hN] at this
      rw [List.map_append, List.flatten_append]
      exact this
    obtain ⟨ag, rfl, _, hag, hac, hacm, hcell⟩ := ints_cell ho2 (by omega) hNl
    rw [hN]
    have hNb : N ≤ 8000 := by rw [hNl, List.length_append]; omega
    have hacm' : acap ≤ 9223372036854775807 := by unfold maxLen at hacm; exact hacm
    have HCl := Lib.hid hcell
    have HNl := Lib.hid hNl
    have HE4 := Lib.hid (HE3.out.more x2)
    clear hNl hcell ho2 HO1 HO2 hN HOT HT1 HF3 HE3 hacm
    generalize more w3 x2 = W4 at *
    generalize hall : t ++ others = all at *
    have HAll := Lib.hid hall
    obtain ⟨g1, g2, g3⟩ := lt_facts hag
    clear hall
    go_loopw [10, 11] (fun i _ wr => ∃ q : Nat, q ≤ N ∧ i = .int .i64 q ∧ Ext W4 wr ∧ Hid (Unlike all q)) (fun i _ _ => N - (intOf i).toNat)
    case atStart => exact ⟨0, Nat.zero_le _, rfl, Ext.refl _, unlike_zero _⟩
    case round =>
      obtain ⟨q, hq, rfl, hEr, HU⟩ := hrel
      obtain ⟨wo, rfl⟩ : ∃ wo : World, wo = wr := ⟨_, rfl⟩
      have HEr := Lib.hid hEr
      clear hEr
      by_cases hlt : q < N
      · go_wp2_with fail
        go_loopw [11] (fun i wi => ∃ p : Nat, p ≤ q ∧ i = .int .i64 p ∧ Ext W4 wi ∧ Hid (UnlikeAt all q p)) (fun i _ => q - (intOf i).toNat)
        case atStart => exact ⟨0, Nat.zero_le _, rfl, HEr.out, unlikeAt_zero _ _⟩
        case round =>
          obtain ⟨p, hp, rfl, ⟨xi, rfl⟩, HUA⟩ := hrel
          by_cases hpl : p < q
          · have y0 := HCl.out p (by omega)
            have y1 := HCl.out q hlt
            by_cases heq : all.getD p 0 = all.getD q 0
            · have heb : (all.getD q 0 == all.getD p 0) = true := by simpa using heq.symm
              clear heq
              generalize all.getD p 0 = X at *
              generalize all.getD q 0 = Y at *
              go_wp2_with fail
              go_region
              all_goals
                go_wp2_with fail
                go_ret
                exact ⟨(by repeat (first | exact HE4.out | apply Ext.more | apply Ext.alloc | apply Ext.drew | apply Ext.drewN)), false, rfl, fun h => by cases h⟩
            · have heb : (all.getD q 0 == all.getD p 0) = false := by simpa using fun h => heq h.symm
              have HN := Lib.hid (show Hid (UnlikeAt all q (p + 1)) from unlikeAt_succ HUA.out heq)
              clear heq
              generalize all.getD p 0 = X at *
              generalize all.getD q 0 = Y at *
              go_wp2_with fail
              go_region
              all_goals
                go_wp2_with fail
                go_roundw
                case rel => exact ⟨p + 1, by omega, by go_num, (by repeat (first | exact Ext.refl _ | apply Ext.more | apply Ext.alloc | apply Ext.drew | apply Ext.drewN)), HN.out⟩
                case measure => simp [intOf]; omega
          · obtain rfl : p = q := by omega
            have HN := Lib.hid (show Hid (Unlike all (p + 1)) from unlike_succ HU.out HUA.out)
            go_wp2_with fail
            go_roundw
            case rel => exact ⟨p + 1, by omega, by go_num, (by repeat (first | exact Ext.refl _ | apply Ext.more | apply Ext.alloc | apply Ext.drew | apply Ext.drewN)), HN.out⟩
            case measure => simp [intOf]; omega
      · obtain rfl : q = N := by omega
        have hu := HU.out
        rw [HNl.out] at hu
        have hnd := unlike_nodup hu
        rw [← HAll.out] at hnd
        have HND := Lib.hid hnd
        clear hu hnd
        go_wp2_with fail
        go_ret
        exact ⟨HE4.out.trans HEr.out, true, rfl, fun _ => ⟨t, HRT.out, HND.out⟩⟩

end Go.Proofs.Ytapeoeakiphfpaa
