/- The law paviorlaw11.RmapMoves. -/
import Derived.Test.YthcdecgecabgaaaRmy
import Derived.StillTailTactics
namespace Go.Proofs.Ythcdecgecabgaaa
open Go.RowKit
set_option linter.unusedVariables false
set_option linter.unusedSimpArgs false
attribute [local go_sem] setCell_drewN alloc_drewN lt_moreE le_moreE lt_moreK le_moreK cell_more frozen_more set_more drew_more drewN_more

theorem ofR_moved {rs : List Rw} {frm to : Int} (hne : frm ≠ to) (h0 : (ofR rs to).length = 0) : ofR (rs.map (moveR frm to)) to = ofR rs frm ∧ ofR (rs.map (moveR frm to)) frm = [] := by
  have hz : ∀ x ∈ rs, x.f ≠ to := by
    intro x hx hf
    have : x.key ∈ ofR rs to := List.mem_map.2 ⟨x, List.mem_filter.2 ⟨hx, by simpa using hf⟩, rfl⟩
    rw [List.eq_nil_of_length_eq_zero h0] at this
    cases this
  unfold ofR
  rw [List.filter_map, List.filter_map, List.map_map, List.map_map]
  refine ⟨?_, ?_⟩
  · have hf : rs.filter ((fun x => x.f == to) ∘ moveR frm to) = rs.filter fun x => x.f == frm := by
      apply List.filter_congr
      intro x hx
      show ((moveR frm to x).f == to) = (x.f == frm)
      unfold moveR
      by_cases hxf : x.f = frm
      · rw [if_pos hxf, hxf]; simp
      · rw [if_neg hxf]
        have := hz x hx
        rw [Bool.eq_iff_iff]
        simp only [beq_iff_eq]
        exact ⟨fun h => absurd h this, fun h => absurd h hxf⟩
    rw [hf]
    apply List.map_congr_left
    intro x _
    exact moveR_key frm to x
  · rw [List.filter_eq_nil_iff.2]
    · rfl
    · intro x hx
      show ¬ ((moveR frm to x).f == frm) = true
      unfold moveR
      by_cases hxf : x.f = frm
      · rw [if_pos hxf]; simpa using Ne.symm hne
      · rw [if_neg hxf]; simpa using hxf
theorem pagesR_moved (rs : List Rw) (frm to s : Int) : (pagesR (rs.map (moveR frm to)) s).length = (pagesR rs s).length := by
  unfold pagesR
  rw [List.length_map, List.length_map, List.filter_map, List.length_map]
  congr 1
  apply List.filter_congr
  intro x _
  show ((moveR frm to x).s == s) = (x.s == s)
  unfold moveR
  split <;> rfl

theorem err_some (w : World) (k : Int) : (binOp .neq 33 (errW k) .nilIface).run Try.prog w = .ok (.bool true) w := by
  have h1 : ∀ (w : World) (d : Nat) (tp : TypeId) (v : Value), (Op.equalIn (d + 1) 33 (.iface tp v) .nilIface).run Try.prog w = .ok false w := fun w d tp v => by simp [Op.equalIn, run_underlying Try.underlying33]
  simp only [binOp]
  simp [Op.equal, Op.maxDepth, h1 w 9999]

set_option maxRecDepth 100000 in
set_option maxHeartbeats 8000000 in
theorem law11_RmapMoves (w : World) (l : List Deed11) (hl : ∀ d ∈ l, d.wf) (v : Value) (hv : SlRd w v 5 (l.map Deed11.cells)) (frm : Int) (_ : (Lit.int .i64 frm).wf = true) (to : Int) (_ : (Lit.int .i64 to).wf = true) :
    Calls Try.prog 6 #[v, .int .i64 frm, .int .i64 to] w fun e w' => e = .returned (.bool true) ∧ w.grownBy w' none := by
  refine growC (R := fun e _ => e = .returned (.bool true)) ?_
  obtain ⟨la, lcap, rfl, hlc, hlx⟩ := hv.form
  rw [List.length_map] at *
  have hll : l.length ≤ 9223372036854775807 := by unfold maxLen at hlc; exact hlc
  have HLX := Lib.hid hlx
  clear hv hlx hl hlc
  go_enter Try.func6, Try.ntmps6
  go_wp2_with fail
  refine (law11_up w).mono ?_
  rintro e w0 ⟨hE0, rfl⟩
  go_wp2_with fail
  refine (rmap_New w w0 hE0).mono ?_
  rintro e w1 ⟨hE1, hb, mb, rfl, hO1⟩
  have HE1 := Lib.hid (hE0.trans hE1)
  have HO1 := Lib.hid hO1
  clear hE0 hE1 hO1
  go_wp2_with fail
  go_loopw [9] (fun i wr => ∃ (q : Nat) (rs : List Rw), q ≤ l.length ∧ q ≤ 60 ∧ rs.length ≤ q ∧ i = .int .i64 q ∧ Ext w wr ∧ Hid (RmOn wr w.heap.size hb mb rs)) (fun i _ => 60 - (intOf i).toNat)
  case atStart => exact ⟨0, [], by omega, by omega, by simp, rfl, HE1.out, HO1⟩
  case round =>
    obtain ⟨q, rs, hq, hq60, hrl, rfl, hEr, HOr⟩ := hrel
    have HEr := Lib.hid hEr
    clear hEr HO1 HE1
    obtain ⟨wo, rfl⟩ : ∃ wo : World, wo = wr := ⟨_, rfl⟩
    by_cases hlt : q < l.length ∧ q < 60
    · obtain ⟨hq1, hq2⟩ := hlt
      have hz : l[q]? = some l[q] := List.getElem?_eq_getElem hq1
      obtain ⟨b, o, rfl, hb1, hc⟩ := HLX.out q l[q].cells (by rw [List.getElem?_map, hz]; rfl) (by simp [Deed11.cells])
      obtain ⟨_, x1, _, x3, x4⟩ := deed_cells hc
      have hbw : b < wo.heap.size := Nat.lt_of_lt_of_le hb1 HEr.out.size
      have y1 := (HEr.out.grow).cell x1 (by simp)
      have y3 := (HEr.out.grow).cell x3 (by simp)
      have y4 := (HEr.out.grow).cell x4 (by simp)
      generalize l[q] = d at *
      obtain ⟨dw, df, dt, ⟨ds, dp⟩⟩ := d
      dsimp only at y1 y3 y4
      clear hc x1 x3 x4 hz
      obtain ⟨l1, l2, l3⟩ := lt_facts hbw
      have hqi : (q : Int) < l.length := by omega
      have hqi0 : 0 ≤ (q : Int) := by omega
      have hd1 : decide ((q : Int) < 60) = true := decide_eq_true (by omega)
      have HAd := Lib.hid (rmap_Add wo.drew (HOr.out.ext ((Ext.refl wo).drew)) df ds dp _ rfl _ rfl)
      go_wp2_with fail
      refine wp_region_still_tail 11 (by kernel_rfl) (by kernel_rfl) ?_
      simp only [List.take_succ_cons, List.take_zero, List.drop_succ_cons, List.drop_zero]
      repeat still_step
      refine wpStill_nil ?_
      clear y1 y3 y4
      go_wp2_with fail
      refine (HAd.out).mono ?_
      rintro e w2 ⟨⟨rfl, hO2⟩, hg2⟩
      have HE2 := Lib.hid (ext_grow HEr.out.drew hg2 HOr.out.mB)
      have HO2 := Lib.hid hO2
      clear hO2 hg2
      go_wp2_with fail
      go_roundw
      case rel => exact ⟨q + 1, _, by omega, by omega, Nat.le_trans (addR_len _ _ _ _) (by omega), by go_num, HE2.out, HO2⟩
      case measure => simp [intOf]; omega
    · have hcs : q = l.length ∨ (q < l.length ∧ q = 60) := by omega
      have hlen : rs.length ≤ 100000 := by omega
      have HOf := Lib.hid (fun w' (h' : RmOn w' w.heap.size hb mb rs) n => rmap_Of w' h' hlen n)
      have HPg := Lib.hid (fun w' (h' : RmOn w' w.heap.size hb mb rs) n => rmap_Pages w' h' hlen n)
      have hmvl : (rs.map (moveR frm to)).length ≤ 100000 := by rw [List.length_map]; exact hlen
      have HOf2 := Lib.hid (fun w' (h' : RmOn w' w.heap.size hb mb (rs.map (moveR frm to))) n => rmap_Of w' h' hmvl n)
      have HCt2 := Lib.hid (fun w' (h' : RmOn w' w.heap.size hb mb (rs.map (moveR frm to))) n => rmap_Count w' h' hmvl n)
      have HPg2 := Lib.hid (fun w' (h' : RmOn w' w.heap.size hb mb (rs.map (moveR frm to))) n => rmap_Pages w' h' hmvl n)
      obtain ⟨o, ho⟩ : ∃ o, moveC frm to rs = o := ⟨_, rfl⟩
      obtain ⟨rs', hr⟩ : ∃ r, moveM frm to rs = r := ⟨_, rfl⟩
      have HMv := Lib.hid (fun w' (h' : RmOn w' w.heap.size hb mb rs) => rmap_Move w' h' hlen frm to o ho rs' hr)
      have HHo := Lib.hid ho
      have HHr := Lib.hid hr
      clear hlt ho hr hlen hmvl
      rcases hcs with rfl | ⟨hq6, rfl⟩
      all_goals
        (try have hq7 : (60 : Int) < l.length := by omega)
        go_wp2_with fail
        refine (HOf.out _ HOr.out frm).mono ?_
        rintro e w2 ⟨hE2, a1, c1, rfl, hL1⟩
        have HE2 := Lib.hid hE2
        have HL1 := Lib.hid hL1
        have HO2 := Lib.hid (HOr.out.ext hE2)
        clear hE2 hL1
        go_wp2_with fail
        refine (HPg.out _ HO2.out 1).mono ?_
        rintro e w3 ⟨hE3, a2, c2, rfl, _⟩
        have HE3 := Lib.hid (HEr.out.trans (HE2.out.trans hE3))
        have HL3 := Lib.hid (own_ext HL1.out hE3)
        have HO3 := Lib.hid (HO2.out.ext hE3)
        have hB2 := HEr.out.size
        clear hE3 HE2 HO2 HL1
        generalize wo.heap.size = B2 at *
        go_wp2_with fail
        refine (HMv.out _ HO3.out).mono ?_
        rintro e w4 ⟨⟨rfl, hO4⟩, hg4⟩
        have HE4 := Lib.hid (ext_grow HE3.out hg4 HO3.out.mB)
        have HL4 := Lib.hid (own_keepO HO3.out hg4 HL3.out)
        have HO4 := Lib.hid hO4
        clear hO4 hg4 HE3 HO3 HL3 HOr HEr
        cases o with
        | some k =>
          unfold errO
          dsimp only
          have hrs : rs = rs' := by rw [← HHr.out]; unfold moveM; rw [HHo.out]; rfl
          rw [← hrs] at HO4
          clear hrs
          have hnil := fun (w : World) => err_some w k
          go_wp2_with fail
          refine (HOf.out _ HO4.out frm).mono ?_
          rintro e w5 ⟨hE5, a3, c3, rfl, _⟩
          have HE5 := Lib.hid (HE4.out.trans hE5)
          clear hE5
          go_wp2_with fail
          go_ret
          exact ⟨HE5.out, rfl⟩
        | none =>
          unfold errO
          dsimp only
          have hrs : rs.map (moveR frm to) = rs' := by rw [← HHr.out]; unfold moveM; rw [HHo.out]; rfl
          have hmc := HHo.out
          unfold moveC at hmc
          by_cases hc : frameB frm = true ∧ frameB to = true ∧ frm ≠ to
          · rw [if_pos hc] at hmc
            have h0 : (ofR rs to).length = 0 := by
              by_cases h : (ofR rs to).length = 0
              · exact h
              · rw [if_neg h] at hmc; cases hmc
            obtain ⟨e1, e2⟩ := ofR_moved hc.2.2 h0
            have e3 := pagesR_moved rs frm to 1
            have HN := Lib.hid (HOf2.out w4 (by rw [hrs]; exact HO4.out) to)
            have HC := Lib.hid (fun w' h' => HCt2.out w' h' frm)
            have HP := Lib.hid (fun w' h' => HPg2.out w' h' 1)
            rw [e1] at HN
            rw [e2] at HC
            rw [e3] at HP
            rw [hrs] at HC HP
            have hLl := ofR_len rs frm
            generalize ofR rs frm = L at *
            generalize (pagesR rs 1).length = pl at *
            clear hrs hmc hc h0 e1 e2 e3 HOf HPg HOf2 HCt2 HPg2 HMv
            go_wp2_with fail
            refine (HN.out).mono ?_
            rintro e w5 ⟨hE5, a3, c3, rfl, hL5⟩
            have HE5 := Lib.hid (HE4.out.trans hE5)
            have HL5 := Lib.hid hL5
            have HM5 := Lib.hid (own_ext HL4.out hE5)
            have HO5 := Lib.hid (HO4.out.ext hE5)
            generalize w4.heap.size = B5 at *
            clear hE5 hL5 HE4 HL4 HO4 HN
            go_wp2_with fail
            refine (HC.out _ HO5.out).mono ?_
            rintro e w6 ⟨hE6, rfl⟩
            have HE6 := Lib.hid (HE5.out.trans hE6)
            have HL6 := Lib.hid (own_ext HL5.out hE6)
            have HM6 := Lib.hid (own_ext HM5.out hE6)
            have HO6 := Lib.hid (HO5.out.ext hE6)
            clear hE6 HE5 HL5 HM5 HO5
            go_wp2_with fail
            refine (HP.out _ HO6.out).mono ?_
            rintro e w7 ⟨hE7, a4, c4, rfl, _⟩
            have HE7 := Lib.hid (HE6.out.trans hE7)
            have HL7 := Lib.hid (own_ext HL6.out hE7)
            have HM7 := Lib.hid (own_ext HM6.out hE7)
            clear hE7 HE6 HL6 HM6 HO6
            go_wp2_with fail
            go_loopw [14] (fun i wr => ∃ q : Nat, q ≤ L.length ∧ i = .int .i64 q ∧ Ext w7 wr) (fun i _ => L.length - (intOf i).toNat)
            case atStart => exact ⟨0, by omega, rfl, Ext.refl _⟩
            case round =>
              obtain ⟨q, hq, rfl, ⟨x, rfl⟩⟩ := hrel
              by_cases hlt : q < L.length
              · have hz : L[q]? = some L[q] := List.getElem?_eq_getElem hlt
                obtain ⟨g1, rfl, _, hg1, c0, c1'⟩ := keys_at HL7.out hz rfl
                obtain ⟨g2, rfl, _, hg2, d0, d1⟩ := keys_at HM7.out hz rfl
                generalize L[q] = k at *
                obtain ⟨s, p⟩ := k
                dsimp only at c0 c1' d0 d1
                obtain ⟨l1, l2, l3⟩ := lt_facts hg1
                obtain ⟨l4, l5, l6⟩ := lt_facts hg2
                have hqi : (q : Int) < L.length := by omega
                have hqi0 : 0 ≤ (q : Int) := by omega
                clear hz
                go_wp2_with fail
                go_region
                all_goals
                  go_wp2_with fail
                  go_roundw
                  case rel => exact ⟨q + 1, by omega, by go_num, (by repeat (first | exact Ext.refl _ | apply Ext.more | apply Ext.alloc | apply Ext.drew | apply Ext.drewN))⟩
                  case measure => simp [intOf]; omega
              · obtain rfl : q = L.length := by omega
                go_wp2_with fail
                go_ret
                exact ⟨(by repeat (first | exact HE7.out | apply Ext.more | apply Ext.alloc | apply Ext.drew | apply Ext.drewN)), rfl⟩
          · rw [if_neg hc] at hmc
            cases hmc

end Go.Proofs.Ythcdecgecabgaaa
