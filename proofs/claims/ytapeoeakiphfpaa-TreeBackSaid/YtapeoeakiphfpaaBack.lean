/- The law paviorlaw12.TreeBack. -/
import Derived.Test.YtapeoeakiphfpaaKeeq
import Derived.Test.YtapeoeakiphfpaaBacp
import Derived.Test.YtapeoeakiphfpaaLawg
import Derived.Test.YtapeoeakiphfpaaWipe
import Derived.Test.YtapeoeakiphfpaaBeds
namespace Go.Proofs.Ytapeoeakiphfpaa
open Go.RowKit
set_option linter.unusedVariables false
set_option linter.unusedSimpArgs false
attribute [local go_sem] setCell_drewN alloc_drewN lt_moreE le_moreE lt_moreK le_moreK cell_more frozen_more set_more drew_more drewN_more

/-- A row of steps stays where a memory's words turn. -/
theorem own_mem {w w' : World} {B b g n c m : Nat} {ws : List Int} {v : Value} {xs : List Value} (h : w.ownsRow B 73 10 v m xs) (hm : MemAt w b g n c ws) (hg : w.grownBy w' (some g)) : w'.ownsRow B 73 10 v m xs := by
  obtain ⟨cur, hc, _⟩ := hm.row
  exact h.kept hg (.inr (own_ne_box h hc (by decide)))
theorem own_memI {w w' : World} {B b g n c m : Nat} {ws : List Int} {v : Value} {xs : List Value} (h : w.ownsRow B 3 1 v m xs) (hm : MemAt w b g n c ws) (hg : w.grownBy w' (some g)) : w'.ownsRow B 3 1 v m xs := by
  obtain ⟨cur, hc, _⟩ := hm.row
  exact h.kept hg (.inr (own_ne_box h hc (by decide)))

theorem ints_rd {w : World} {n cap : Nat} {a : Option Addr} {l : List Int} (h : SlRd w (.slice a n cap) 1 (l.map intCells)) (hn : 0 < n) : ∃ b o, a = some ⟨b, o, none⟩ ∧ b < w.heap.size ∧ n ≤ cap ∧ ∀ i, i < l.length → w.cell? ⟨b, o + i, none⟩ = some (.int .i64 (l.getD i 0)) := by
  rcases h with ⟨h1, _⟩ | ⟨b, o, s, cap', h1, h2, h3, h4⟩
  · simp only [Value.slice.injEq] at h1; omega
  · simp only [Value.slice.injEq] at h1
    obtain ⟨rfl, rfl, rfl⟩ := h1
    rw [List.length_map] at hn
    have key : ∀ i (hi : i < l.length), s = none ∧ w.cell? ⟨b, o + (i * 1 + 0), none⟩ = some (.int .i64 (l.getD i 0)) := fun i hi => by
      have := h4 i (intCells l[i]) 0 (.int .i64 l[i]) (by rw [List.getElem?_map, List.getElem?_eq_getElem hi]; rfl) rfl
      simpa [List.getD, List.getElem?_eq_getElem hi] using this
    obtain ⟨rfl, h0⟩ := key 0 hn
    refine ⟨b, o, rfl, World.block_lt_of_cell? _ _ h0, by simpa using h2, fun i hi => by simpa using (key i hi).2⟩
/-- Is it one of the first p? -/
def hasIn (l : List Int) (x : Int) (p : Nat) : Bool := decide (x ∈ l.take p)
theorem hasIn_zero (l : List Int) (x : Int) : hasIn l x 0 = false := by simp [hasIn]
theorem hasIn_yes {l : List Int} {x : Int} {p : Nat} (h : hasIn l x p = true) : hasIn l x (p + 1) = true := by
  have := of_decide_eq_true h
  exact decide_eq_true ((List.take_sublist_take_left (Nat.le_succ p)).subset this)
theorem hasIn_no {l : List Int} {x : Int} {p : Nat} (hp : p < l.length) (h : hasIn l x p = false) : hasIn l x (p + 1) = (l.getD p 0 == x) := by
  have h1 : ¬ x ∈ l.take p := of_decide_eq_false h
  rw [Bool.eq_iff_iff]
  show decide (x ∈ l.take (p + 1)) = true ↔ _
  rw [decide_eq_true_iff, List.take_succ_eq_append_getElem hp, List.mem_append, List.getD, List.getElem?_eq_getElem hp]
  simp only [h1, false_or, List.mem_singleton, Option.getD_some, beq_iff_eq]
  exact ⟨Eq.symm, Eq.symm⟩
theorem hasIn_all {l : List Int} {x : Int} (h : x ∈ l) : hasIn l x l.length = true := decide_eq_true (by rw [List.take_length]; exact h)

set_option maxRecDepth 100000 in
set_option maxHeartbeats 8000000 in
theorem law12_TreeBack (w : World) (fr : Int) (hfr : (Lit.int .i64 fr).wf = true) (l : List Laid) (hl : ∀ d ∈ l, d.wf) (v : Value) (hv : SlRd w v 3 (l.map Laid.cells)) (root : Int) (_ : (Lit.int .i64 root).wf = true) (page : Int) (_ : (Lit.int .i64 page).wf = true) (level : Int) (_ : (Lit.int .i64 level).wf = true)
    (fresh : List Int) (_ : ∀ n ∈ fresh, (Lit.int .i64 n).wf = true) (vf : Value) (hvf : SlRd w vf 1 (fresh.map intCells)) :
    Calls Try.prog 6 #[.int .i64 fr, v, .int .i64 root, .int .i64 page, .int .i64 level, vf] w fun e w' => e = .returned (.bool true) ∧ w.grownBy w' none := by
  refine growC (R := fun e _ => e = .returned (.bool true)) ?_
  have hw := WOk_layW (layN fr) l hl
  have hn1 := layN_lo fr
  have hn2 := layN_hi fr
  have HL := Lib.hid hl
  have HV := Lib.hid hv
  have HR := Lib.hid hfr
  obtain ⟨fa, fcap, rfl, hfcap, hfc⟩ := hvf.form
  rw [List.length_map] at *
  have hcap' : fresh.length ≤ 9223372036854775807 := by unfold maxLen at hfcap; exact hfcap
  have HF := Lib.hid hvf
  have HW := Lib.hid hw
  clear hl hv hfr hvf hfc hfcap hw
  go_enter Try.func6, Try.ntmps6
  go_wp2_with fail
  refine (law12_up _).mono ?_
  rintro e w1 ⟨⟨ex1, rfl⟩, rfl⟩
  go_wp2_with fail
  refine (law04_Lay _ fr HR.out l HL.out v (by repeat (first | exact HV.out | apply rd_more | apply rd_alloc | apply rd_drew | apply rd_drewN))).mono ?_
  rintro e w2 ⟨b, g, h, hc, gb, gc, rfl, hm2, hr2, hgr2, _, hgB, _⟩
  have hE : Ext _ w2 := .of hgr2
  have hE2 : Ext w w2 := Ext.trans (by repeat (first | exact Ext.refl _ | apply Ext.more | apply Ext.alloc | apply Ext.drew | apply Ext.drewN)) hE
  have hgw : w.heap.size ≤ g := Nat.le_trans (size_le_more _ _) hgB
  clear hgr2 hgB hr2
  have HM := Lib.hid hm2
  have HE2 := Lib.hid hE2
  clear HL HV HR hE hE2 hm2
  generalize layW (layN fr) l = ws at *
  generalize layN fr = n at *
  by_cases h20 : 20 < fresh.length
  · clear HF
    go_wp2_with fail
    go_ret
    exact ⟨(by repeat (first | exact HE2.out | apply Ext.more | apply Ext.alloc | apply Ext.drew | apply Ext.drewN)), rfl⟩
  have hfl : fresh.length ≤ 20 := by omega
  obtain ⟨rt, hrt⟩ : ∃ rt, tabsQ ws n root = rt := ⟨_, rfl⟩
  have HT := Lib.hid (fun w hm => tree_TablesQ (b := b) (g := g) (c := n) w hm HW.out root rt hrt)
  have HRT := Lib.hid hrt
  clear hrt
  go_wp2_with fail
  refine (HT.out _ (by repeat (first | exact HM.out | apply MemAt.more | apply MemAt.alloc | apply MemAt.drew | apply MemAt.drewN))).mono ?_
  rintro e w3 ⟨hE3, hq⟩
  have HE3 := Lib.hid (HE2.out.trans hE3)
  have HM3 := Lib.hid (HM.out.kept0 hE3.grow)
  have HF3 := Lib.hid (HF.out.kept0 HE3.out.grow)
  have hbB := hE3.size
  generalize w2.heap.size = B2 at *
  clear HT HM HE2 hE3
  cases rt with
  | none =>
    obtain ⟨k, rfl⟩ := hq
    clear HF3 HM3
    go_wp2_with fail
    go_ret
    exact ⟨(by repeat (first | exact HE3.out | apply Ext.more | apply Ext.alloc | apply Ext.drew | apply Ext.drewN)), rfl⟩
  | some t =>
    obtain ⟨ta, tcap, rfl, hot⟩ := hq
    obtain ⟨r0, r1, hat⟩ := tabsQ_some HRT.out
    obtain ⟨tl0, tl1⟩ := tabs_len _ _ _ _ hat
    have HAT := Lib.hid hat
    have HOT := Lib.hid hot
    have tok1 : True := trivial
    have HT1 := Lib.hid (all_flat intC Value.oneCell' (fun a => rfl) t)
    clear hot hat HRT
    go_wp2_with (first
      | (have _t := tok1; at_builtin; refine wpList_append_row w3 el_int rfl _ _ rfl (.slice (some ⟨w3.heap.size, 0, none⟩) 0 0) 0 [] rfl (own_lit' rfl (Nat.le_refl _) rfl (by decide) rfl rfl) (by repeat (first | exact Ext.refl _ | apply Ext.more | apply Ext.alloc | apply Ext.drew | apply Ext.drewN)) B2 _ t.length _ rfl (by repeat (first | exact HOT.out | apply own_more | apply own_alloc | apply own_drew | apply own_drewN)) tl0 HT1.out (by omega) ?_; intro v1 x1 HO1 keep; clear keep tok1)
      | (at_builtin; refine wpList_append_in w3 el_int rfl _ _ rfl v1 (0 + t.length) _ rfl HO1.out (by repeat (first | exact Ext.refl _ | apply Ext.more | apply Ext.alloc | apply Ext.drew | apply Ext.drewN)) _ (fresh.map intCells) rfl (by repeat (first | exact HF3.out | apply rd_more | apply rd_alloc | apply rd_drew | apply rd_drewN)) (ints_one _) (ints_flat _) (by simp; omega) ?_; intro v2 x2 HO2 keep; clear keep))
    obtain ⟨aa, acap, rfl⟩ := own_form HO2.out
    obtain ⟨N, hN⟩ : ∃ N, 0 + t.length + (fresh.map intCells).length = N := ⟨_, rfl⟩
    have hNl : N = (t ++ fresh).length := by rw [← hN]; simp
    have ho2 : (more w3 x2).ownsRow w3.heap.size 3 1 (.slice aa N acap) N ((t ++ fresh).map intC).flatten := by
      have := HO2.out
      rw [hN] at this
      rw [List.map_append, List.flatten_append]
      exact this
    obtain ⟨ag, rfl, _, hag, hac, hacm, hcell⟩ := ints_cell ho2 (by omega) hNl
    rw [hN]
    have hNb : N ≤ 7000 := by rw [hNl, List.length_append]; omega
    have hacm' : acap ≤ 9223372036854775807 := by unfold maxLen at hacm; exact hacm
    have HCl := Lib.hid hcell
    have HNl := Lib.hid hNl
    have HM4 := Lib.hid (show MemAt (more w3 x2) b g n n ws from (by repeat (first | exact HM3.out | apply MemAt.more | apply MemAt.alloc | apply MemAt.drew | apply MemAt.drewN)))
    have HF4 := Lib.hid (show SlRd (more w3 x2) _ _ _ from (by repeat (first | exact HF3.out | apply rd_more | apply rd_alloc | apply rd_drew | apply rd_drewN)))
    have HE4 := Lib.hid (HE3.out.more x2)
    clear hNl hcell ho2 HO1 HO2 hN HOT HT1 HM3 HF3 HE3 hacm
    generalize more w3 x2 = W4 at *
    generalize hall : t ++ fresh = all at *
    have HAll := Lib.hid hall
    obtain ⟨g1, g2, g3⟩ := lt_facts hag
    clear hall
    go_loopw [19, 20] (fun i _ wr => ∃ q : Nat, q ≤ N ∧ i = .int .i64 q ∧ Ext W4 wr ∧ Hid (Unlike all q)) (fun i _ _ => N - (intOf i).toNat)
    case atStart => exact ⟨0, Nat.zero_le _, rfl, Ext.refl _, unlike_zero _⟩
    case round =>
      obtain ⟨q, hq, rfl, hEr, HU⟩ := hrel
      obtain ⟨wo, rfl⟩ : ∃ wo : World, wo = wr := ⟨_, rfl⟩
      have HEr := Lib.hid hEr
      clear hEr
      by_cases hlt : q < N
      · go_wp2_with fail
        go_loopw [20] (fun i wi => ∃ p : Nat, p ≤ q ∧ i = .int .i64 p ∧ Ext W4 wi ∧ Hid (UnlikeAt all q p)) (fun i _ => q - (intOf i).toNat)
        case atStart => exact ⟨0, Nat.zero_le _, rfl, HEr.out, unlikeAt_zero _ _⟩
        case round =>
          obtain ⟨p, hp, rfl, ⟨xi, rfl⟩, HUA⟩ := hrel
          by_cases hpl : p < q
          · have y0 := HCl.out p (by omega)
            have y1 := HCl.out q hlt
            by_cases heq : all.getD p 0 = all.getD q 0
            · have heb : (all.getD p 0 == all.getD q 0) = true := by simpa using heq
              clear heq
              generalize all.getD p 0 = X at *
              generalize all.getD q 0 = Y at *
              go_wp2_with fail
              go_region
              all_goals
                go_wp2_with fail
                go_ret
                exact ⟨(by repeat (first | exact HE4.out | apply Ext.more | apply Ext.alloc | apply Ext.drew | apply Ext.drewN)), rfl⟩
            · have heb : (all.getD p 0 == all.getD q 0) = false := by simpa using heq
              have HN := Lib.hid (show Hid (UnlikeAt all q (p + 1)) from unlikeAt_succ HUA.out heq)
              clear heq
              generalize all.getD p 0 = X at *
              generalize all.getD q 0 = Y at *
              go_wp2_with fail
              go_region
              all_goals
                go_wp2_with fail
                go_roundw
                case rel => exact ⟨p + 1, by omega, by go_num, (by repeat (first | exact Ext.refl _ | apply Ext.more | apply Ext.alloc | apply Ext.drew | apply Ext.drewN)), HN.out⟩
                case measure => simp [intOf]; omega
          · obtain rfl : p = q := by omega
            have HN := Lib.hid (show Hid (Unlike all (p + 1)) from unlike_succ HU.out HUA.out)
            go_wp2_with fail
            go_roundw
            case rel => exact ⟨p + 1, by omega, by go_num, (by repeat (first | exact Ext.refl _ | apply Ext.more | apply Ext.alloc | apply Ext.drew | apply Ext.drewN)), HN.out⟩
            case measure => simp [intOf]; omega
      · obtain rfl : q = N := by omega
        obtain ⟨xr, rfl⟩ := HEr.out
        have hu := HU.out
        rw [HNl.out] at hu
        have hnd := unlike_nodup hu
        rw [← HAll.out] at hnd
        have HND := Lib.hid hnd
        have HM5 := Lib.hid (show MemAt (more W4 xr) b g n n ws from (by repeat (first | exact HM4.out | apply MemAt.more | apply MemAt.alloc | apply MemAt.drew | apply MemAt.drewN)))
        have HF5 := Lib.hid (show SlRd (more W4 xr) _ _ _ from (by repeat (first | exact HF4.out | apply rd_more | apply rd_alloc | apply rd_drew | apply rd_drewN)))
        have HE5 := Lib.hid (HE4.out.more xr)
        clear hu hnd HEr HU HCl HM4 HF4 HE4 hlt hq HNl HAll
        generalize more W4 xr = W5 at *
        obtain ⟨R, hR⟩ : ∃ R, pathQ ws n root 1 page level fresh = R := ⟨_, rfl⟩
        have HP := Lib.hid (fun w hm v hv => tree_PathQ (b := b) (g := g) (c := n) w hm HW.out root 1 page level fresh v hv (by omega) R hR)
        have HPR := Lib.hid hR
        clear hR
        go_wp2_with fail
        refine (HP.out _ (by repeat (first | exact HM5.out | apply MemAt.more | apply MemAt.alloc | apply MemAt.drew | apply MemAt.drewN)) _ (by repeat (first | exact HF5.out | apply rd_more | apply rd_alloc | apply rd_drew | apply rd_drewN))).mono ?_
        rintro e w6 ⟨hE6, hq6⟩
        cases R with
        | no k =>
          obtain rfl := hq6
          have HEt := Lib.hid (HE5.out.trans hE6)
          clear hE6 HM5 HE5 HP HPR
          go_wp2_with fail
          go_ret
          exact ⟨(by repeat (first | exact HEt.out | apply Ext.more | apply Ext.alloc | apply Ext.drew | apply Ext.drewN)), rfl⟩
        | yes st tt =>
          obtain ⟨sa, scap, rfl, hos⟩ := hq6
          obtain ⟨L, rfl, _, _, p0, p1, l0, l1, hres⟩ := pathQ_yes HPR.out
          have hwl := HM5.out.len
          obtain ⟨_, _, hok, hsl⟩ := path_keeps (by omega) hwl r0 r1 l1 HAT.out HND.out hres
          obtain ⟨hin, hlf, sp, gone, hpr, hgl, hgm⟩ := path_back (by omega) hwl r0 r1 p0 p1 l1 HAT.out HND.out hres
          obtain ⟨tx, ty⟩ := tt
          dsimp only at *
          have HOs := Lib.hid (own_alloc hos (.cells #[.int .i64 tx, .int .i64 ty] 61))
          have HIn := Lib.hid hin
          have HPr := Lib.hid hpr
          have HGm := Lib.hid hgm
          have HWU := Lib.hid (WOk_doW _ _ HW.out hok : WOk (doW n ws st))
          have HM7 := Lib.hid ((HM5.out.kept0 hE6.grow).alloc (.cells #[.int .i64 tx, .int .i64 ty] 61))
          have HE7 := Lib.hid ((HE5.out.trans hE6).alloc (.cells #[.int .i64 tx, .int .i64 ty] 61))
          have hsc := own_cap hos
          have hsc1 := hsc.2.1
          have hsc2 : scap ≤ 9223372036854775807 := by have := hsc.2.2; unfold maxLen at this; exact this
          clear hos hok hres hE6 HP HPR HM5 HE5 HF5 hin hpr hgm hwl hsc HND
          go_wp2_with fail
          generalize w6.alloc (.cells #[.int .i64 tx, .int .i64 ty] 61) = W7 at *
          generalize w6.heap.size = B7 at *
          generalize W5.heap.size = B5 at *
          go_loopw [24] (fun i wr => ∃ q : Nat, q ≤ st.length ∧ i = .int .i64 q ∧ Ext w wr ∧ Hid (MemAt wr b g n n (doW n ws (st.take q))) ∧ Hid (OwnS wr B5 (.slice sa st.length scap) st)) (fun i _ => st.length - (intOf i).toNat)
          case atStart => exact ⟨0, Nat.zero_le _, rfl, HE7.out, HM7, HOs⟩
          case round =>
            obtain ⟨q', hq', rfl, hEr, HMr, HOr⟩ := hrel
            have HEr := Lib.hid hEr
            clear hEr
            by_cases hlt : q' < st.length
            · have HS := Lib.hid (show doW n ws (st.take (q' + 1)) = stepW n (doW n ws (st.take q')) st[q'] from foldl_take_succ (stepW n) ws st q' hlt)
              have hz : st[q']? = some st[q'] := List.getElem?_eq_getElem hlt
              have hI := HIn.out _ (List.getElem_mem hlt)
              generalize doW n ws (st.take q') = vs at *
              generalize st[q'] = s at *
              obtain ⟨sg, rfl, _, hsg, _, hscl, _⟩ := own_at HOr.out (by omega)
              obtain ⟨y0, y1, y2, y3, y4, y5, y6, y7, y8, y9⟩ := step_at hscl q' s hz
              obtain ⟨kd, asd, lv, tb, pl, fi, va, to', fr', ii⟩ := s
              obtain ⟨f1, f2, f3⟩ := lt_facts hsg
              dsimp only at *
              clear hscl
              rcases hI with ⟨rfl, i0, i1⟩ | ⟨rfl, i0, i1, i2, i3⟩
              · have HC := Lib.hid (phys_Clear_int wr HMr.out to' i0 i1)
                have HV := Lib.hid (show stepW n vs ⟨4, asd, lv, tb, pl, fi, va, to', fr', ii⟩ = clearW vs to'.toNat from by unfold stepW; rw [if_neg (show ¬ (4 : Int) = 1 by omega), if_pos rfl, if_pos (show hasB n to' 0 = true from decide_eq_true ⟨i0, i1, by omega, by omega⟩)])
                go_wp2_with fail
                refine HC.out.mono ?_
                rintro e w9 ⟨rfl, hm9, hg9⟩
                have ho9 := own_mem HOr.out HMr.out hg9
                have hE9 : Ext w w9 := .of (grow_new HEr.out.grow hg9 hgw)
                obtain ⟨sg', e', _, hsg', _, hscl', _⟩ := own_at ho9 (by omega)
                obtain rfl : sg = sg' := by simpa using e'
                obtain ⟨z0, z1, z2, z3, z4, z5, z6, z7, z8, z9⟩ := step_at hscl' q' _ hz
                dsimp only at *
                have HM9 := Lib.hid hm9
                have HO9 := Lib.hid ho9
                have HE9 := Lib.hid hE9
                clear hscl' e' hm9 hg9 ho9 hE9 HC y0 y1 y2 y3 y4 y5 y6 y7 y8 y9 hz
                go_wp2_with fail
                go_roundw
                case rel => exact ⟨q' + 1, by omega, by go_num, HE9.out, show MemAt _ _ _ _ _ _ from by rw [HS.out, HV.out]; exact HM9.out, HO9.out⟩
                case measure => simp [intOf]; omega
              · have HV := Lib.hid (show stepW n vs ⟨1, asd, lv, tb, pl, fi, va, to', fr', ii⟩ = vs.set (tb.toNat * 8 + pl.toNat) va from stepW_write rfl ⟨i0, i1, i2, i3⟩)
                clear hz
                go_wp2_with fail
                refine wp_region_still_tail 16 (by kernel_rfl) (by kernel_rfl) ?_
                simp only [List.take_succ_cons, List.take_zero, List.drop_succ_cons, List.drop_zero]
                repeat still_step
                refine wpStill_nil ?_
                go_wp2_with fail
                refine (phys_Store_int _ (by repeat (first | exact HMr.out | apply MemAt.more | apply MemAt.alloc | apply MemAt.drew | apply MemAt.drewN)) tb pl va i0 i1 i2 i3).mono ?_
                rintro e w9 ⟨rfl, hm9, hg9⟩
                have HM9 := Lib.hid hm9
                have HO9 := Lib.hid (own_mem (by repeat (first | exact HOr.out | apply own_more | apply own_alloc | apply own_drew | apply own_drewN)) ((by repeat (first | exact HMr.out | apply MemAt.more | apply MemAt.alloc | apply MemAt.drew | apply MemAt.drewN)) : MemAt wr.drew b g n n vs) hg9)
                have HE9 := Lib.hid (show Ext w w9 from .of (grow_new (HEr.out.drew).grow hg9 hgw))
                clear hm9 hg9
                go_wp2_with fail
                go_roundw
                case rel => exact ⟨q' + 1, by omega, by go_num, HE9.out, show MemAt _ _ _ _ _ _ from by rw [HS.out, HV.out]; exact HM9.out, HO9.out⟩
                case measure => simp [intOf]; omega
            · obtain rfl : q' = st.length := by omega
              rw [List.take_of_length_le (Nat.le_refl _)] at HMr
              clear hlt hq' HOs HM7 HE7
              have HQ := Lib.hid (fun w hm => tree_PruneQ (b := b) (g := g) (c := n) w hm HWU.out root 1 page _ HPr.out)
              go_wp2_with fail
              refine (HQ.out _ (by repeat (first | exact HMr.out | apply MemAt.more | apply MemAt.alloc | apply MemAt.drew | apply MemAt.drewN))).mono ?_
              rintro e wq ⟨hEq, sa2, scap2, ga2, gcap2, rfl, _, hog⟩
              have HOg := Lib.hid hog
              have HEq := Lib.hid (HEr.out.trans hEq)
              have HFq := Lib.hid (HF.out.kept0 HEq.out.grow)
              clear hog hEq HQ HMr HOr HEr
              generalize wr.heap.size = Bq at *
              clear wr
              go_wp2_with fail
              go_loopw [28, 29, 30] (fun i _ _ wr => ∃ k : Nat, (k : Int) ≤ (st.length : Int) / 2 ∧ i = .int .i64 k ∧ Ext wq wr) (fun i _ _ _ => st.length - (intOf i).toNat)
              case atStart => exact ⟨0, by omega, rfl, Ext.refl _⟩
              case round =>
                obtain ⟨k, hk, rfl, hEo⟩ := hrel
                obtain ⟨wo, rfl⟩ : ∃ wo : World, wo = wr := ⟨_, rfl⟩
                have HEo := Lib.hid hEo
                clear hEo
                by_cases hlt : (k : Int) < (st.length : Int) / 2
                · have hkf : k < fresh.length := by omega
                  obtain ⟨fb, fo, rfl, hfb, hfc, hfcl⟩ := ints_rd HFq.out (by omega)
                  have x0 := hfcl k hkf
                  have HX := Lib.hid (HGm.out k (by omega))
                  generalize fresh.getD k 0 = X at *
                  clear hfcl
                  obtain ⟨k1, k2, k3⟩ := lt_facts hfb
                  go_wp2_with fail
                  go_loopw [29, 30] (fun hb i wi => ∃ (p : Nat) (bv : Bool), p ≤ gone.length ∧ i = .int .i64 p ∧ hb = .bool bv ∧ Ext wq wi ∧ Hid (hasIn gone X p = bv)) (fun _ i _ => gone.length - (intOf i).toNat)
                  case atStart => exact ⟨0, _, Nat.zero_le _, rfl, rfl, HEo.out, hasIn_zero _ _⟩
                  case round =>
                    obtain ⟨p, bv, hp, rfl, rfl, ⟨xi, rfl⟩, HB⟩ := hrel
                    by_cases hpl : p < gone.length
                    · obtain ⟨gg, rfl, _, hgg, hgcap, hgcl, _⟩ := own_at HOg.out (by omega)
                      have x1 := hgcl p (.int .i64 (gone.getD p 0)) (by rw [List.getElem?_map, List.getElem?_eq_getElem hpl]; simp [List.getD, List.getElem?_eq_getElem hpl])
                      obtain ⟨j1, j2, j3⟩ := lt_facts hgg
                      clear hgcl
                      cases bv with
                      | true =>
                        have HN := Lib.hid (hasIn_yes HB.out)
                        go_wp2_with fail
                        go_quiet (fail)
                        go_wp2_with fail
                        go_roundw
                        case rel => exact ⟨p + 1, _, by omega, by go_num, rfl, (by repeat (first | exact Ext.refl _ | apply Ext.more | apply Ext.alloc | apply Ext.drew | apply Ext.drewN)), HN⟩
                        case measure => simp [intOf]; omega
                      | false =>
                        have hn := hasIn_no hpl HB.out
                        generalize gone.getD p 0 = Y at *
                        obtain ⟨b2, hb2⟩ : ∃ b2, (Y == X) = b2 := ⟨_, rfl⟩
                        rw [hb2] at hn
                        have HN := Lib.hid hn
                        clear hn
                        go_wp2_with fail
                        go_quiet (fail)
                        go_wp2_with fail
                        go_roundw
                        case rel => exact ⟨p + 1, _, by omega, by go_num, rfl, (by repeat (first | exact Ext.refl _ | apply Ext.more | apply Ext.alloc | apply Ext.drew | apply Ext.drewN)), HN⟩
                        case measure => simp [intOf]; omega
                    · obtain rfl : p = gone.length := by omega
                      obtain rfl : bv = true := by rw [← HB.out]; exact hasIn_all HX.out
                      go_wp2_with fail
                      go_roundw
                      case rel => exact ⟨k + 1, by omega, by go_num, (by repeat (first | exact Ext.refl _ | apply Ext.more | apply Ext.alloc | apply Ext.drew | apply Ext.drewN))⟩
                      case measure => simp [intOf]; omega
                · have hge : ((st.length : Int) / 2) ≤ k := by omega
                  go_wp2_with fail
                  go_ret
                  exact ⟨HEq.out.trans HEo.out, rfl⟩

end Go.Proofs.Ytapeoeakiphfpaa
