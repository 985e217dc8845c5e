import Derived.Test.YtapeoeakiphfpaaMovb
import Derived.Test.YtapeoeakiphfpaaBKeeqBacpSplpKeyCopyLawaLawb
import Derived.Test.YtapeoeakiphfpaaBRightsPlaqRighttPltp
import Derived.StillTailTactics
/- The law paviorlaw18.MoveBack. -/
namespace Go.Proofs.Ytapeoeakiphfpaa
open Go.RowKit
set_option linter.unusedVariables false
set_option linter.unusedSimpArgs false
attribute [local go_sem] setCell_drewN alloc_drewN lt_moreE le_moreE lt_moreK le_moreK cell_more frozen_more set_more drew_more drewN_more

theorem tabs_range {ws : List Int} {n : Int} : ∀ (k : Nat) (lv t : Int) (r : List Int), tabsAt ws n k lv t = some r → ∀ T ∈ r, 0 ≤ T ∧ T < n := by
  intro k
  induction k with
  | zero => intro lv t r h; simp [tabsAt] at h
  | succ k ih =>
    intro lv t r h
    by_cases ht : 0 ≤ t ∧ t < n
    · rw [tabsAt_in ht] at h
      have key : ∀ (j i : Nat), i + j = 8 → ∀ (l r : List Int), (∀ T ∈ l, 0 ≤ T ∧ T < n) → tabsFrom ws n k lv t i l = some r → ∀ T ∈ r, 0 ≤ T ∧ T < n := by
        intro j
        induction j with
        | zero =>
          intro i hi l r hl hr
          obtain rfl : i = 8 := by omega
          rw [tabsFrom_end] at hr
          cases hr
          exact hl
        | succ j ihj =>
          intro i hi l r hl hr
          by_cases hk : (decD lv (ws.getD (t.toNat * 8 + i) 0)).fKind = 1
          · cases hm : tabsAt ws n k (lv + 1) (decD lv (ws.getD (t.toNat * 8 + i) 0)).fFrame with
            | none => rw [tabsFrom_no (by omega) rfl hk hm] at hr; cases hr
            | some m =>
              rw [tabsFrom_go (by omega) rfl hk hm] at hr
              exact ihj (i + 1) (by omega) _ _ (fun T hT => (List.mem_append.1 hT).elim (hl T) (ih _ _ _ hm T)) hr
          · rw [tabsFrom_skip (by omega) rfl hk] at hr
            exact ihj (i + 1) (by omega) _ _ hl hr
      exact key 8 0 rfl [t] r (fun T hT => by rw [List.mem_singleton.1 hT]; exact ht) h
    · rw [tabsAt_out ht] at h; cases h
/-- The tables of the first roots. -/
structure TabsTo (ws : List Int) (n : Nat) (rs : List (Int × Int)) (i : Nat) (ts : List (List Int)) : Prop where
  len : ts.length = i
  all : ∀ (j : Nat) t, ts[j]? = some t → tabsAt ws n 4 0 (rs.getD j (0, 0)).2 = some t
theorem tabsTo_succ {ws : List Int} {n : Nat} {rs : List (Int × Int)} {i : Nat} {ts : List (List Int)} (h : TabsTo ws n rs i ts) {z : Int × Int} (hz : rs[i]? = some z) {t : List Int} (ht : tabsAt ws n 4 0 z.2 = some t) : TabsTo ws n rs (i + 1) (ts ++ [t]) := by
  refine ⟨by rw [List.length_append, h.len]; rfl, fun j u hu => ?_⟩
  by_cases hj : j < ts.length
  · rw [List.getElem?_append_left hj] at hu
    exact h.all j u hu
  · rw [List.getElem?_append_right (by omega)] at hu
    have h0 : j - ts.length = 0 := by have := (List.getElem?_eq_some_iff.1 hu).1; simp at this; omega
    rw [h0] at hu
    have hji : j = i := by have := h.len; omega
    subst hji
    have : t = u := by simpa using hu
    rw [← this, List.getD_eq_getElem?_getD, hz]
    exact ht
def allI (frm to : Int) (ts : List (List Int)) : List Int := frm :: to :: ts.flatten
theorem allI_snoc (frm to : Int) (ts : List (List Int)) (t : List Int) : allI frm to (ts ++ [t]) = allI frm to ts ++ t := by simp [allI]
theorem tabs_to_tabs {ws : List Int} {n : Nat} {rs : List (Int × Int)} {frm to : Int} {ts : List (List Int)} (h : TabsTo ws n rs rs.length ts) (hnd : (allI frm to ts).Nodup) : MoveTabs ws n rs frm to ts := ⟨h.len, h.all, hnd⟩
theorem keepM_grow {w w' : World} {g : Nat} {cs : Array Value} {fr : Nat × Nat} (h : w.grownBy w' (some g)) (hg : w.heap[g]? = some (.cells cs 131 fr)) : KeepM w w' := by
  intro k ob hk hn
  refine (h.block k (Array.getElem?_eq_some_iff.1 hk).1 ?_).trans hk
  intro e
  injection e with e
  subst e
  rw [hg] at hk
  cases hk
  exact hn _ _ rfl
theorem copy_off {ws : List Int} {t f j : Nat} (h : j / 8 ≠ t) : (copyW ws t f).getD j 0 = ws.getD j 0 := by
  unfold copyW
  repeat (rw [getD_setI, if_neg (by omega)])
theorem copy_len (ws : List Int) (t f : Nat) : (copyW ws t f).length = ws.length := by simp [copyW]
theorem WOk_copy {ws : List Int} (h : WOk ws) (t f : Nat) : WOk (copyW ws t f) := by
  unfold copyW
  repeat refine WOk_set ?_ _ _ (h.getD _).1 (h.getD _).2
  exact h
theorem doX_succ {n k : Nat} {C : List Step} (ws : List Int) {s : Step} (hz : C[k]? = some s) : doX n ws (C.take (k + 1)) = stepX n (doX n ws (C.take k)) s := by
  rw [take_snoc hz, doX_append]
  rfl
theorem WOk_doX {n : Nat} : ∀ (l : List Step) (ws : List Int), WOk ws → (∀ s ∈ l, WrOk n s ∨ s.fKind ≠ 1) → WOk (doX n ws l) := by
  intro l
  induction l with
  | nil => intro ws h _; exact h
  | cons s l ih =>
    intro ws h hs
    show WOk (doX n (stepX n ws s) l)
    refine ih _ ?_ fun x hx => hs x (.tail _ hx)
    unfold stepX
    split
    · rename_i hk
      exact WOk_stepW h ((hs s (.head _)).elim (fun h => h.ok) (fun hn => absurd hk hn))
    · exact h

set_option maxRecDepth 100000 in
set_option maxHeartbeats 8000000 in
theorem law18_MoveBack (w : World) (fr : Int) (hfr : (Lit.int .i64 fr).wf = true) (l : List Laid) (hl : ∀ d ∈ l, d.wf) (v : Value) (hv : SlRd w v 3 (l.map Laid.cells)) (roots : List Root) (_ : ∀ d ∈ roots, d.wf) (rv : Value) (hrv : SlRd w rv 2 (roots.map Root.cells)) (pages : List Where) (_ : ∀ d ∈ pages, d.wf) (pv : Value) (hpv : SlRd w pv 2 (pages.map Where.cells)) (frm : Int) (_ : (Lit.int .i64 frm).wf = true) (to : Int) (_ : (Lit.int .i64 to).wf = true) :
    Calls Try.prog 13 #[.int .i64 fr, v, rv, pv, .int .i64 frm, .int .i64 to] w fun e w' => e = .returned (.bool true) ∧ w.grownBy w' none := by
  refine growC (R := fun e _ => e = .returned (.bool true)) ?_
  rw [roots_slots] at hrv
  rw [wheres_slots] at hpv
  generalize roots.map rootP = rs at *
  generalize pages.map whereP = ps at *
  have hw := WOk_layW (layN fr) l hl
  have hn1 := layN_lo fr
  have hn2 := layN_hi fr
  have HL := Lib.hid hl
  have HV := Lib.hid hv
  have HR := Lib.hid hfr
  have HRv := Lib.hid hrv
  have HPv := Lib.hid hpv
  have HW := Lib.hid hw
  obtain ⟨ra, rcap, rfl, hrcap, hrc⟩ := hrv.form
  obtain ⟨fa, fcap, rfl, hfcap, _⟩ := hpv.form
  have HRC := Lib.hid hrc
  clear hl hv hfr hrv hpv hrc hw
  rw [List.length_map] at *
  go_enter Try.func13, Try.ntmps13
  go_wp2_with fail
  refine (law18_up _).mono ?_
  rintro e w1 ⟨⟨ex1, rfl⟩, rfl⟩
  go_wp2_with fail
  refine (law04_Lay _ fr HR.out l HL.out v (by repeat (first | exact HV.out | apply rd_more | apply rd_alloc | apply rd_drew | apply rd_drewN))).mono ?_
  rintro e w2 ⟨b, g, h, hc, gb, gc, rfl, hm2, hr2, hg2, _, hgg, _, _⟩
  have hE : Ext (more w ex1) w2 := .of hg2
  have hE2 : Ext w w2 := Ext.trans (by repeat (first | exact Ext.refl _ | apply Ext.more | apply Ext.alloc | apply Ext.drew | apply Ext.drewN)) hE
  have hgw : w.heap.size ≤ g := by have := size_le_more w ex1; omega
  have HM := Lib.hid hm2
  have HRF := Lib.hid hr2
  have HE2 := Lib.hid hE2
  clear HL HV HR hE hE2 hr2 hm2 hg2 hgg
  generalize layW (layN fr) l = ws at *
  generalize layN fr = n at *
  by_cases h4 : 4 < rs.length
  · go_wp2_with fail
    go_ret
    exact ⟨(by repeat (first | exact HE2.out | apply Ext.more | apply Ext.alloc | apply Ext.drew | apply Ext.drewN)), rfl⟩
  by_cases h20 : 20 < ps.length
  · go_wp2_with fail
    go_ret
    exact ⟨(by repeat (first | exact HE2.out | apply Ext.more | apply Ext.alloc | apply Ext.drew | apply Ext.drewN)), rfl⟩
  have h4' : rs.length ≤ 4 := by omega
  have h20' : ps.length ≤ 20 := by omega
  clear h4 h20
  obtain ⟨R, hR⟩ : ∃ R, moveRes ws n rs ps frm to = R := ⟨_, rfl⟩
  have HT := Lib.hid (fun w c (hm : MemAt w b g n c ws) rv hrv pv hpv => move_Move_any w hm HW.out rs rv hrv ps pv hpv (by omega) frm to R hR)
  have HRR := Lib.hid hR
  clear hR
  go_wp2_with fail
  refine (HT.out _ _ (by repeat (first | exact HM.out | apply MemAt.more | apply MemAt.alloc | apply MemAt.drew | apply MemAt.drewN)) _ (HRv.out.kept0 HE2.out.grow) _ (HPv.out.kept0 HE2.out.grow)).mono ?_
  rintro e w3 ⟨hE3, hq3⟩
  have HM3 := Lib.hid (HM.out.kept0 hE3.grow)
  have HRF3 := Lib.hid (HRF.out.kept0 hE3.grow)
  have HE3 := Lib.hid (HE2.out.trans hE3)
  generalize w2.heap.size = B2 at *
  clear hE3 HM HRF HE2 HT
  cases R with
  | no k =>
    replace hq3 : e = .returned (.tuple #[.slice none 0 0, errW k]) := hq3
    subst hq3
    go_wp2_with fail
    go_ret
    exact ⟨(by repeat (first | exact HE3.out | apply Ext.more | apply Ext.alloc | apply Ext.drew | apply Ext.drewN)), rfl⟩
  | yes S =>
    obtain ⟨sa, scap, rfl, hos⟩ := hq3
    have HOS := Lib.hid hos
    have hscap := own_cap hos
    have hscap1 := hscap.2.1
    have hscap2 : scap ≤ 9223372036854775807 := by have := hscap.2.2; unfold maxLen at this; exact this
    obtain ⟨out, hSo, hMv⟩ := move_yes HRR.out
    have HMv := Lib.hid hMv
    have HSo := Lib.hid hSo
    have hf0 := hMv.f0
    have hf1 := hMv.f1
    have ht0 := hMv.t0
    have ht1 := hMv.t1
    clear hos hscap hMv hSo HRR
    go_wp2_with fail
    go_loopw [18, 19, 20, 21] (fun o18 i _ _ wr => ∃ (q : Nat) (ts : List (List Int)) (N : Nat), q ≤ rs.length ∧ i = .int .i64 q ∧ Ext w3 wr ∧ Hid (TabsTo ws n rs q ts) ∧ N ≤ 2 + 6561 * q ∧ 2 ≤ N ∧ Hid ((allI frm to ts).length = N) ∧ Hid (wr.ownsRow w3.heap.size 3 1 o18 N ((allI frm to ts).map intC).flatten)) (fun _ i _ _ _ => rs.length - (intOf i).toNat)
    case atStart => exact ⟨0, [], 2, by omega, rfl, (by repeat (first | exact Ext.refl _ | apply Ext.more | apply Ext.alloc | apply Ext.drew | apply Ext.drewN)), Lib.hid ⟨rfl, fun j t h => by simp at h⟩, by omega, by omega, Lib.hid rfl, (by show World.ownsRow _ _ _ _ _ _ _; exact own_lit' rfl (Nat.le_refl _) rfl (by decide) rfl rfl)⟩
    case round =>
      obtain ⟨q, ts, N, hq, rfl, ⟨x, rfl⟩, HTs, hN, hN2, HNl, HO⟩ := hrel
      by_cases hlt : q < rs.length
      · have hz : rs[q]? = some rs[q] := List.getElem?_eq_getElem hlt
        obtain ⟨b1, o1, rfl, hb1, hc1⟩ := HRC.out q (slotC rs[q]) (by rw [List.getElem?_map, hz]; rfl) (by simp [slotC])
        have hb3 := HE3.out.size
        obtain ⟨x0', x1'⟩ := slotZ_at hc1
        have x0 := (HE3.out.grow).cell x0' (by simp)
        have x1 := (HE3.out.grow).cell x1' (by simp)
        obtain ⟨k1, k2, k3⟩ := lt_facts (show b1 < w3.heap.size by omega)
        have hb1' : b1 < w3.heap.size := by omega
        have hqi : (q : Int) < rs.length := by omega
        have hqi0 : 0 ≤ (q : Int) := by omega
        have HZ := Lib.hid hz
        generalize rs[q] = z at *
        obtain ⟨za, zb⟩ := z
        dsimp only at x0 x1
        clear hz hc1 x0' x1'
        by_cases hin : 0 ≤ zb ∧ zb < n
        · obtain ⟨z0, z1⟩ := hin
          obtain ⟨rt, hrt⟩ : ∃ rt, tabsAt ws n 4 0 zb = rt := ⟨_, rfl⟩
          have HTb := Lib.hid (fun w hr => ref12_Tables (n := n) (h := h) (hc := hc) (gb := gb) (gc := gc) HW.out 4 w hr 0 zb (by omega) (by omega) (by omega))
          rw [hrt] at HTb
          have HRT := Lib.hid hrt
          clear hrt
          go_wp2_with fail
          refine (HTb.out _ (by repeat (first | exact HRF3.out | apply RefAt.more | apply RefAt.alloc | apply RefAt.drew | apply RefAt.drewN))).mono ?_
          rintro e w4 ⟨⟨ex2, rfl⟩, hq4⟩
          cases rt with
          | none =>
            unfold TabsRet at hq4
            dsimp only at hq4
            subst hq4
            go_wp2_with fail
            go_ret
            exact ⟨(by repeat (first | exact HE3.out | apply Ext.more | apply Ext.alloc | apply Ext.drew | apply Ext.drewN)), rfl⟩
          | some t =>
            obtain ⟨ta, tcap, rfl, hot⟩ := hq4
            obtain ⟨tl0, tl1⟩ := tabs_len _ _ _ _ HRT.out
            have HOT := Lib.hid hot
            have HT1 := Lib.hid (all_flat intC Value.oneCell' (fun a => rfl) t)
            generalize (more w3 x).heap.size = B4 at *
            clear hot HTb
            go_wp2_with (at_builtin; refine wpList_append_row w3 el_int rfl _ _ rfl u18 N _ rfl (by repeat (first | exact HO.out | apply own_more | apply own_alloc | apply own_drew | apply own_drewN)) (by repeat (first | exact Ext.refl _ | apply Ext.more | apply Ext.alloc | apply Ext.drew | apply Ext.drewN)) B4 _ t.length _ rfl (by repeat (first | exact HOT.out | apply own_more | apply own_alloc | apply own_drew | apply own_drewN)) tl0 HT1.out (by omega) ?_; intro v1 x1 HO1 keep; clear keep)
            have HN' := Lib.hid (tabsTo_succ HTs.out HZ.out HRT.out)
            have HL' := Lib.hid (show (allI frm to (ts ++ [t])).length = N + t.length from by rw [allI_snoc, List.length_append, HNl.out])
            go_roundw
            case rel => exact ⟨q + 1, ts ++ [t], N + t.length, by omega, by go_num, (by repeat (first | exact Ext.refl _ | apply Ext.more | apply Ext.alloc | apply Ext.drew | apply Ext.drewN)), HN', by omega, by omega, HL', by
              show World.ownsRow _ _ _ _ _ _ _
              rw [allI_snoc, List.map_append, List.flatten_append]
              exact HO1.out⟩
            case measure => simp [intOf]; omega
        · have hcs : zb < 0 ∨ (0 ≤ zb ∧ (n : Int) ≤ zb) := by omega
          clear hin
          rcases hcs with h1 | ⟨h1, h2⟩
          all_goals
            go_wp2_with fail
            go_ret
            exact ⟨(by repeat (first | exact HE3.out | apply Ext.more | apply Ext.alloc | apply Ext.drew | apply Ext.drewN)), rfl⟩
      · obtain rfl : q = rs.length := by omega
        obtain ⟨aa, acap, rfl⟩ := own_form HO.out
        have HTs' := HTs
        generalize hall : allI frm to ts = all at *
        have HAll := Lib.hid hall
        obtain ⟨ag, rfl, _, hag, hac, hacm, hcell⟩ := ints_cell HO.out (by omega) HNl.out.symm
        have hNb : N ≤ 30000 := by omega
        have hacm' : acap ≤ 9223372036854775807 := by unfold maxLen at hacm; exact hacm
        have HCl := Lib.hid hcell
        have HM5 := Lib.hid (show MemAt (more w3 x) b g n n ws from (by repeat (first | exact HM3.out | apply MemAt.more | apply MemAt.alloc | apply MemAt.drew | apply MemAt.drewN)))
        have HOS5 := Lib.hid (show OwnS (more w3 x) B2 _ _ from own_more HOS.out x)
        have HE5 := Lib.hid (HE3.out.more x)
        have HO5 := HO
        clear hcell hall hacm HO HM3 HRF3 HE3 HOS HRC
        generalize w3.heap.size = B3 at *
        generalize more w3 x = w5 at *
        obtain ⟨g1, g2, g3⟩ := lt_facts hag
        go_wp2_with fail
        go_loopw [22, 23] (fun i _ wr => ∃ q : Nat, q ≤ N ∧ i = .int .i64 q ∧ Ext w5 wr ∧ Hid (Unlike all q)) (fun i _ _ => N - (intOf i).toNat)
        case atStart => exact ⟨0, Nat.zero_le _, rfl, Ext.refl _, unlike_zero _⟩
        case round =>
          obtain ⟨q, hq, rfl, hEr, HU⟩ := hrel
          obtain ⟨wo, rfl⟩ : ∃ wo : World, wo = wr := ⟨_, rfl⟩
          have HEr := Lib.hid hEr
          clear hEr
          by_cases hlt : q < N
          · go_wp2_with fail
            go_loopw [23] (fun i wi => ∃ p : Nat, p ≤ q ∧ i = .int .i64 p ∧ Ext w5 wi ∧ Hid (UnlikeAt all q p)) (fun i _ => q - (intOf i).toNat)
            case atStart => exact ⟨0, Nat.zero_le _, rfl, HEr.out, unlikeAt_zero _ _⟩
            case round =>
              obtain ⟨p, hp, rfl, ⟨xi, rfl⟩, HUA⟩ := hrel
              by_cases hpl : p < q
              · have y0 := HCl.out p (by omega)
                have y1 := HCl.out q hlt
                by_cases heq : all.getD p 0 = all.getD q 0
                · have heb : (all.getD q 0 == all.getD p 0) = true := by simpa using heq.symm
                  clear heq
                  generalize all.getD p 0 = X at *
                  generalize all.getD q 0 = Y at *
                  go_wp2_with fail
                  go_region
                  all_goals
                    go_wp2_with fail
                    go_ret
                    exact ⟨(by repeat (first | exact HE5.out | apply Ext.more | apply Ext.alloc | apply Ext.drew | apply Ext.drewN)), rfl⟩
                · have heb : (all.getD q 0 == all.getD p 0) = false := by simpa using fun h => heq h.symm
                  have HN := Lib.hid (show Hid (UnlikeAt all q (p + 1)) from unlikeAt_succ HUA.out heq)
                  clear heq
                  generalize all.getD p 0 = X at *
                  generalize all.getD q 0 = Y at *
                  go_wp2_with fail
                  go_region
                  all_goals
                    go_wp2_with fail
                    go_roundw
                    case rel => exact ⟨p + 1, by omega, by go_num, (by repeat (first | exact Ext.refl _ | apply Ext.more | apply Ext.alloc | apply Ext.drew | apply Ext.drewN)), HN.out⟩
                    case measure => simp [intOf]; omega
              · obtain rfl : p = q := by omega
                have HN := Lib.hid (show Hid (Unlike all (p + 1)) from unlike_succ HU.out HUA.out)
                go_wp2_with fail
                go_roundw
                case rel => exact ⟨p + 1, by omega, by go_num, (by repeat (first | exact Ext.refl _ | apply Ext.more | apply Ext.alloc | apply Ext.drew | apply Ext.drewN)), HN.out⟩
                case measure => simp [intOf]; omega
          · obtain rfl : q = N := by omega
            obtain ⟨xr, rfl⟩ := HEr.out
            have hu := HU.out
            rw [← HNl.out] at hu
            have hnd := unlike_nodup hu
            rw [← HAll.out] at hnd
            have hT := tabs_to_tabs HTs'.out hnd
            have hlen := HM5.out.len
            obtain ⟨m1, m2, m3, m4⟩ := move_words hT HMv.out (by omega) hlen
            rw [← HSo.out] at m1 m2 m3 m4
            have hwv := WOk_doX (n := n) S ws HW.out m3
            have hwu := WOk_copy hwv to.toNat frm.toNat
            have hback := move_back (us := copyW (doX n ws S) to.toNat frm.toNat) hT HMv.out (by omega) hlen (by rw [copy_len]; exact m4) (fun j hj => by rw [copy_off hj, HSo.out])
            obtain ⟨hres, hk2, hfin⟩ := hback
            have HTabs := Lib.hid (fun (i : Nat) (h2 : 2 ≤ i) (hi : i < q) => (show ∃ T, all.getD i 0 = T ∧ (∃ t ∈ ts, T ∈ t) ∧ 0 ≤ T ∧ T < n from by
              have hil : i < all.length := by rw [HNl.out]; exact hi
              have hmem : all.getD i 0 ∈ ts.flatten := by
                have hAll := HAll.out
                subst hAll
                obtain ⟨j, rfl⟩ : ∃ j, i = j + 2 := ⟨i - 2, by omega⟩
                have hj : j < ts.flatten.length := by simp [allI] at hil ⊢; omega
                have : (allI frm to ts).getD (j + 2) 0 = ts.flatten[j] := by simp [allI, List.getD_eq_getElem?_getD, List.getElem?_eq_getElem hj]
                rw [this]
                exact List.getElem_mem hj
              obtain ⟨t, ht, hTt⟩ := List.mem_flatten.1 hmem
              obtain ⟨j, hj, rfl⟩ := List.getElem_of_mem ht
              exact ⟨_, rfl, ⟨_, ht, hTt⟩, tabs_range _ _ _ _ (hT.tab j _ (List.getElem?_eq_getElem hj)) _ hTt⟩))
            generalize hS2 : moveL frm to (out.map (backP to)) = S2 at *
            have HT2 := Lib.hid (fun w c (hm : MemAt w b g n c (copyW (doX n ws S) to.toNat frm.toNat)) rv hrv pv hpv => move_Move_any w hm hwu rs rv hrv ps pv hpv (by omega) to frm (.yes S2) hres)
            have HK1 := Lib.hid m3
            have HK2 := Lib.hid hk2
            have HFin := Lib.hid hfin
            have HM6 := Lib.hid (HM5.out.more xr)
            have HOS6 := Lib.hid (show OwnS (more w5 xr) B2 _ _ from own_more HOS5.out xr)
            have HO6 := Lib.hid (own_more HO5.out xr)
            have HE6 := Lib.hid (HE5.out.more xr)
            clear hu hnd hT hlen m1 m2 m3 m4 hwv hwu hres hk2 hfin HEr HU HCl HM5 HOS5 HO5 HE5 hlt hq HAll HTs HTs' HMv HSo hag g1 g2 g3 hS2
            generalize more w5 xr = w6 at *
            go_wp2_with fail
            refine (phys_Clone _ HM6.out).mono ?_
            rintro e w7 ⟨cb, cg, cc, rfl, hc7, hg7, hcb', hcg'⟩
            have hltg := HM6.out.ltg
            have hcb : cb ≠ g := by omega
            have hcg : cg ≠ g := by omega
            have hX7 : Ext w6 w7 := .of hg7
            have HM9 := Lib.hid (HM6.out.kept0 hg7)
            have HC9 := Lib.hid hc7
            have HOS9 := Lib.hid (own_ext HOS6.out hX7)
            have HO9 := Lib.hid (own_ext HO6.out hX7)
            have HE9 := Lib.hid (HE6.out.trans hX7)
            clear hc7 hg7 hX7 HM6 HOS6 HO6 HE6 hcb' hcg' hltg
            go_wp2_with fail
            go_loopw [25] (fun i wr => ∃ k : Nat, k ≤ S.length ∧ i = .int .i64 k ∧ Ext w wr ∧ Hid (MemAt wr b g n n (doX n ws (S.take k))) ∧ Hid (MemAt wr cb cg n cc ws) ∧ Hid (OwnS wr B2 (.slice sa S.length scap) S) ∧ Hid (wr.ownsRow B3 3 1 (.slice (some ⟨ag, 0, none⟩) q acap) q (all.map intC).flatten)) (fun i _ => S.length - (intOf i).toNat)
            case atStart => exact ⟨0, Nat.zero_le _, rfl, HE9.out, HM9, HC9, HOS9, HO9⟩
            case round =>
              obtain ⟨k, hk, rfl, hEr, HMr, HCr, HOr, HAr⟩ := hrel
              have HEr := Lib.hid hEr
              clear hEr HM9 HC9 HOS9 HO9 HE9
              by_cases hlt : k < S.length
              · have hz : S[k]? = some S[k] := List.getElem?_eq_getElem hlt
                have HD := Lib.hid (doX_succ (n := n) ws hz)
                have hks := HK1.out _ (List.getElem_mem hlt)
                obtain ⟨gs, rfl, _, hgs, _, hcl, _⟩ := own_at HOr.out (by omega)
                obtain ⟨x0, x1, x2, x3, x4, x5, x6, x7, x8, x9⟩ := step_at hcl k S[k] hz
                have hki : (k : Int) < (S.length : Int) := by omega
                have hki0 : 0 ≤ (k : Int) := by omega
                clear hz hcl
                generalize S[k] = s at *
                unfold stepX at HD
                by_cases hkk : s.fKind = 1
                · have hks := hks.elim id (fun hn => absurd hkk hn)
                  obtain ⟨t0, t1, p0, p1⟩ := hks.inn
                  rw [if_pos hkk, hks.step] at HD
                  unfold idxS at HD
                  obtain ⟨kd, asd, lv, tb, pl, fi, va, tt, fr, ii⟩ := s
                  dsimp only at *
                  subst hkk
                  obtain ⟨T, rfl⟩ := Int.eq_ofNat_of_zero_le t0
                  obtain ⟨P, rfl⟩ := Int.eq_ofNat_of_zero_le p0
                  rw [Int.toNat_natCast, Int.toNat_natCast] at HD
                  have HSt := Lib.hid (fun wr' (hm : MemAt wr' b g n n (doX n ws (S.take k))) => phys_Store_keep wr' hm T P va (by omega) (by omega))
                  clear hks
                  go_wp2_with fail
                  refine wp_region_still_tail 16 (by kernel_rfl) (by kernel_rfl) ?_
                  simp only [List.take_succ_cons, List.take_zero, List.drop_succ_cons, List.drop_zero]
                  repeat still_step
                  refine wpStill_nil ?_
                  go_wp2_with fail
                  refine (HSt.out _ (by repeat (first | exact HMr.out | apply MemAt.more | apply MemAt.alloc | apply MemAt.drew | apply MemAt.drewN))).mono ?_
                  rintro e wn ⟨rfl, hmn, hgn, hkn⟩
                  have HMn := Lib.hid hmn
                  have HEn := Lib.hid (show Ext w wn from .of (grow_new (Ext.grow (by repeat (first | exact HEr.out | apply Ext.more | apply Ext.alloc | apply Ext.drew | apply Ext.drewN))) hgn hgw))
                  have HOn := Lib.hid (own_keepM hkn (by repeat (first | exact HOr.out | apply own_more | apply own_alloc | apply own_drew | apply own_drewN)) (by decide))
                  have HAn := Lib.hid (own_keepM hkn (by repeat (first | exact HAr.out | apply own_more | apply own_alloc | apply own_drew | apply own_drewN)) (by decide))
                  have HCn := Lib.hid (MemAt.kept (by repeat (first | exact HCr.out | apply MemAt.more | apply MemAt.alloc | apply MemAt.drew | apply MemAt.drewN)) hgn (by simpa using hcb) (by simpa using hcg))
                  clear hmn hgn hkn HSt HMr HOr HEr HAr HCr x0 x1 x2 x3 x4 x5 x6 x7 x8 x9
                  rw [← HD.out] at HMn
                  go_wp2_with fail
                  go_roundw
                  case rel => exact ⟨k + 1, by omega, by go_num, HEn.out, HMn, HCn, HOn, HAn⟩
                  case measure => simp [intOf]; omega
                · rw [if_neg hkk] at HD
                  obtain ⟨kd, asd, lv, tb, pl, fi, va, tt, fr, ii⟩ := s
                  dsimp only at *
                  have hk1 : (kd == 1) = false := by simpa using hkk
                  clear hks hkk
                  rw [← HD.out] at HMr
                  go_wp2_with fail
                  go_roundw
                  case rel => exact ⟨k + 1, by omega, by go_num, HEr.out, HMr, HCr, HOr, HAr⟩
                  case measure => simp [intOf]; omega
              · obtain rfl : k = S.length := by omega
                rw [List.take_length] at HMr
                clear HOr hlt hk
                generalize hvs : doX n ws S = vs at *
                clear hvs
                go_wp2_with fail
                refine (phys_Copy_int _ HMr.out to frm ht0 ht1 hf0 hf1).mono ?_
                rintro e w8 ⟨rfl, hm8, hg8⟩
                obtain ⟨cur8, hg0, _⟩ := HMr.out.row
                have hk8 := keepM_grow hg8 hg0
                have HM8 := Lib.hid hm8
                have HC8 := Lib.hid (MemAt.kept HCr.out hg8 (by simpa using hcb) (by simpa using hcg))
                have HO8 := Lib.hid (own_keepM hk8 HAr.out (by decide))
                have HE8 := Lib.hid (show Ext w w8 from .of (grow_new (Ext.grow HEr.out) hg8 hgw))
                clear hm8 hg8 hk8 hg0 HMr HCr HAr HEr
                generalize copyW vs to.toNat frm.toNat = us at *
                go_wp2_with fail
                refine (HT2.out _ _ HM8.out _ (HRv.out.kept0 HE8.out.grow) _ (HPv.out.kept0 HE8.out.grow)).mono ?_
                rintro e w9 ⟨hE9, hq9⟩
                obtain ⟨ta, tcap, rfl, hot⟩ := hq9
                have htcap := own_cap hot
                have htcap1 := htcap.2.1
                have htcap2 : tcap ≤ 9223372036854775807 := by have := htcap.2.2; unfold maxLen at this; exact this
                have HM9 := Lib.hid (show MemAt w9 b g n n (doX n us (S2.take 0)) from HM8.out.kept0 hE9.grow)
                have HC9 := Lib.hid (HC8.out.kept0 hE9.grow)
                have HOS9 := Lib.hid hot
                have HO9 := Lib.hid (own_ext HO8.out hE9)
                have HE9 := Lib.hid (HE8.out.trans hE9)
                clear hE9 hot htcap HM8 HC8 HO8 HE8 HT2
                generalize w8.heap.size = B8 at *
                go_wp2_with fail
                go_loopw [28] (fun i wr => ∃ k : Nat, k ≤ S2.length ∧ i = .int .i64 k ∧ Ext w wr ∧ Hid (MemAt wr b g n n (doX n us (S2.take k))) ∧ Hid (MemAt wr cb cg n cc ws) ∧ Hid (OwnS wr B8 (.slice ta S2.length tcap) S2) ∧ Hid (wr.ownsRow B3 3 1 (.slice (some ⟨ag, 0, none⟩) q acap) q (all.map intC).flatten)) (fun i _ => S2.length - (intOf i).toNat)
                case atStart => exact ⟨0, Nat.zero_le _, rfl, HE9.out, HM9, HC9, HOS9, HO9⟩
                case round =>
                  obtain ⟨k, hk, rfl, hEr, HMr, HCr, HOr, HAr⟩ := hrel
                  have HEr := Lib.hid hEr
                  clear hEr HM9 HC9 HOS9 HO9 HE9
                  by_cases hlt : k < S2.length
                  · have hz : S2[k]? = some S2[k] := List.getElem?_eq_getElem hlt
                    have HD := Lib.hid (doX_succ (n := n) us hz)
                    have hks := HK2.out _ (List.getElem_mem hlt)
                    obtain ⟨gs, rfl, _, hgs, _, hcl, _⟩ := own_at HOr.out (by omega)
                    obtain ⟨x0, x1, x2, x3, x4, x5, x6, x7, x8, x9⟩ := step_at hcl k S2[k] hz
                    have hki : (k : Int) < (S2.length : Int) := by omega
                    have hki0 : 0 ≤ (k : Int) := by omega
                    clear hz hcl
                    generalize S2[k] = s at *
                    unfold stepX at HD
                    by_cases hkk : s.fKind = 1
                    · have hks := hks.elim id (fun hn => absurd hkk hn)
                      obtain ⟨t0, t1, p0, p1⟩ := hks.inn
                      rw [if_pos hkk, hks.step] at HD
                      unfold idxS at HD
                      obtain ⟨kd, asd, lv, tb, pl, fi, va, tt, fr, ii⟩ := s
                      dsimp only at *
                      subst hkk
                      obtain ⟨T, rfl⟩ := Int.eq_ofNat_of_zero_le t0
                      obtain ⟨P, rfl⟩ := Int.eq_ofNat_of_zero_le p0
                      rw [Int.toNat_natCast, Int.toNat_natCast] at HD
                      have HSt := Lib.hid (fun wr' (hm : MemAt wr' b g n n (doX n us (S2.take k))) => phys_Store_keep wr' hm T P va (by omega) (by omega))
                      clear hks
                      go_wp2_with fail
                      refine wp_region_still_tail 16 (by kernel_rfl) (by kernel_rfl) ?_
                      simp only [List.take_succ_cons, List.take_zero, List.drop_succ_cons, List.drop_zero]
                      repeat still_step
                      refine wpStill_nil ?_
                      go_wp2_with fail
                      refine (HSt.out _ (by repeat (first | exact HMr.out | apply MemAt.more | apply MemAt.alloc | apply MemAt.drew | apply MemAt.drewN))).mono ?_
                      rintro e wn ⟨rfl, hmn, hgn, hkn⟩
                      have HMn := Lib.hid hmn
                      have HEn := Lib.hid (show Ext w wn from .of (grow_new (Ext.grow (by repeat (first | exact HEr.out | apply Ext.more | apply Ext.alloc | apply Ext.drew | apply Ext.drewN))) hgn hgw))
                      have HOn := Lib.hid (own_keepM hkn (by repeat (first | exact HOr.out | apply own_more | apply own_alloc | apply own_drew | apply own_drewN)) (by decide))
                      have HAn := Lib.hid (own_keepM hkn (by repeat (first | exact HAr.out | apply own_more | apply own_alloc | apply own_drew | apply own_drewN)) (by decide))
                      have HCn := Lib.hid (MemAt.kept (by repeat (first | exact HCr.out | apply MemAt.more | apply MemAt.alloc | apply MemAt.drew | apply MemAt.drewN)) hgn (by simpa using hcb) (by simpa using hcg))
                      clear hmn hgn hkn HSt HMr HOr HEr HAr HCr x0 x1 x2 x3 x4 x5 x6 x7 x8 x9
                      rw [← HD.out] at HMn
                      go_wp2_with fail
                      go_roundw
                      case rel => exact ⟨k + 1, by omega, by go_num, HEn.out, HMn, HCn, HOn, HAn⟩
                      case measure => simp [intOf]; omega
                    · rw [if_neg hkk] at HD
                      obtain ⟨kd, asd, lv, tb, pl, fi, va, tt, fr, ii⟩ := s
                      dsimp only at *
                      have hk1 : (kd == 1) = false := by simpa using hkk
                      clear hks hkk
                      rw [← HD.out] at HMr
                      go_wp2_with fail
                      go_roundw
                      case rel => exact ⟨k + 1, by omega, by go_num, HEr.out, HMr, HCr, HOr, HAr⟩
                      case measure => simp [intOf]; omega
                  · obtain rfl : k = S2.length := by omega
                    rw [List.take_length] at HMr
                    clear HOr hlt hk
                    obtain ⟨wz, rfl⟩ : ∃ wz : World, wz = wr := ⟨_, rfl⟩
                    obtain ⟨ag', hage, _, hag, _, _, hcell⟩ := ints_cell HAr.out (by omega) HNl.out.symm
                    cases hage
                    have HCl := Lib.hid hcell
                    obtain ⟨g1, g2, g3⟩ := lt_facts hag
                    clear hcell HAr
                    go_wp2_with fail
                    go_loopw [29, 30, 31, 32, 33, 34] (fun i _ _ _ _ _ wi => ∃ q' : Nat, 2 ≤ q' ∧ q' ≤ q ∧ i = .int .i64 q' ∧ Ext wz wi) (fun i _ _ _ _ _ _ => q - (intOf i).toNat)
                    case atStart => exact ⟨2, by omega, by omega, rfl, Ext.refl _⟩
                    case round =>
                      obtain ⟨q', hq2, hq', rfl, hEo⟩ := hrel
                      obtain ⟨wo, rfl⟩ : ∃ wo : World, wo = wr := ⟨_, rfl⟩
                      have HEo := Lib.hid hEo
                      clear hEo
                      by_cases hlt : q' < q
                      · obtain ⟨T, hT, htin, T0, T1⟩ := HTabs.out q' hq2 hlt
                        have y0 := HCl.out q' hlt
                        rw [hT] at y0
                        have hqi : (q' : Int) < q := by omega
                        have hqi0 : 0 ≤ (q' : Int) := by omega
                        have HTin := Lib.hid htin
                        clear hT htin
                        go_wp2_with fail
                        go_loopw [30, 31, 32, 33, 34] (fun i _ _ _ _ wj => ∃ p : Nat, p ≤ 8 ∧ i = .int .i64 p ∧ Ext wz wj) (fun i _ _ _ _ _ => 8 - (intOf i).toNat)
                        case atStart => exact ⟨0, by omega, rfl, HEo.out⟩
                        case round =>
                          obtain ⟨p, hp, rfl, ⟨xi, rfl⟩⟩ := hrel
                          by_cases hpl : p < 8
                          · have hX := HFin.out T (p : Int) HTin.out T0 (by omega) (by omega)
                            obtain ⟨X, hXe⟩ : ∃ X, ws.getD (T.toNat * 8 + (p : Int).toNat) 0 = X := ⟨_, rfl⟩
                            rw [hXe] at hX
                            have HL1 := Lib.hid (fun w (hm : MemAt w b g n n (doX n us S2)) => extS (phys_Load_is w hm T (p : Int) X T0 T1 (by omega) (by omega) hX))
                            have HL2 := Lib.hid (fun w (hm : MemAt w cb cg n cc ws) => extS (phys_Load_is w hm T (p : Int) X T0 T1 (by omega) (by omega) hXe))
                            clear hX hXe
                            go_wp2_with fail
                            refine (HL1.out _ (by repeat (first | exact HMr.out | apply MemAt.more | apply MemAt.alloc | apply MemAt.drew | apply MemAt.drewN))).mono ?_
                            rintro e w' ⟨⟨ex1, rfl⟩, rfl⟩
                            go_wp2_with fail
                            refine (HL2.out _ (by repeat (first | exact HCr.out | apply MemAt.more | apply MemAt.alloc | apply MemAt.drew | apply MemAt.drewN))).mono ?_
                            rintro e w' ⟨⟨ex2, rfl⟩, rfl⟩
                            go_wp2_with fail
                            go_roundw
                            case rel => exact ⟨p + 1, by omega, by go_num, (by repeat (first | exact Ext.refl _ | apply Ext.more | apply Ext.alloc | apply Ext.drew | apply Ext.drewN))⟩
                            case measure => simp [intOf]; omega
                          · obtain rfl : p = 8 := by omega
                            go_wp2_with fail
                            go_roundw
                            case rel => exact ⟨q' + 1, by omega, by omega, by go_num, (by repeat (first | exact Ext.refl _ | apply Ext.more | apply Ext.alloc | apply Ext.drew | apply Ext.drewN))⟩
                            case measure => simp [intOf]; omega
                      · obtain rfl : q' = q := by omega
                        go_wp2_with fail
                        go_ret
                        exact ⟨HEr.out.trans HEo.out, rfl⟩

end Go.Proofs.Ytapeoeakiphfpaa
