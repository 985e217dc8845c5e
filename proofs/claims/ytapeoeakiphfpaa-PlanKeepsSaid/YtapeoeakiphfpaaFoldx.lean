import Derived.Test.YtapeoeakiphfpaaBFoldlPlaydFoldt
import Derived.Test.YtapeoeakiphfpaaBInSamqPrunsKeeqBacp
/- The law paviorlaw17.FoldKeeps. -/
namespace Go.Proofs.Ytapeoeakiphfpaa
open Go.RowKit
set_option linter.unusedVariables false
set_option linter.unusedSimpArgs false
attribute [local go_sem] setCell_drewN alloc_drewN lt_moreE le_moreE lt_moreK le_moreK cell_more frozen_more set_more drew_more drewN_more

def StepsOut (B : Nat) (w' : World) (R : StepsR) (va ea : Value) : Prop := match R with
  | .yes s => ea = .nilIface ∧ ∃ a cap, va = .slice a s.length cap ∧ OwnS w' B (.slice a s.length cap) s
  | .no k => va = .slice none 0 0 ∧ ea = errW k
theorem steps_out {B : Nat} {w' : World} {R : StepsR} {e : Ending} (h : StepsRet B w' R e) : ∃ va ea, e = .returned (.tuple #[va, ea]) ∧ StepsOut B w' R va ea := by
  cases R with
  | yes s => obtain ⟨a, cap, rfl, ho⟩ := h; exact ⟨_, _, rfl, rfl, a, cap, rfl, ho⟩
  | no k => exact ⟨_, _, h, rfl, rfl⟩
theorem StepsOut.ext {B : Nat} {w w' : World} {R : StepsR} {va ea : Value} (h : StepsOut B w R va ea) (hE : Ext w w') : StepsOut B w' R va ea := by
  cases R with
  | yes s => obtain ⟨h1, a, cap, h2, ho⟩ := h; exact ⟨h1, a, cap, h2, own_ext ho hE⟩
  | no k => exact h
/-- Of which pages steps are told. -/
def FoldIn (n : Nat) (ws : List Int) (root asid page : Int) (fold : Bool) (o : Int) (s : List Step) : Prop :=
  0 ≤ page ∧ page < 4096 ∧ 0 ≤ asid ∧ asid ≤ 255 ∧ ∃ run, runN ws n root (page - page % 4) 4 = some run ∧ alikeB run o = true ∧ s = anewL ws run asid (page - page % 4) fold
theorem foldR_yes {n : Nat} {ws : List Int} {root asid page : Int} {may : List Found → Bool} {fold : Bool} {o : Int} (hm : ∀ l, may l = true → alikeB l o = true) (p0 : 0 ≤ page) (p1 : page < 4096) {s : List Step}
    (h : foldR ws asid (page - page % 4) may fold (runN ws n root (page - page % 4) 4) = .yes s) : FoldIn n ws root asid page fold o s := by
  cases hr : runN ws n root (page - page % 4) 4 with
  | none => rw [hr] at h; cases h
  | some run =>
    rw [hr] at h
    unfold foldR at h
    dsimp only at h
    split at h
    · cases h
    · split at h
      · rename_i ha hb
        injection h with h
        exact ⟨p0, p1, by omega, by omega, run, hr, hm _ hb, h.symm⟩
      · cases h
theorem fold_any (n : Nat) (ws : List Int) (hw : WOk ws) (root asid page : Int) : ∃ R : StepsR, (∀ s, R = .yes s → FoldIn n ws root asid page true 0 s) ∧
    ∀ (w : World) (b g c : Nat), MemAt w b g n c ws → Calls Try.prog 51 #[.pointer (some ⟨b, 0, none⟩), .int .i64 root, .int .i64 asid, .int .i64 page] w fun e w' => Ext w w' ∧ StepsRet w.heap.size w' R e := by
  by_cases h : 0 ≤ root ∧ root < n ∧ 0 ≤ page ∧ page < 4096
  · obtain ⟨h0, h1, p0, p1⟩ := h
    exact ⟨_, fun s hs => foldR_yes (may := mayB) (fun l hl => by simp only [mayB, Bool.and_eq_true] at hl; exact hl.1) p0 p1 hs, fun w b g c hm => fold_Fold w hm hw root asid page h0 h1 p0 p1 _ rfl⟩
  · exact ⟨.no 1, fun s hs => (by cases hs), fun w b g c hm => fold_Fold_no w hm root asid page h⟩
theorem unfold_any (n : Nat) (ws : List Int) (hw : WOk ws) (root asid page : Int) : ∃ R : StepsR, (∀ s, R = .yes s → FoldIn n ws root asid page false 2 s) ∧
    ∀ (w : World) (b g c : Nat), MemAt w b g n c ws → Calls Try.prog 52 #[.pointer (some ⟨b, 0, none⟩), .int .i64 root, .int .i64 asid, .int .i64 page] w fun e w' => Ext w w' ∧ StepsRet w.heap.size w' R e := by
  by_cases h : 0 ≤ root ∧ root < n ∧ 0 ≤ page ∧ page < 4096
  · obtain ⟨h0, h1, p0, p1⟩ := h
    exact ⟨_, fun s hs => foldR_yes (may := fun l => alikeB l 2) (fun l hl => hl) p0 p1 hs, fun w b g c hm => fold_Unfold w hm hw root asid page h0 h1 p0 p1 _ rfl⟩
  · exact ⟨.no 1, fun s hs => (by cases hs), fun w b g c hm => fold_Unfold_no w hm root asid page h⟩
theorem anew_kinds {ws : List Int} {n : Nat} {asid first T : Int} {d : Nat → Desc} (h : Four ws n asid first T d) (b : Bool) : ∀ s ∈ anewL ws (fourL first T d) asid first b, s.fKind ≠ 6 := by
  intro s hs
  rw [anew_four h b, List.append_nil, List.mem_append, List.mem_append] at hs
  rcases hs with hs | hs | hs
  · obtain ⟨i, _, rfl⟩ := List.mem_map.1 hs
    exact show (1 : Int) ≠ 6 by omega
  · obtain ⟨i, _, rfl⟩ := List.mem_map.1 hs
    exact show (2 : Int) ≠ 6 by omega
  · obtain ⟨i, _, rfl⟩ := List.mem_map.1 hs
    exact show (1 : Int) ≠ 6 by omega
theorem anew_len (ws : List Int) (first T : Int) (d : Nat → Desc) (asid : Int) (b : Bool) : (anewL ws (fourL first T d) asid first b).length ≤ 12 := by
  simp [anewL, goneL_len, toldL_len, backL_len, fourL]

set_option maxRecDepth 100000 in
set_option maxHeartbeats 8000000 in
theorem law17_FoldKeeps (w : World) (fr : Int) (hfr : (Lit.int .i64 fr).wf = true) (l : List Laid) (hl : ∀ d ∈ l, d.wf) (v : Value) (hv : SlRd w v 3 (l.map Laid.cells)) (root : Int) (_ : (Lit.int .i64 root).wf = true) (asid : Int) (_ : (Lit.int .i64 asid).wf = true) (page : Int) (_ : (Lit.int .i64 page).wf = true) :
    Calls Try.prog 9 #[.int .i64 fr, v, .int .i64 root, .int .i64 asid, .int .i64 page] w fun e w' => e = .returned (.bool true) ∧ w.grownBy w' none := by
  refine growC (R := fun e _ => e = .returned (.bool true)) ?_
  have hw := WOk_layW (layN fr) l hl
  have hn1 := layN_lo fr
  have hn2 := layN_hi fr
  have HL := Lib.hid hl
  have HV := Lib.hid hv
  have HR := Lib.hid hfr
  have HW := Lib.hid hw
  clear hl hv hfr hw
  go_enter Try.func9, Try.ntmps9
  go_wp2_with fail
  refine (law17_up _).mono ?_
  rintro e w1 ⟨⟨ex1, rfl⟩, rfl⟩
  go_wp2_with fail
  refine (lay_ext _ fr HR.out l HL.out v (by repeat (first | exact HV.out | apply rd_more | apply rd_alloc | apply rd_drew | apply rd_drewN))).mono ?_
  rintro e w2 ⟨b, g, h, hc, gb, gc, rfl, hm2, hr2, hE⟩
  have hE2 : Ext w w2 := Ext.trans (by repeat (first | exact Ext.refl _ | apply Ext.more | apply Ext.alloc | apply Ext.drew | apply Ext.drewN)) hE
  have HM := Lib.hid hm2
  have HRF := Lib.hid hr2
  have HE2 := Lib.hid hE2
  clear HL HV HR hE hE2 hr2 hm2
  generalize layW (layN fr) l = ws at *
  generalize layN fr = n at *
  obtain ⟨R, hR, hC⟩ := fold_any n ws HW.out root asid page
  obtain ⟨U, hU, hD⟩ := unfold_any n ws HW.out root asid page
  have HC := Lib.hid hC
  have HD := Lib.hid hD
  have HRR := Lib.hid hR
  have HUU := Lib.hid hU
  clear hC hR hU hD
  go_wp2_with fail
  refine (HC.out _ _ _ _ (by repeat (first | exact HM.out | apply MemAt.more | apply MemAt.alloc | apply MemAt.drew | apply MemAt.drewN))).mono ?_
  rintro e w3 ⟨hE3, hq⟩
  obtain ⟨va, ea, rfl, ho3⟩ := steps_out hq
  have HM3 := Lib.hid (HM.out.kept0 hE3.grow)
  go_wp2_with fail
  refine (HD.out _ _ _ _ (by repeat (first | exact HM3.out | apply MemAt.more | apply MemAt.alloc | apply MemAt.drew | apply MemAt.drewN))).mono ?_
  rintro e w4 ⟨hE4, hq4⟩
  obtain ⟨vb, eb, rfl, ho4⟩ := steps_out hq4
  have HO3 := Lib.hid (ho3.ext hE4)
  have HO4 := Lib.hid ho4
  have HE4 := Lib.hid ((HE2.out.trans hE3).trans hE4)
  have HRF4 := Lib.hid ((HRF.out.kept0 hE3.grow).kept0 hE4.grow)
  clear hq hq4 ho3 ho4 hE3 hE4 HM HM3 HE2 HRF HC HD
  generalize w3.heap.size = B4 at *
  generalize w2.heap.size = B3 at *
  go_wp2_with fail
  refine (ref12_Tables HW.out 4 _ HRF4.out 0 root (by omega) (by omega) (by omega)).mono ?_
  rintro e w5 ⟨hE5, hq5⟩
  obtain ⟨rt, hrt⟩ : ∃ rt, tabsAt ws n 4 0 root = rt := ⟨_, rfl⟩
  rw [hrt] at hq5
  have HRT := Lib.hid hrt
  have HO3 := Lib.hid (HO3.out.ext hE5)
  have HO4 := Lib.hid (HO4.out.ext hE5)
  have HRF5 := Lib.hid (HRF4.out.kept0 hE5.grow)
  have HE5 := Lib.hid (HE4.out.trans hE5)
  clear hrt hE5 HE4 HRF4
  cases rt with
  | none =>
    unfold TabsRet at hq5
    dsimp only at hq5
    subst hq5
    go_wp2_with fail
    go_ret
    exact ⟨(by repeat (first | exact HE5.out | apply Ext.more | apply Ext.alloc | apply Ext.drew | apply Ext.drewN)), rfl⟩
  | some t =>
    obtain ⟨ta, tcap, rfl, hot⟩ := hq5
    obtain ⟨⟨r0, r1⟩, _⟩ := tabs_parts HRT.out
    obtain ⟨tl0, tl1⟩ := tabs_len _ _ _ _ HRT.out
    obtain ⟨N, hN⟩ : ∃ N, t.length = N := ⟨_, rfl⟩
    have HNl := Lib.hid hN
    rw [hN] at hot tl0 tl1
    rw [hN]
    obtain ⟨ag, rfl, _, hag, hac, hacm, hcell⟩ := ints_cell hot (by omega) hN.symm
    have hNb : N ≤ 7000 := by omega
    have hacm' : tcap ≤ 9223372036854775807 := by unfold maxLen at hacm; exact hacm
    have HCl := Lib.hid hcell
    clear hcell hot hN hacm
    obtain ⟨g1, g2, g3⟩ := lt_facts hag
    go_wp2_with fail
    go_loopw [20, 21] (fun i _ wr => ∃ q : Nat, q ≤ N ∧ i = .int .i64 q ∧ Ext w5 wr ∧ Hid (Unlike t q)) (fun i _ _ => N - (intOf i).toNat)
    case atStart => exact ⟨0, Nat.zero_le _, rfl, Ext.refl _, unlike_zero _⟩
    case round =>
      obtain ⟨q, hq, rfl, hEr, HU⟩ := hrel
      obtain ⟨wo, rfl⟩ : ∃ wo : World, wo = wr := ⟨_, rfl⟩
      have HEr := Lib.hid hEr
      clear hEr
      by_cases hlt : q < N
      · go_wp2_with fail
        go_loopw [21] (fun i wi => ∃ p : Nat, p ≤ q ∧ i = .int .i64 p ∧ Ext w5 wi ∧ Hid (UnlikeAt t q p)) (fun i _ => q - (intOf i).toNat)
        case atStart => exact ⟨0, Nat.zero_le _, rfl, HEr.out, unlikeAt_zero _ _⟩
        case round =>
          obtain ⟨p, hp, rfl, ⟨xi, rfl⟩, HUA⟩ := hrel
          by_cases hpl : p < q
          · have y0 := HCl.out p (by omega)
            have y1 := HCl.out q hlt
            by_cases heq : t.getD p 0 = t.getD q 0
            · have heb : (t.getD p 0 == t.getD q 0) = true := by simpa using heq
              clear heq
              generalize t.getD p 0 = X at *
              generalize t.getD q 0 = Y at *
              go_wp2_with fail
              go_region
              all_goals
                go_wp2_with fail
                go_ret
                exact ⟨(by repeat (first | exact HE5.out | apply Ext.more | apply Ext.alloc | apply Ext.drew | apply Ext.drewN)), rfl⟩
            · have heb : (t.getD p 0 == t.getD q 0) = false := by simpa using heq
              have HN := Lib.hid (show Hid (UnlikeAt t q (p + 1)) from unlikeAt_succ HUA.out heq)
              clear heq
              generalize t.getD p 0 = X at *
              generalize t.getD q 0 = Y at *
              go_wp2_with fail
              go_region
              all_goals
                go_wp2_with fail
                go_roundw
                case rel => exact ⟨p + 1, by omega, by go_num, (by repeat (first | exact Ext.refl _ | apply Ext.more | apply Ext.alloc | apply Ext.drew | apply Ext.drewN)), HN.out⟩
                case measure => simp [intOf]; omega
          · obtain rfl : p = q := by omega
            have HN := Lib.hid (show Hid (Unlike t (p + 1)) from unlike_succ HU.out HUA.out)
            go_wp2_with fail
            go_roundw
            case rel => exact ⟨p + 1, by omega, by go_num, (by repeat (first | exact Ext.refl _ | apply Ext.more | apply Ext.alloc | apply Ext.drew | apply Ext.drewN)), HN.out⟩
            case measure => simp [intOf]; omega
      · obtain rfl : q = N := by omega
        obtain ⟨xr, rfl⟩ := HEr.out
        have hu := HU.out
        rw [← HNl.out] at hu
        have HND := Lib.hid (unlike_nodup hu)
        have HO3 := Lib.hid (HO3.out.ext ⟨xr, rfl⟩)
        have HO4 := Lib.hid (HO4.out.ext ⟨xr, rfl⟩)
        have HRF6 := Lib.hid (show RefAt (more w5 xr) h hc n gb gc ws from (by repeat (first | exact HRF5.out | apply RefAt.more | apply RefAt.alloc | apply RefAt.drew | apply RefAt.drewN)))
        have HE6 := Lib.hid (HE5.out.more xr)
        clear hu HEr HU HCl HRF5 HE5 hlt hq HNl hag g1 g2 g3
        generalize more w5 xr = W6 at *
        cases R with
        | no kk =>
          obtain ⟨rfl, rfl⟩ := HO3.out
          cases U with
          | no kk2 =>
            obtain ⟨rfl, rfl⟩ := HO4.out
            go_wp2_with fail
            go_ret
            exact ⟨(by repeat (first | exact HE6.out | apply Ext.more | apply Ext.alloc | apply Ext.drew | apply Ext.drewN)), rfl⟩
          | yes s =>
            obtain ⟨rfl, sa, scap, rfl, hos⟩ := HO4.out
            obtain ⟨p0, p1, a0, a1, run, hrun, hal, hs⟩ := HUU.out s rfl
            obtain ⟨T, d, hF, rfl, hsee⟩ := run_four (asid := asid) (by omega) HRF6.out.len a0 a1 (by omega) (by omega) (by omega) hrun (alikeB_kinds hal)
            obtain ⟨hok, hsafe, hF2, _⟩ := turn_behind hF false
            obtain ⟨hA, _⟩ := fold_walks hF r0 r1 rfl HRT.out HND.out hsee false
            have hsl := anew_len ws (page - page % 4) T d asid false
            have hk6 := anew_kinds hF false
            have HWU := Lib.hid (WOk_doW (n := n) _ _ HW.out hok)
            rw [← hs] at hsafe hA hsl hk6 HWU
            have HOs := Lib.hid hos
            have HA := Lib.hid hA
            have HSafe := Lib.hid hsafe
            have HK6 := Lib.hid hk6
            clear hos hA hsafe hk6 hs hF hF2 hsee hal hrun hok HO3 HO4 HRR HUU
            go_wp2_with fail
            refine (law17_played _ HRF6.out HW.out (by omega) (by omega) HOs.out (by omega) HSafe.out HK6.out).mono ?_
            rintro e w7 ⟨hE7, h7, hc7, gb7, gc7, rfl, hr7⟩
            have HR7 := Lib.hid hr7
            have HRF7 := Lib.hid (HRF6.out.kept0 hE7.grow)
            have HE7 := Lib.hid (HE6.out.trans hE7)
            clear hr7 hE7 HRF6 HE6 HOs HSafe HK6
            go_wp2_with fail
            refine (law17_alike _ HRF7.out HR7.out HW.out HWU.out root page r0 r1 p0 p1 false HA.out).mono ?_
            rintro e w8 ⟨hE8, rfl⟩
            have HE8 := Lib.hid (HE7.out.trans hE8)
            clear hE8 HR7 HRF7 HE7
            go_wp2_with fail
            go_ret
            exact ⟨(by repeat (first | exact HE8.out | apply Ext.more | apply Ext.alloc | apply Ext.drew | apply Ext.drewN)), rfl⟩
        | yes s =>
          cases U with
          | yes s2 =>
            exfalso
            obtain ⟨_, _, _, _, run, hrun, hal, _⟩ := HRR.out s rfl
            obtain ⟨_, _, _, _, run2, hrun2, hal2, _⟩ := HUU.out s2 rfl
            rw [hrun] at hrun2
            obtain rfl := Option.some.inj hrun2
            rw [alike_not (by rw [runN_len _ _ hrun]; omega) hal] at hal2
            cases hal2
          | no kk2 =>
            obtain ⟨rfl, rfl⟩ := HO4.out
            obtain ⟨rfl, sa, scap, rfl, hos⟩ := HO3.out
            obtain ⟨p0, p1, a0, a1, run, hrun, hal, hs⟩ := HRR.out s rfl
            obtain ⟨T, d, hF, rfl, hsee⟩ := run_four (asid := asid) (by omega) HRF6.out.len a0 a1 (by omega) (by omega) (by omega) hrun (alikeB_kinds hal)
            obtain ⟨hok, hsafe, hF2, _⟩ := turn_behind hF true
            obtain ⟨hA, hrun2⟩ := fold_walks hF r0 r1 rfl HRT.out HND.out hsee true
            have hback := fold_back hF hal rfl
            have hal2 := alike_turn hF hF2 hal
            have hsl := anew_len ws (page - page % 4) T d asid true
            have hk6 := anew_kinds hF true
            have hwu := WOk_doW (n := n) _ _ HW.out hok
            have hsafe2 := (turn_behind hF2 false).2.1
            have hk62 := anew_kinds hF2 false
            rw [← hs] at hsafe hA hsl hk6 hwu hback hrun2 hF2 hsafe2 hk62
            obtain ⟨vs, hvs⟩ : ∃ vs, doW n ws s = vs := ⟨_, rfl⟩
            rw [hvs] at hA hwu hback hrun2 hF2 hsafe2 hk62
            have hsl2 := anew_len vs (page - page % 4) T (turnD d true) asid false
            have HVS := Lib.hid hvs
            have HWU := Lib.hid hwu
            have hfr : foldR vs asid (page - page % 4) (fun l => alikeB l 2) false (some (fourL (page - page % 4) T (turnD d true))) = .yes (anewL vs (fourL (page - page % 4) T (turnD d true)) asid (page - page % 4) false) := by
              unfold foldR
              dsimp only
              rw [if_neg (by omega), if_pos hal2]
            have HIs := Lib.hid (fun w b g (hm : MemAt w b g n n vs) => fold_Is w hm HWU.out root page r0 r1 p0 p1 _ hrun2)
            have HUn := Lib.hid (fun w b g (hm : MemAt w b g n n vs) => fold_Unfold w hm HWU.out root asid page r0 r1 p0 p1 _ hrun2)
            rw [Option.map_some, hal2, show tellV (some true) = .tuple #[.bool true, .nilIface] from rfl] at HIs
            rw [hfr] at HUn
            generalize anewL vs (fourL (page - page % 4) T (turnD d true)) asid (page - page % 4) false = s2 at *
            have HB := Lib.hid hback
            have HOs := Lib.hid hos
            have HA := Lib.hid hA
            have HSafe := Lib.hid hsafe
            have HK6 := Lib.hid hk6
            have HSafe2 := Lib.hid hsafe2
            have HK62 := Lib.hid hk62
            clear hos hA hsafe hk6 hs hF hF2 hsee hal hrun hok HO3 HO4 HRR HUU hback hal2 hwu hvs hsafe2 hk62 hfr hrun2
            go_wp2_with fail
            refine (law17_played _ HRF6.out HW.out (by omega) (by omega) HOs.out (by omega) HSafe.out HK6.out).mono ?_
            rintro e w7 ⟨hE7, h7, hc7, gb7, gc7, rfl, hr7⟩
            rw [HVS.out] at hr7
            have HR7 := Lib.hid hr7
            have HRF7 := Lib.hid (HRF6.out.kept0 hE7.grow)
            have HE7 := Lib.hid (HE6.out.trans hE7)
            clear hr7 hE7 HRF6 HE6 HOs HSafe HK6
            go_wp2_with fail
            refine (law17_alike _ HRF7.out HR7.out HW.out HWU.out root page r0 r1 p0 p1 true HA.out).mono ?_
            rintro e W8 ⟨hE8, rfl⟩
            have HE8 := Lib.hid (HE7.out.trans hE8)
            have HR8 := Lib.hid (HR7.out.kept0 hE8.grow)
            have HRF8 := Lib.hid (HRF7.out.kept0 hE8.grow)
            clear hE8 HR7 HRF7 HE7 HA
            have hnc8 := HR8.out.nc
            go_wp2_with fail
            refine (phys_New_yes _ n (by omega) (by omega)).mono ?_
            rintro e w9 ⟨b2, gg2, rfl, hm9, hg9, hb2, hgg2⟩
            have HM9 := Lib.hid hm9
            have HE9 := Lib.hid (show Ext W8 w9 from .of hg9)
            clear hm9 hg9
            go_wp2_with fail
            go_loopw [28, 29] (fun i _ wr => ∃ k : Nat, k ≤ n ∧ i = .int .i64 k ∧ Ext W8 wr ∧ ∃ us : List Int, Hid (MemAt wr b2 gg2 n n us) ∧ Hid (∀ j, j < k * 8 → us.getD j 0 = vs.getD j 0)) (fun i _ _ => n - (intOf i).toNat)
            case atStart => exact ⟨0, Nat.zero_le _, rfl, HE9.out, _, HM9, Lib.hid (fun j hj => by omega)⟩
            case round =>
              obtain ⟨k, hk, rfl, hEr, us, HMr, HUr⟩ := hrel
              have HEr := Lib.hid hEr
              clear hEr HM9 HE9
              by_cases hlt : k < n
              · go_wp2_with fail
                go_loopw [29] (fun i wi => ∃ p : Nat, p ≤ 8 ∧ i = .int .i64 p ∧ Ext W8 wi ∧ ∃ us : List Int, Hid (MemAt wi b2 gg2 n n us) ∧ Hid (∀ j, j < k * 8 + p → us.getD j 0 = vs.getD j 0)) (fun i _ => 8 - (intOf i).toNat)
                case atStart => exact ⟨0, by omega, rfl, HEr.out, us, HMr, HUr⟩
                case round =>
                  obtain ⟨p, hp, rfl, ⟨xi, rfl⟩, us, HMi, HUi⟩ := hrel
                  clear HMr HUr HEr
                  by_cases hpl : p < 8
                  · have y0 := HR8.out.hcell k hlt
                    have y1 := HR8.out.cell k p hlt hpl
                    have y2 := HR8.out.cc k hlt
                    have i0 : (k : Int) < n := by omega
                    have i1 : (p : Int) < 8 := by omega
                    have i2 : 0 ≤ (k : Int) := by omega
                    have i3 : 0 ≤ (p : Int) := by omega
                    have lt1 := HR8.out.lth
                    have lt2 := HR8.out.ltg k hlt
                    obtain ⟨u1, u2, u3⟩ := lt_facts HR8.out.lth
                    obtain ⟨u4, u5, u6⟩ := lt_facts (HR8.out.ltg k hlt)
                    have HSt := Lib.hid (phys_Store_yes _ HMi.out k p (vs.getD (k * 8 + p) 0) hlt hpl)
                    obtain ⟨X, hX⟩ : ∃ X, vs.getD (k * 8 + p) 0 = X := ⟨_, rfl⟩
                    have HX := Lib.hid hX
                    rw [hX] at y1 HSt
                    clear hX
                    go_wp2_with fail
                    refine HSt.out.mono ?_
                    rintro e wn ⟨rfl, hmn, hgn⟩
                    have HMn := Lib.hid hmn
                    have HEn := Lib.hid (show Ext W8 wn from .of (grow_new (Ext.grow ⟨xi, rfl⟩) hgn hgg2))
                    have hul := HMi.out.len
                    have HUn' := Lib.hid (show ∀ j, j < k * 8 + (p + 1) → (us.set (k * 8 + p) X).getD j 0 = vs.getD j 0 from fun j hj => by
                      rw [getD_setI]
                      split
                      · rename_i hh
                        rw [← hh.1, HX.out]
                      · rename_i hh
                        exact HUi.out j (by omega))
                    clear hmn hgn HSt y0 y1 hul HMi HUi
                    go_wp2_with fail
                    go_roundw
                    case rel => exact ⟨p + 1, by omega, by go_num, HEn.out, _, HMn, HUn'⟩
                    case measure => simp [intOf]; omega
                  · obtain rfl : p = 8 := by omega
                    have HUn' := Lib.hid (show ∀ j, j < (k + 1) * 8 → us.getD j 0 = vs.getD j 0 from fun j hj => HUi.out j (by omega))
                    go_wp2_with fail
                    go_roundw
                    case rel => exact ⟨k + 1, by omega, by go_num, ⟨xi, rfl⟩, us, HMi, HUn'⟩
                    case measure => simp [intOf]; omega
              · obtain rfl : k = n := by omega
                have hus : us = vs := by
                  have l1 := HMr.out.len
                  have l2 := HR8.out.len
                  apply List.ext_getElem
                  · rw [l1, l2]
                  · intro j j1 j2
                    have e := HUr.out j (by omega)
                    rw [List.getD_eq_getElem?_getD, List.getD_eq_getElem?_getD, List.getElem?_eq_getElem j1, List.getElem?_eq_getElem j2] at e
                    exact e
                subst hus
                have HR10 := Lib.hid (HR8.out.kept0 HEr.out.grow)
                have HRF10 := Lib.hid (HRF8.out.kept0 HEr.out.grow)
                have HE10 := Lib.hid (HE8.out.trans HEr.out)
                have HM10 := HMr
                clear HMr HUr HEr HR8 HRF8 HE8 hlt hk
                go_wp2_with fail
                refine (HIs.out _ _ _ HM10.out).mono ?_
                rintro e w11 ⟨hE11, rfl⟩
                have HM11 := Lib.hid (HM10.out.kept0 hE11.grow)
                have HR11 := Lib.hid (HR10.out.kept0 hE11.grow)
                have HRF11 := Lib.hid (HRF10.out.kept0 hE11.grow)
                have HE11 := Lib.hid (HE10.out.trans hE11)
                clear hE11 HM10 HR10 HRF10 HE10 HIs
                go_wp2_with fail
                refine (HUn.out _ _ _ HM11.out).mono ?_
                rintro e w12 ⟨hE12, sb, scb, rfl, hos2⟩
                have HOs2 := Lib.hid hos2
                have HR12 := Lib.hid (HR11.out.kept0 hE12.grow)
                have HRF12 := Lib.hid (HRF11.out.kept0 hE12.grow)
                have HE12 := Lib.hid (HE11.out.trans hE12)
                clear hE12 hos2 HM11 HR11 HRF11 HE11 HUn
                go_wp2_with fail
                refine (law17_played _ HR12.out HWU.out (by omega) (by omega) HOs2.out (by omega) HSafe2.out HK62.out).mono ?_
                rintro e w13 ⟨hE13, h13, hc13, gb13, gc13, rfl, hr13⟩
                rw [HB.out] at hr13
                have HR13 := Lib.hid hr13
                have HRF13 := Lib.hid (HRF12.out.kept0 hE13.grow)
                have HE13 := Lib.hid (HE12.out.trans hE13)
                have hncy := hr13.nc
                have hncr := HRF13.out.nc
                clear hr13 hE13 HR12 HRF12 HE12 HOs2 HSafe2 HK62
                go_wp2_with fail
                go_loopw [36, 37] (fun i _ wr => ∃ q : Nat, q ≤ k ∧ i = .int .i64 q ∧ Ext w13 wr) (fun i _ _ => k - (intOf i).toNat)
                case atStart => exact ⟨0, Nat.zero_le _, rfl, Ext.refl _⟩
                case round =>
                  obtain ⟨q, hq, rfl, hEq⟩ := hrel
                  have HEq := Lib.hid hEq
                  clear hEq
                  by_cases hlt : q < k
                  · go_wp2_with fail
                    go_loopw [37] (fun i wi => ∃ p : Nat, p ≤ 8 ∧ i = .int .i64 p ∧ Ext w13 wi) (fun i _ => 8 - (intOf i).toNat)
                    case atStart => exact ⟨0, by omega, rfl, HEq.out⟩
                    case round =>
                      obtain ⟨p, hp, rfl, ⟨xi, rfl⟩⟩ := hrel
                      by_cases hpl : p < 8
                      · have y0 := HR13.out.hcell q hlt
                        have y1 := HR13.out.cell q p hlt hpl
                        have y2 := HR13.out.cc q hlt
                        have z0 := HRF13.out.hcell q hlt
                        have z1 := HRF13.out.cell q p hlt hpl
                        have z2 := HRF13.out.cc q hlt
                        have i0 : (q : Int) < k := by omega
                        have i1 : (p : Int) < 8 := by omega
                        have i2 : 0 ≤ (q : Int) := by omega
                        have i3 : 0 ≤ (p : Int) := by omega
                        have lt1 := HR13.out.lth
                        have lt2 := HR13.out.ltg q hlt
                        have lt3 := HRF13.out.lth
                        have lt4 := HRF13.out.ltg q hlt
                        obtain ⟨u1, u2, u3⟩ := lt_facts HR13.out.lth
                        obtain ⟨u4, u5, u6⟩ := lt_facts (HR13.out.ltg q hlt)
                        obtain ⟨u7, u8, u9⟩ := lt_facts HRF13.out.lth
                        obtain ⟨u10, u11, u12⟩ := lt_facts (HRF13.out.ltg q hlt)
                        generalize ws.getD (q * 8 + p) 0 = X at *
                        go_wp2_with fail
                        go_quiet (fail)
                        go_wp2_with fail
                        go_roundw
                        case rel => exact ⟨p + 1, by omega, by go_num, (by repeat (first | exact Ext.refl _ | apply Ext.more | apply Ext.alloc | apply Ext.drew | apply Ext.drewN))⟩
                        case measure => simp [intOf]; omega
                      · obtain rfl : p = 8 := by omega
                        go_wp2_with fail
                        go_roundw
                        case rel => exact ⟨q + 1, by omega, by go_num, (by repeat (first | exact Ext.refl _ | apply Ext.more | apply Ext.alloc | apply Ext.drew | apply Ext.drewN))⟩
                        case measure => simp [intOf]; omega
                  · obtain rfl : q = k := by omega
                    obtain ⟨xq, rfl⟩ := HEq.out
                    go_wp2_with fail
                    go_ret
                    exact ⟨(by repeat (first | exact HE13.out | apply Ext.more | apply Ext.alloc | apply Ext.drew | apply Ext.drewN)), rfl⟩

end Go.Proofs.Ytapeoeakiphfpaa
