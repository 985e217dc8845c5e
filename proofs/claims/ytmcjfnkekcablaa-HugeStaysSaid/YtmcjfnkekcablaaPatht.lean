/- The law paviorlaw12.TreePaths. -/
import Derived.Test.YtmcjfnkekcablaaPathr
import Derived.Test.YtmcjfnkekcablaaCode
namespace Go.Proofs.Ytmcjfnkekcablaa
open Go.RowKit
set_option linter.unusedVariables false
set_option linter.unusedSimpArgs false
attribute [local go_sem] setCell_drewN alloc_drewN lt_moreE le_moreE lt_moreK le_moreK cell_more frozen_more set_more drew_more drewN_more

theorem tree_PathR (w : World) {b g n c : Nat} {ws : List Int} (hm : MemAt w b g n c ws) (hw : WOk ws) (root asid page : Int) (L : Nat) (h0 : 0 ≤ root) (h1 : root < n) (p0 : 0 ≤ page) (p1 : page < 4096) (l0 : 1 ≤ L) (l1 : L < 4)
    (fresh : List Int) (v : Value) (hv : SlRd w v 1 (fresh.map intCells)) (hfl : fresh.length ≤ 1000) (r : Option (List (Int × Int) × Desc)) (hr : wayAt ws n page (L + 1) 0 root = r) (R : PathR) (hR : pathRes n asid page L fresh r = R) :
    Calls Try.prog 37 #[.pointer (some ⟨b, 0, none⟩), .int .i64 root, .int .i64 asid, .int .i64 page, .int .i64 L, v] w fun e w' => Ext w w' ∧ PathRet w.heap.size w' R e := hR ▸ tree_Path w hm hw root asid page L h0 h1 p0 p1 l0 l1 fresh v hv hfl r hr

theorem tree_Path_no (w : World) {b g n c : Nat} {ws : List Int} (hm : MemAt w b g n c ws) (root asid page level : Int) (v : Value) (h : ¬ (0 ≤ root ∧ root < n ∧ 0 ≤ page ∧ page < 4096 ∧ 1 ≤ level ∧ level < 4)) :
    Calls Try.prog 37 #[.pointer (some ⟨b, 0, none⟩), .int .i64 root, .int .i64 asid, .int .i64 page, .int .i64 level, v] w fun e w' => Ext w w' ∧ PathRet w.heap.size w' (.no 1) e :=
  tree_Path_err w _ root asid page level v 0 1 (fun w' hE => tree_Need_no w' (hm.kept0 hE.grow) root page level h)
theorem cells2 {w : World} {n : Nat} {T : TypeId} {a0 a1 : Value} (h : w.heap[n]? = some (.cells #[a0, a1] T (0, 0))) :
    w.cell? ⟨n, 0, none⟩ = some a0 ∧ w.cell? ⟨n, 1, none⟩ = some a1 ∧ ∀ i, w.frozen? ⟨n, i, none⟩ = false := by
  have key := fun i => cell_of_row w n i _ _ _ h
  exact ⟨key 0, key 1, fun i => frozen_of_row w n i _ _ h⟩

set_option maxRecDepth 100000 in
set_option maxHeartbeats 8000000 in
theorem law12_TreePaths (w : World) (fr : Int) (hfr : (Lit.int .i64 fr).wf = true) (l : List Laid) (hl : ∀ d ∈ l, d.wf) (v : Value) (hv : SlRd w v 3 (l.map Laid.cells)) (root : Int) (_ : (Lit.int .i64 root).wf = true) (asid : Int) (_ : (Lit.int .i64 asid).wf = true) (page : Int) (_ : (Lit.int .i64 page).wf = true) (level : Int) (_ : (Lit.int .i64 level).wf = true)
    (fresh : List Int) (_ : ∀ n ∈ fresh, (Lit.int .i64 n).wf = true) (vf : Value) (hvf : SlRd w vf 1 (fresh.map intCells)) :
    Calls Try.prog 10 #[.int .i64 fr, v, .int .i64 root, .int .i64 asid, .int .i64 page, .int .i64 level, vf] w fun e w' => e = .returned (.bool true) ∧ w.grownBy w' none := by
  refine growC (R := fun e _ => e = .returned (.bool true)) ?_
  have hw := WOk_layW (layN fr) l hl
  have HL := Lib.hid hl
  have HV := Lib.hid hv
  have HR := Lib.hid hfr
  have heq := fun (w : World) => eql_err w 1 1
  have heq5 := fun (w : World) => eql_err w 5 5
  have hNle := layN_hi fr
  obtain ⟨fa, fcap, rfl, hfcap, hfc⟩ := hvf.form
  rw [List.length_map] at *
  have hcap' : fresh.length ≤ 9223372036854775807 := by unfold maxLen at hfcap; exact hfcap
  have HF := Lib.hid hvf
  have HFC := Lib.hid hfc
  clear hl hv hfr hvf hfc hfcap
  go_enter Try.func10, Try.ntmps10
  go_wp2_with fail
  refine (law12_up _).mono ?_
  rintro e w1 ⟨⟨ex1, rfl⟩, rfl⟩
  go_wp2_with fail
  refine (lay_ext _ fr HR.out l HL.out v (by repeat (first | exact HV.out | apply rd_more | apply rd_alloc | apply rd_drew | apply rd_drewN))).mono ?_
  rintro e w2 ⟨b, g, h, hc, gb, gc, rfl, hm2, hr2, hE⟩
  have hE2 : Ext w w2 := Ext.trans (by repeat (first | exact Ext.refl _ | apply Ext.more | apply Ext.alloc | apply Ext.drew | apply Ext.drewN)) hE
  have HM := Lib.hid hm2
  have HRF := Lib.hid hr2
  have HE2 := Lib.hid hE2
  have HF2 := Lib.hid (HF.out.kept0 hE2.grow)
  have hlw := hE2.size
  clear HL HV HR hE hE2 hr2 HF
  generalize layW (layN fr) l = ws at *
  generalize layN fr = n at *
  clear hm2
  by_cases h20 : 20 < fresh.length
  · clear HF2 HFC
    go_wp2_with fail
    go_ret
    exact ⟨(by repeat (first | exact HE2.out | apply Ext.more | apply Ext.alloc | apply Ext.drew | apply Ext.drewN)), rfl⟩
  have hfl : fresh.length ≤ 20 := by omega
  clear h20
  by_cases hin : 0 ≤ root ∧ root < n ∧ 0 ≤ page ∧ page < 4096 ∧ 1 ≤ level ∧ level < 4
  · have HT := Lib.hid (thereB_yes hin)
    obtain ⟨r0, r1, p0, p1, l0, l1⟩ := hin
    obtain ⟨L, rfl⟩ := Int.eq_ofNat_of_zero_le (show 0 ≤ level by omega)
    obtain ⟨r, hres⟩ : ∃ r, wayAt ws n page (L + 1) 0 root = r := ⟨_, rfl⟩
    have HPth := Lib.hid (fun R hR w (hm : MemAt w b g n n ws) v hv => tree_PathR w hm hw root asid page L r0 r1 p0 p1 (by omega) (by omega) fresh v hv (by omega) r hres R hR)
    have HQ := Lib.hid (fun w (hr : RefAt w h hc n gb gc ws) => ref12_Need w hr hw root page L r0 r1 p0 p1 (by omega) r hres)
    have HRP := Lib.hid (fun s d e hk hg w (hr : RefAt w h hc n gb gc ws) v hv => ref12_Path w hr hw root asid page L r0 r1 p0 p1 (by omega) fresh v hv (by omega) s d (hres.trans e) hk hg)
    have HNC := Lib.hid (needP_cases (L := L) (r := r))
    by_cases hbad : (needP L r).2 = 0
    case neg =>
      have hcc : ∃ c : Nat, (needP L r).2 = c ∧ 1 ≤ c ∧ c ≤ 8 ∧ pathRes n asid page L fresh r = .no c := by
        rcases HNC.out with h | h | h
        · exact absurd h hbad
        · refine ⟨2, h, by omega, by omega, ?_⟩
          cases r with
          | none => rfl
          | some r => exfalso; obtain ⟨s, d⟩ := r; simp only [needP] at h; split at h <;> cases h
        · refine ⟨7, h, by omega, by omega, ?_⟩
          cases r with
          | none => cases h
          | some r =>
            obtain ⟨s, d⟩ := r
            simp only [needP] at h
            split at h
            · rename_i h7; unfold pathRes; dsimp only; rw [if_pos h7]
            · cases h
      obtain ⟨c, hc2, hc0, hc8, hR⟩ := hcc
      have HP' := Lib.hid (HPth.out _ hR)
      rw [hc2] at HQ
      generalize (needP L r).1 = q1 at *
      have hcb : ((c : Int) != 0) = true := by simp; omega
      clear hw hres HPth HRP hbad hc2 hR
      go_wp2_with fail
      refine (HP'.out _ (by repeat (first | exact HM.out | apply MemAt.more | apply MemAt.alloc | apply MemAt.drew | apply MemAt.drewN)) _ (by repeat (first | exact HF2.out | apply rd_more | apply rd_alloc | apply rd_drew | apply rd_drewN))).mono ?_
      rintro e w' ⟨⟨x2, rfl⟩, rfl⟩
      go_wp2_with fail
      refine (law12_there _ _ n hc root page L).mono ?_
      rintro e w' ⟨rfl, hww⟩
      subst w'
      rw [HT.out]
      go_wp2_with fail
      refine (HQ.out _ (by repeat (first | exact HRF.out | apply RefAt.more | apply RefAt.alloc | apply RefAt.drew | apply RefAt.drewN))).mono ?_
      rintro e w' ⟨⟨x3, rfl⟩, rfl⟩
      go_wp2_with fail
      refine (law00_Code _ c hc0 hc8).mono ?_
      rintro e w' ⟨rfl, hww⟩
      subst w'
      go_wp2_with fail
      go_ret
      exact ⟨(by repeat (first | exact HE2.out | apply Ext.more | apply Ext.alloc | apply Ext.drew | apply Ext.drewN)), rfl⟩
    case pos =>
      obtain ⟨s, d, rfl, h7⟩ : ∃ s d, r = some (s, d) ∧ ¬ ((0 : Int) < L + 1 - s.length ∧ d.fKind ≠ 0) := by
        cases r with
        | none => cases hbad
        | some r =>
          obtain ⟨s, d⟩ := r
          refine ⟨s, d, rfl, fun h7 => ?_⟩
          simp only [needP] at hbad
          rw [if_pos h7] at hbad
          cases hbad
      have hnp : needP L (some (s, d)) = ((L : Int) + 1 - s.length, 0) := by simp only [needP]; rw [if_neg h7]
      obtain ⟨s0, s1⟩ := wayAt_len (ws := ws) (n := n) (page := page) (L + 1) 0 root s d hres
      obtain ⟨k, hk⟩ : ∃ k, L + 1 - s.length = k := ⟨_, rfl⟩
      have hkI : (L : Int) + 1 - s.length = (k : Int) := by omega
      rw [hnp, hkI] at HQ
      clear hnp hkI hbad
      by_cases ha : asid < 0 ∨ 255 < asid
      · have HP' := Lib.hid (HPth.out (.no 1) (by unfold pathRes; dsimp only; rw [if_neg h7, if_pos ha]))
        have ha' : asid < 0 ∨ (0 ≤ asid ∧ 255 < asid) := by omega
        clear hw hres HPth HRP h7 hk ha
        rcases ha' with ha | ⟨ha, ha2⟩
        all_goals
          go_wp2_with fail
          refine (HP'.out _ (by repeat (first | exact HM.out | apply MemAt.more | apply MemAt.alloc | apply MemAt.drew | apply MemAt.drewN)) _ (by repeat (first | exact HF2.out | apply rd_more | apply rd_alloc | apply rd_drew | apply rd_drewN))).mono ?_
          rintro e w' ⟨⟨x2, rfl⟩, rfl⟩
          go_wp2_with fail
          refine (law12_there _ _ n hc root page L).mono ?_
          rintro e w' ⟨rfl, hww⟩
          subst w'
          rw [HT.out]
          go_wp2_with fail
          refine (HQ.out _ (by repeat (first | exact HRF.out | apply RefAt.more | apply RefAt.alloc | apply RefAt.drew | apply RefAt.drewN))).mono ?_
          rintro e w' ⟨⟨x3, rfl⟩, rfl⟩
          go_wp2_with fail
          go_ret
          exact ⟨(by repeat (first | exact HE2.out | apply Ext.more | apply Ext.alloc | apply Ext.drew | apply Ext.drewN)), rfl⟩
      · have ha0 : 0 ≤ asid := by omega
        have ha1 : asid ≤ 255 := by omega
        by_cases hall : fresh.all (goodF n) = true
        · have hgd : ∀ f ∈ fresh, 0 ≤ f ∧ f < n := fun f hf => by have := List.all_eq_true.1 hall f hf; simpa [goodF] using this
          have HG := Lib.hid hgd
          by_cases h5 : fresh.length < k
          · have HP' := Lib.hid (HPth.out (.no 5) (by unfold pathRes; dsimp only; rw [if_neg h7, if_neg ha, if_neg (by rw [hall]; simp), hk, if_pos h5]))
            clear hw hres HPth HRP h7 hk ha hall hgd
            go_wp2_with fail
            refine (HP'.out _ (by repeat (first | exact HM.out | apply MemAt.more | apply MemAt.alloc | apply MemAt.drew | apply MemAt.drewN)) _ (by repeat (first | exact HF2.out | apply rd_more | apply rd_alloc | apply rd_drew | apply rd_drewN))).mono ?_
            rintro e w' ⟨⟨x2, rfl⟩, rfl⟩
            go_wp2_with fail
            refine (law12_there _ _ n hc root page L).mono ?_
            rintro e w' ⟨rfl, hww⟩
            subst w'
            rw [HT.out]
            go_wp2_with fail
            refine (HQ.out _ (by repeat (first | exact HRF.out | apply RefAt.more | apply RefAt.alloc | apply RefAt.drew | apply RefAt.drewN))).mono ?_
            rintro e w' ⟨⟨x3, rfl⟩, rfl⟩
            go_wp2_with fail
            go_loopw [25] (fun i wr => ∃ q : Nat, q ≤ fresh.length ∧ i = .int .i64 q ∧ Ext w2 wr) (fun i _ => fresh.length - (intOf i).toNat)
            case atStart => exact ⟨0, by omega, rfl, (by repeat (first | exact Ext.refl _ | apply Ext.more | apply Ext.alloc | apply Ext.drew | apply Ext.drewN))⟩
            case round =>
              obtain ⟨q, hq, rfl, ⟨x, rfl⟩⟩ := hrel
              by_cases hlt : q < fresh.length
              · have hz : fresh[q]? = some fresh[q] := List.getElem?_eq_getElem hlt
                obtain ⟨hg0, hg1⟩ := HG.out _ (List.getElem_mem hlt)
                obtain ⟨fb, fo, rfl, hfb, hcl⟩ := HFC.out q (intCells fresh[q]) (by rw [List.getElem?_map, hz]; rfl) (by simp [intCells])
                have hfb2 : fb < w2.heap.size := by omega
                obtain ⟨k1, k2, k3⟩ := lt_facts hfb2
                have x0 := HE2.out.grow.cell (hcl 0 (.int .i64 fresh[q]) rfl) (by simp)
                simp only [Nat.mul_one, Nat.add_zero] at x0
                generalize fresh[q] = f at *
                clear hz hcl
                go_wp2_with fail
                go_roundw
                case rel => exact ⟨q + 1, by omega, by go_num, (by repeat (first | exact Ext.refl _ | apply Ext.more | apply Ext.alloc | apply Ext.drew | apply Ext.drewN))⟩
                case measure => simp [intOf]; omega
              obtain rfl : q = fresh.length := by omega
              clear hlt hq
              go_wp2_with fail
              go_ret
              exact ⟨(by repeat (first | exact HE2.out | apply Ext.more | apply Ext.alloc | apply Ext.drew | apply Ext.drewN)), rfl⟩
          · have HP' := Lib.hid (HPth.out (.yes (pathT asid page L fresh s).1 (pathT asid page L fresh s).2) (by unfold pathRes; dsimp only; rw [if_neg h7, if_neg ha, if_neg (by rw [hall]; simp), hk, if_neg h5]))
            have HRP' := Lib.hid (HRP.out s d rfl (by omega) (fun f hf => ⟨(hgd f hf).1, by have := (hgd f hf).2; omega⟩))
            have hpl : (pathT asid page L fresh s).1.length ≤ 40 := by unfold pathT; rw [pathS_len, List.length_take]; omega
            have h5' : k ≤ fresh.length := by omega
            generalize pathT asid page L fresh s = t at *
            obtain ⟨t1, ta, tb⟩ := t
            obtain ⟨ta', hta'⟩ : ∃ x, x = ta := ⟨_, rfl⟩
            obtain ⟨tb', htb'⟩ : ∃ x, x = tb := ⟨_, rfl⟩
            have HH := Lib.hid (And.intro hta' htb')
            clear hta' htb'
            clear hw hres HPth HRP h7 hk ha hall hgd h5
            rcases Bool.eq_false_or_eq_true (((t1.length : Nat) : Int) == 0) with hz | hz
            all_goals
              go_wp2_with fail
              refine (HP'.out _ (by repeat (first | exact HM.out | apply MemAt.more | apply MemAt.alloc | apply MemAt.drew | apply MemAt.drewN)) _ (by repeat (first | exact HF2.out | apply rd_more | apply rd_alloc | apply rd_drew | apply rd_drewN))).mono ?_
              rintro e w' ⟨⟨x2, rfl⟩, a1, c1, rfl, hO1⟩
              have HO1 := Lib.hid (show World.ownsRow _ 0 _ 10 (.slice a1 t1.length c1) t1.length (t1.map Step.cells).flatten from own_low hO1 (Nat.zero_le _))
              clear hO1
              go_wp2_with fail
              all_goals
                refine (law12_there _ _ n hc root page L).mono ?_
                rintro e w' ⟨rfl, hww⟩
                subst w'
                rw [HT.out]
                go_wp2_with fail
                refine (HQ.out _ (by repeat (first | exact HRF.out | apply RefAt.more | apply RefAt.alloc | apply RefAt.drew | apply RefAt.drewN))).mono ?_
                rintro e w' ⟨⟨x3, rfl⟩, rfl⟩
                go_wp2_with fail
                go_loopw [25] (fun i wr => ∃ q : Nat, q ≤ fresh.length ∧ i = .int .i64 q ∧ Ext w2 wr ∧ (more w2 x2).heap.size < wr.heap.size ∧ ∃ xa xb : Int, Hid (wr.heap[(more w2 x2).heap.size]? = some (.cells #[.int .i64 xa, .int .i64 xb] 75 (0, 0))) ∧ Hid (xa = ta' ∧ xb = tb') ∧ Hid (wr.ownsRow 0 49 10 (.slice a1 t1.length c1) t1.length (t1.map Step.cells).flatten)) (fun i _ => fresh.length - (intOf i).toNat)
                case atStart => exact ⟨0, by omega, rfl, (by repeat (first | exact Ext.refl _ | apply Ext.more | apply Ext.alloc | apply Ext.drew | apply Ext.drewN)), by simp [size_more]; omega, _, _, (by show _ = _; exact (by repeat (first | (with_reducible exact heap_alloc_new _ _) | (with_reducible apply box_more) | (with_reducible apply box_alloc) | (with_reducible apply box_drew) | (with_reducible apply box_drewN)))), (by show _ ∧ _; have := HH.out; omega), (by show World.ownsRow _ _ _ _ _ _ _; exact (by repeat (first | (with_reducible apply own_alloc) | (with_reducible apply own_drew) | (with_reducible apply own_drewN) | exact HO1.out | (with_reducible apply own_more))))⟩
                case round =>
                  obtain ⟨q, hq, rfl, ⟨x, rfl⟩, hbx, xa, xb, HBx, HXa, HOw⟩ := hrel
                  by_cases hlt : q < fresh.length
                  · have hz : fresh[q]? = some fresh[q] := List.getElem?_eq_getElem hlt
                    obtain ⟨hg0, hg1⟩ := HG.out _ (List.getElem_mem hlt)
                    obtain ⟨fb, fo, rfl, hfb, hcl⟩ := HFC.out q (intCells fresh[q]) (by rw [List.getElem?_map, hz]; rfl) (by simp [intCells])
                    have hfb2 : fb < w2.heap.size := by omega
                    obtain ⟨k1, k2, k3⟩ := lt_facts hfb2
                    have x0 := HE2.out.grow.cell (hcl 0 (.int .i64 fresh[q]) rfl) (by simp)
                    simp only [Nat.mul_one, Nat.add_zero] at x0
                    generalize fresh[q] = f at *
                    clear hz hcl
                    go_wp2_with fail
                    go_roundw
                    case rel => exact ⟨q + 1, by omega, by go_num, (by repeat (first | exact Ext.refl _ | apply Ext.more | apply Ext.alloc | apply Ext.drew | apply Ext.drewN)), hbx, xa, xb, HBx, HXa, HOw⟩
                    case measure => simp [intOf]; omega
                  obtain rfl : q = fresh.length := by omega
                  obtain ⟨e1, e2⟩ : xa = ta ∧ xb = tb := by have := HXa.out; have := HH.out; omega
                  subst e1 e2
                  obtain ⟨c0, c1', _⟩ := cells2 HBx.out
                  clear hlt hq HXa HH
                  go_wp2_with fail
                  refine (HRP'.out _ (by repeat (first | exact HRF.out | apply RefAt.more | apply RefAt.alloc | apply RefAt.drew | apply RefAt.drewN)) _ (by repeat (first | exact HF2.out | apply rd_more | apply rd_alloc | apply rd_drew | apply rd_drewN))).mono ?_
                  rintro e w' ⟨⟨x4, rfl⟩, a2, c2, rfl, hO2⟩
                  have HO2 := Lib.hid (show World.ownsRow _ _ _ 10 (.slice a2 t1.length c2) t1.length (t1.map Step.cells).flatten from hO2)
                  clear hO2
                  go_wp2_with fail
                  refine (ref12_Same _ (s := t1) (by repeat (first | (with_reducible apply own_alloc) | (with_reducible apply own_drew) | (with_reducible apply own_drewN) | exact HOw.out | (with_reducible apply own_more))) (by repeat (first | (with_reducible apply own_alloc) | (with_reducible apply own_drew) | (with_reducible apply own_drewN) | exact HO2.out | (with_reducible apply own_more)))).mono ?_
                  rintro e w' ⟨⟨x5, rfl⟩, rfl⟩
                  go_wp2_with fail
                  go_ret
                  exact ⟨(by repeat (first | exact HE2.out | apply Ext.more | apply Ext.alloc | apply Ext.drew | apply Ext.drewN)), rfl⟩
        · have HP' := Lib.hid (HPth.out (.no 1) (by unfold pathRes; dsimp only; rw [if_neg h7, if_neg ha, if_pos (by simpa using hall)]))
          have HBad := Lib.hid hall
          clear hw hres HPth HRP h7 hk ha hall
          go_wp2_with fail
          refine (HP'.out _ (by repeat (first | exact HM.out | apply MemAt.more | apply MemAt.alloc | apply MemAt.drew | apply MemAt.drewN)) _ (by repeat (first | exact HF2.out | apply rd_more | apply rd_alloc | apply rd_drew | apply rd_drewN))).mono ?_
          rintro e w' ⟨⟨x2, rfl⟩, rfl⟩
          go_wp2_with fail
          refine (law12_there _ _ n hc root page L).mono ?_
          rintro e w' ⟨rfl, hww⟩
          subst w'
          rw [HT.out]
          go_wp2_with fail
          refine (HQ.out _ (by repeat (first | exact HRF.out | apply RefAt.more | apply RefAt.alloc | apply RefAt.drew | apply RefAt.drewN))).mono ?_
          rintro e w' ⟨⟨x3, rfl⟩, rfl⟩
          go_wp2_with fail
          go_loopw [25] (fun i wr => ∃ q : Nat, q ≤ fresh.length ∧ i = .int .i64 q ∧ Ext w2 wr ∧ Hid (∀ (j : Nat) (f : Int), j < q → fresh[j]? = some f → 0 ≤ f ∧ f < n)) (fun i _ => fresh.length - (intOf i).toNat)
          case atStart => exact ⟨0, by omega, rfl, (by repeat (first | exact Ext.refl _ | apply Ext.more | apply Ext.alloc | apply Ext.drew | apply Ext.drewN)), fun j f hj => by omega⟩
          case round =>
            obtain ⟨q, hq, rfl, ⟨x, rfl⟩, HG⟩ := hrel
            by_cases hlt : q < fresh.length
            · have hz : fresh[q]? = some fresh[q] := List.getElem?_eq_getElem hlt
              obtain ⟨fb, fo, rfl, hfb, hcl⟩ := HFC.out q (intCells fresh[q]) (by rw [List.getElem?_map, hz]; rfl) (by simp [intCells])
              have hfb2 : fb < w2.heap.size := by omega
              obtain ⟨k1, k2, k3⟩ := lt_facts hfb2
              have x0 := HE2.out.grow.cell (hcl 0 (.int .i64 fresh[q]) rfl) (by simp)
              simp only [Nat.mul_one, Nat.add_zero] at x0
              have HG' := Lib.hid (fun (h : 0 ≤ fresh[q] ∧ fresh[q] < n) (j : Nat) (f : Int) (hj : j < q + 1) (hf : fresh[j]? = some f) => (show 0 ≤ f ∧ f < n from by
                by_cases e : j < q
                · exact HG.out j f e hf
                · obtain rfl : j = q := by omega
                  rw [hz, Option.some.injEq] at hf
                  subst hf
                  exact h))
              generalize fresh[q] = f at *
              clear hz hcl
              by_cases hg : 0 ≤ f ∧ f < n
              · have HG2 := Lib.hid (HG'.out hg)
                obtain ⟨hg0, hg1⟩ := hg
                clear HG'
                go_wp2_with fail
                go_roundw
                case rel => exact ⟨q + 1, by omega, by go_num, (by repeat (first | exact Ext.refl _ | apply Ext.more | apply Ext.alloc | apply Ext.drew | apply Ext.drewN)), HG2⟩
                case measure => simp [intOf]; omega
              · have hg' : f < 0 ∨ (0 ≤ f ∧ (n : Int) ≤ f) := by omega
                clear HG' hg
                rcases hg' with hg | ⟨hg, hg2⟩
                all_goals
                  go_wp2_with fail
                  go_ret
                  exact ⟨(by repeat (first | exact HE2.out | apply Ext.more | apply Ext.alloc | apply Ext.drew | apply Ext.drewN)), rfl⟩
            · exact absurd (all_good (n := n) (fun j f hf => HG.out j f (by have := (List.getElem?_eq_some_iff.1 hf).1; omega) hf)) HBad.out
  · have HT := Lib.hid (thereB_no hin)
    have HPno := Lib.hid (fun w (hm : MemAt w b g n n ws) v => tree_Path_no w hm root asid page level v hin)
    clear hin hw
    go_wp2_with fail
    refine (HPno.out _ (by repeat (first | exact HM.out | apply MemAt.more | apply MemAt.alloc | apply MemAt.drew | apply MemAt.drewN)) _).mono ?_
    rintro e w' ⟨⟨x2, rfl⟩, rfl⟩
    go_wp2_with fail
    refine (law12_there _ _ n hc root page level).mono ?_
    rintro e w' ⟨rfl, hww⟩
    subst w'
    rw [HT.out]
    go_wp2_with fail
    go_ret
    exact ⟨(by repeat (first | exact HE2.out | apply Ext.more | apply Ext.alloc | apply Ext.drew | apply Ext.drewN)), rfl⟩

end Go.Proofs.Ytmcjfnkekcablaa
