/- The contract of paviorref17.Alike; the law paviorlaw17.FoldTells. -/
import Derived.Test.YtmcjfnkekcablaaFolds
namespace Go.Proofs.Ytmcjfnkekcablaa
open Go.RowKit
set_option linter.unusedVariables false
set_option linter.unusedSimpArgs false
attribute [local go_sem] setCell_drewN alloc_drewN lt_moreE le_moreE lt_moreK le_moreK cell_more frozen_more set_more drew_more drewN_more

/-- The document's word on four pages. -/
def refAlike (l : List Found) (folded : Bool) : Bool := if folded then alikeB l 2 else mayB l
theorem refAlike_no {l : List Found} {folded : Bool} (h : alikeB l (if folded then 2 else 0) = false) : refAlike l folded = false := by
  cases folded <;> simp [refAlike, mayB] at h ⊢ <;> simp [h]

set_option maxRecDepth 100000 in
set_option maxHeartbeats 4000000 in
theorem ref17_Alike (w : World) {B cap : Nat} {a : Option Addr} {l : List Found} (HO : w.ownsRow B 92 11 (.slice a l.length cap) l.length (l.map Found.cells).flatten) (folded : Bool) (hl : l.length = 4) (hb : ∀ f ∈ l, 0 ≤ f.fFrame ∧ f.fFrame < 1000) (ho : ∀ f ∈ l, f.fKind = 3 → f.fOrder = 0 ∨ f.fOrder = 2) (r : Bool) (hr : refAlike l folded = r) :
    Calls Try.prog 21 #[.slice a l.length cap, .bool folded] w fun e w' => Ext w w' ∧ e = .returned (.bool r) := by
  have hl1 : 4 ≤ l.length := by omega
  have hl2 : l.length ≤ 4 := by omega
  clear hl
  have hc := own_cap HO
  have hm : cap ≤ 9223372036854775807 := by have := hc.2.2; unfold maxLen at this; exact this
  have hs1 := hc.2.1
  have HA := Lib.hid (own_at HO)
  have HB := Lib.hid hb
  have HQ := Lib.hid ho
  have HR := Lib.hid hr
  obtain ⟨ord, hord⟩ : ∃ o : Int, (if folded then (2 : Int) else 0) = o := ⟨_, rfl⟩
  have HD := Lib.hid hord
  clear HO hc hb hr ho hord
  go_enter Try.func21, Try.ntmps21
  go_wp2_with fail
  go_loopw [5] (fun i wr => ∃ q : Nat, q ≤ 4 ∧ i = .int .i64 q ∧ Ext w wr ∧ Hid (∀ (j : Nat) (f : Found), j < q → l[j]? = some f → likeB (l.getD 0 zeroF) f j ord = true)) (fun i _ => 4 - (intOf i).toNat)
  case atStart => exact ⟨0, by omega, rfl, (by repeat (first | exact Ext.refl _ | apply Ext.more | apply Ext.alloc | apply Ext.drew | apply Ext.drewN)), fun j f hj => by omega⟩
  case round =>
    obtain ⟨q, hq, rfl, ⟨x, rfl⟩, HE⟩ := hrel
    obtain ⟨g, rfl, _, hg, _, hx, _⟩ := HA.out (by omega)
    have hz0 : l[0]? = some l[0] := List.getElem?_eq_getElem (by omega)
    obtain ⟨y0, y1, y2, y3, y4, y5, y6, y7, y8, y9, y10⟩ := found_at hx 0 _ hz0
    simp only [Nat.zero_mul, Nat.zero_add] at y0 y1 y2 y3 y4 y5 y6 y7 y8 y9 y10
    have hb0 := HB.out _ (List.getElem_mem (show 0 < l.length by omega))
    have hgd : l.getD 0 zeroF = l[0] := by rw [List.getD_eq_getElem?_getD, hz0]; rfl
    by_cases hlt : q < 4
    · have hz : l[q]? = some l[q] := List.getElem?_eq_getElem (by omega)
      obtain ⟨x0, x1, x2, x3, x4, x5, x6, x7, x8, x9, x10⟩ := found_at hx q _ hz
      have hbq := HB.out _ (List.getElem_mem (show q < l.length by omega))
      have hoq := HQ.out _ (List.getElem_mem (show q < l.length by omega))
      have HNo := Lib.hid (fun h => HR.out.symm.trans (refAlike_no (by rw [HD.out]; exact alikeB_no hz h)))
      have HYes := Lib.hid (fun (h : likeB (l.getD 0 zeroF) l[q] q ord = true) (j : Nat) (f : Found) (hj : j < q + 1) (hf : l[j]? = some f) => (show likeB (l.getD 0 zeroF) f j ord = true from by
        by_cases e : j < q
        · exact HE.out j f e hf
        · obtain rfl : j = q := by omega
          rw [hz, Option.some.injEq] at hf
          subst hf
          exact h))
      rw [hgd] at HNo
      have HGD := Lib.hid hgd
      clear hgd hz hz0 hx HE
      generalize l[q] = z at *
      generalize hz0 : l[0] = z0 at *
      obtain ⟨F0, F1, F2, F3, F4, F5, F6, F7, F8, F9, F10⟩ := z
      obtain ⟨G0, G1, G2, G3, G4, G5, G6, G7, G8, G9, G10⟩ := z0
      clear hz0
      dsimp only at x0 x1 x2 x3 x4 x5 x6 x7 x8 x9 x10 y0 y1 y2 y3 y4 y5 y6 y7 y8 y9 y10 hb0 hbq hoq
      by_cases k3 : F0 = 3
      case neg =>
        have HV := Lib.hid (HNo.out (by simp [likeB, k3]))
        have z3 : (F0 != 3) = true := by simpa using k3
        clear k3 HNo HYes hoq
        go_wp2_with fail
        go_quiet (fail)
        go_wp2_with fail
        go_ret
        exact ⟨(by repeat (first | exact Ext.refl _ | apply Ext.more | apply Ext.alloc | apply Ext.drew | apply Ext.drewN)), by rw [HV.out]; rfl⟩
      subst k3
      have hoq := hoq rfl
      by_cases ko : F5 = ord
      case neg =>
        have HV := Lib.hid (HNo.out (by simp [likeB, ko]))
        have zo : (F5 == 2) = !folded := by
          rw [← HD.out] at ko
          cases folded <;> rcases hoq with rfl | rfl <;> simp_all
        clear ko HNo HYes hoq
        cases folded
        all_goals
          simp only [Bool.not_true, Bool.not_false] at zo
          go_wp2_with fail
          go_quiet (fail)
          go_wp2_with fail
          go_ret
          exact ⟨(by repeat (first | exact Ext.refl _ | apply Ext.more | apply Ext.alloc | apply Ext.drew | apply Ext.drewN)), by rw [HV.out]; rfl⟩
      have zo : (F5 == 2) = folded := by
        rw [← HD.out] at ko; subst ko; cases folded <;> simp
      by_cases kf : F4 - G4 = q
      case neg =>
        have HV := Lib.hid (HNo.out (by simp [likeB, show ¬ F4 = G4 + q by omega]))
        have zf : (F4 - G4 != q) = true := by simpa using kf
        clear kf ko hoq HNo HYes
        go_wp2_with fail
        go_quiet (fail)
        go_wp2_with fail
        go_ret
        exact ⟨(by repeat (first | exact Ext.refl _ | apply Ext.more | apply Ext.alloc | apply Ext.drew | apply Ext.drewN)), by rw [HV.out]; rfl⟩
      have zf : (F4 - G4 != q) = false := by simpa using kf
      by_cases kw : F8 = G8
      case neg =>
        have HV := Lib.hid (HNo.out (by simp [likeB, kw]))
        have zw : (F8 != G8) = true := by simpa using kw
        have zw' : (F8 == G8) = false := by simpa using kw
        clear kw kf ko hoq HNo HYes
        go_wp2_with fail
        go_quiet (fail)
        go_wp2_with fail
        go_ret
        exact ⟨(by repeat (first | exact Ext.refl _ | apply Ext.more | apply Ext.alloc | apply Ext.drew | apply Ext.drewN)), by rw [HV.out]; rfl⟩
      subst kw
      by_cases kx : F9 = G9
      case neg =>
        have HV := Lib.hid (HNo.out (by simp [likeB, kx]))
        have zx : (F9 != G9) = true := by simpa using kx
        have zx' : (F9 == G9) = false := by simpa using kx
        clear kx kf ko hoq HNo HYes
        go_wp2_with fail
        go_quiet (fail)
        go_wp2_with fail
        go_ret
        exact ⟨(by repeat (first | exact Ext.refl _ | apply Ext.more | apply Ext.alloc | apply Ext.drew | apply Ext.drewN)), by rw [HV.out]; rfl⟩
      subst kx
      have HN := Lib.hid (HYes.out (by rw [HGD.out]; simp [likeB, ko, show F4 = G4 + q by omega]))
      clear HNo HYes kf ko hoq
      go_wp2_with fail
      go_quiet (fail)
      go_wp2_with fail
      go_roundw
      case rel => exact ⟨q + 1, by omega, by go_num, (by repeat (first | exact Ext.refl _ | apply Ext.more | apply Ext.alloc | apply Ext.drew | apply Ext.drewN)), HN⟩
      case measure => simp [intOf]; omega
    · obtain rfl : q = 4 := by omega
      have ha := alikeB_yes fun i f hf => HE.out i f (by have := (List.getElem?_eq_some_iff.1 hf).1; omega) hf
      have hV : r = (folded || decide (l[0].fFrame % 4 = 0)) := by
        rw [← HR.out]
        rw [← HD.out] at ha
        cases folded
        · simp only [Bool.false_eq_true, if_false] at ha
          unfold refAlike mayB; rw [hgd, ha]; simp
        · simp only [if_true] at ha
          simp [refAlike, ha]
      have HV := Lib.hid hV
      clear hV ha HE hz0 hgd hx
      generalize hz0 : l[0] = z0 at *
      obtain ⟨G0, G1, G2, G3, G4, G5, G6, G7, G8, G9, G10⟩ := z0
      clear hz0
      dsimp only at y0 y1 y2 y3 y4 y5 y6 y7 y8 y9 y10 hb0
      have hrem : G4.tmod 4 = G4 % 4 := Int.tmod_eq_emod_of_nonneg hb0.1
      cases folded with
      | true =>
        go_wp2_with fail
        go_ret
        exact ⟨(by repeat (first | exact Ext.refl _ | apply Ext.more | apply Ext.alloc | apply Ext.drew | apply Ext.drewN)), by simp [HV.out]⟩
      | false =>
        by_cases h4 : G4 % 4 = 0
        all_goals
          go_wp2_with fail
          go_ret
          exact ⟨(by repeat (first | exact Ext.refl _ | apply Ext.more | apply Ext.alloc | apply Ext.drew | apply Ext.drewN)), by simp [HV.out, h4]⟩

theorem run_up : (runN (List.replicate 8 0) 1 0 0 4).map mayB = some false := by decide +kernel

set_option maxRecDepth 100000 in
set_option maxHeartbeats 1000000 in
theorem law17_up (w : World) : Calls Try.prog 15 #[] w fun e w' => Ext w w' ∧ e = .returned (.bool true) := by
  have hU := run_up
  have heq := fun (w : World) => eql_err w 1 1
  have hzw : WOk (List.replicate 8 (0 : Int)) := fun x hx => by rw [List.eq_of_mem_replicate hx]; omega
  generalize hZ : List.replicate 8 (0 : Int) = Z at *
  have HU := Lib.hid hU
  have HZ := Lib.hid hZ
  clear hU hZ
  go_enter Try.func15, Try.ntmps15
  go_wp2_with fail
  refine (phys_New_yes _ 1 (by omega) (by omega)).mono ?_
  rintro e w1 ⟨b, g, rfl, hm, hgr, _, _⟩
  rw [show 1 * 8 = 8 from rfl, HZ.out] at hm
  have HM := Lib.hid hm
  obtain ⟨ex0, rfl⟩ := more_of_grow hgr
  have HF := Lib.hid (fun w (hm : MemAt w b g 1 1 Z) => fold_May w hm hzw 0 0 (by omega) (by decide) (by omega) (by omega) _ rfl)
  have HN := Lib.hid (fun w => fold_May_nil w 0 0)
  clear hgr hm
  go_wp2_with fail
  refine (HF.out _ (by repeat (first | exact HM.out | apply MemAt.more | apply MemAt.alloc | apply MemAt.drew | apply MemAt.drewN))).mono ?_
  rintro e w' ⟨⟨ex1, rfl⟩, rfl⟩
  rw [show tellV ((runN Z ((1 : Nat) : Int) 0 (0 - 0 % 4) 4).map mayB) = .tuple #[.bool false, .nilIface] from by rw [show (runN Z ((1 : Nat) : Int) 0 (0 - 0 % 4) 4).map mayB = some false from HU.out]; rfl]
  go_wp2_with fail
  refine (HN.out _).mono ?_
  rintro e w' ⟨⟨ex2, rfl⟩, rfl⟩
  go_wp2_with fail
  go_ret
  exact ⟨(by repeat (first | exact Ext.refl _ | apply Ext.more | apply Ext.alloc | apply Ext.drew | apply Ext.drewN)), rfl⟩

theorem run_orders {ws : List Int} {n root first : Int} {i : Nat} {l : List Found} (h : runN ws n root first i = some l) : ∀ f ∈ l, f.fKind = 3 → f.fOrder = 0 ∨ f.fOrder = 2 := by
  intro f hf hk
  obtain ⟨j, hj, rfl⟩ := List.getElem_of_mem hf
  exact (walk_page (runN_at i l h j _ (List.getElem?_eq_getElem hj)) hk).2.1

set_option maxRecDepth 100000 in
set_option maxHeartbeats 4000000 in
theorem law17_FoldTells (w : World) (fr : Int) (hfr : (Lit.int .i64 fr).wf = true) (l : List Laid) (hl : ∀ d ∈ l, d.wf) (v : Value) (hv : SlRd w v 3 (l.map Laid.cells)) (root : Int) (_ : (Lit.int .i64 root).wf = true) (page : Int) (_ : (Lit.int .i64 page).wf = true) :
    Calls Try.prog 3 #[.int .i64 fr, v, .int .i64 root, .int .i64 page] w fun e w' => e = .returned (.bool true) ∧ w.grownBy w' none := by
  refine growC (R := fun e _ => e = .returned (.bool true)) ?_
  have hw := WOk_layW (layN fr) l hl
  have HL := Lib.hid hl
  have HV := Lib.hid hv
  have HR := Lib.hid hfr
  have heq := fun (w : World) => eql_err w 1 1
  clear hl hv hfr
  go_enter Try.func3, Try.ntmps3
  go_wp2_with fail
  refine (law17_up _).mono ?_
  rintro e w1 ⟨⟨ex1, rfl⟩, rfl⟩
  go_wp2_with fail
  refine (lay_ext _ fr HR.out l HL.out v (by repeat (first | exact HV.out | apply rd_more | apply rd_alloc | apply rd_drew | apply rd_drewN))).mono ?_
  rintro e w2 ⟨b, g, h, hc, gb, gc, rfl, hm2, hr2, hE⟩
  have hE2 : Ext w w2 := Ext.trans (by repeat (first | exact Ext.refl _ | apply Ext.more | apply Ext.alloc | apply Ext.drew | apply Ext.drewN)) hE
  have HM := Lib.hid hm2
  have HRF := Lib.hid hr2
  have HE2 := Lib.hid hE2
  clear HL HV HR hE hE2 hr2
  generalize layW (layN fr) l = ws at *
  generalize layN fr = n at *
  clear hm2
  by_cases hin : 0 ≤ root ∧ root < n ∧ 0 ≤ page ∧ page < 4096
  · obtain ⟨r0, r1, p0, p1⟩ := hin
    have hfp : 0 ≤ page - page % 4 ∧ (page - page % 4) + (4 : Nat) ≤ 4096 := by omega
    cases hres : runN ws n root (page - page % 4) 4 with
    | none =>
      have HT := Lib.hid (fun w (hm : MemAt w b g n n ws) => fold_May w hm hw root page r0 r1 p0 p1 _ hres)
      have HI := Lib.hid (fun w (hm : MemAt w b g n n ws) => fold_Is w hm hw root page r0 r1 p0 p1 _ hres)
      have HQ := Lib.hid (fun w (hr : RefAt w h hc n gb gc ws) => ref17_Run w hr hw root page p0 p1 _ hres)
      clear hres hw
      go_wp2_with fail
      refine (HT.out _ (by repeat (first | exact HM.out | apply MemAt.more | apply MemAt.alloc | apply MemAt.drew | apply MemAt.drewN))).mono ?_
      rintro e w' ⟨⟨ex2, rfl⟩, rfl⟩
      rw [tellV_n]
      go_wp2_with fail
      refine (HI.out _ (by repeat (first | exact HM.out | apply MemAt.more | apply MemAt.alloc | apply MemAt.drew | apply MemAt.drewN))).mono ?_
      rintro e w' ⟨⟨ex3, rfl⟩, rfl⟩
      rw [tellV_n]
      go_wp2_with fail
      refine (HQ.out _ (by repeat (first | exact HRF.out | apply RefAt.more | apply RefAt.alloc | apply RefAt.drew | apply RefAt.drewN))).mono ?_
      rintro e w' ⟨⟨ex4, rfl⟩, rfl⟩
      go_wp2_with fail
      refine (law00_Code _ 2 (by omega) (by omega)).mono ?_
      rintro e w' ⟨rfl, hww⟩
      rw [hww]
      clear hww w'
      go_wp2_with fail
      refine (law00_Code _ 2 (by omega) (by omega)).mono ?_
      rintro e w' ⟨rfl, hww⟩
      rw [hww]
      clear hww w'
      go_wp2_with fail
      go_ret
      exact ⟨(by repeat (first | exact HE2.out | apply Ext.more | apply Ext.alloc | apply Ext.drew | apply Ext.drewN)), rfl⟩
    | some s =>
      have HT := Lib.hid (fun w (hm : MemAt w b g n n ws) => fold_May w hm hw root page r0 r1 p0 p1 _ hres)
      have HI := Lib.hid (fun w (hm : MemAt w b g n n ws) => fold_Is w hm hw root page r0 r1 p0 p1 _ hres)
      have HQ := Lib.hid (fun w (hr : RefAt w h hc n gb gc ws) => ref17_Run w hr hw root page p0 p1 _ hres)
      have hlen := Lib.hid (runN_len _ _ hres)
      have HB := Lib.hid (walk_frames hres hfp.1 hfp.2)
      have HO := Lib.hid (run_orders hres)
      clear hres hw
      go_wp2_with fail
      refine (HT.out _ (by repeat (first | exact HM.out | apply MemAt.more | apply MemAt.alloc | apply MemAt.drew | apply MemAt.drewN))).mono ?_
      rintro e w' ⟨⟨ex2, rfl⟩, rfl⟩
      rw [tellV_s]
      generalize hmay : mayB s = may
      go_wp2_with fail
      refine (HI.out _ (by repeat (first | exact HM.out | apply MemAt.more | apply MemAt.alloc | apply MemAt.drew | apply MemAt.drewN))).mono ?_
      rintro e w' ⟨⟨ex3, rfl⟩, rfl⟩
      rw [tellV_s]
      generalize his : alikeB s 2 = is
      go_wp2_with fail
      refine (HQ.out _ (by repeat (first | exact HRF.out | apply RefAt.more | apply RefAt.alloc | apply RefAt.drew | apply RefAt.drewN))).mono ?_
      rintro e w3 ⟨hE3, a, cap, rfl, hO⟩
      have hE3' : Ext w2 w3 := Ext.trans (by repeat (first | exact Ext.refl _ | apply Ext.more | apply Ext.alloc | apply Ext.drew | apply Ext.drewN)) hE3
      have HE3 := Lib.hid (HE2.out.trans hE3')
      have HO1 := Lib.hid hO
      have HA1 := Lib.hid (fun w HO' => ref17_Alike w (B := (more (more w2 ex2) ex3).heap.size) (cap := cap) (a := a) (l := s) HO' false hlen.out HB.out HO.out may (by rw [← hmay]; rfl))
      have HA2 := Lib.hid (fun w HO' => ref17_Alike w (B := (more (more w2 ex2) ex3).heap.size) (cap := cap) (a := a) (l := s) HO' true hlen.out HB.out HO.out is (by rw [← his]; rfl))
      clear hE3 hE3' hO hmay his HT HI HQ HB HO
      go_wp2_with fail
      refine (HA1.out _ (by repeat (first | exact HO1.out | apply own_more | apply own_alloc | apply own_drew | apply own_drewN))).mono ?_
      rintro e w' ⟨⟨ex4, rfl⟩, rfl⟩
      go_wp2_with fail
      refine (HA2.out _ (by repeat (first | exact HO1.out | apply own_more | apply own_alloc | apply own_drew | apply own_drewN))).mono ?_
      rintro e w' ⟨⟨ex5, rfl⟩, rfl⟩
      go_wp2_with fail
      go_ret
      exact ⟨(by repeat (first | exact HE3.out | apply Ext.more | apply Ext.alloc | apply Ext.drew | apply Ext.drewN)), by simp⟩
  · have HT := Lib.hid (fun w (hm : MemAt w b g n n ws) => fold_May_no w hm root page hin)
    have HI := Lib.hid (fun w (hm : MemAt w b g n n ws) => fold_Is_no w hm root page hin)
    have hin' : root < 0 ∨ (0 ≤ root ∧ (n : Int) ≤ root) ∨ (0 ≤ root ∧ root < n ∧ page < 0) ∨ (0 ≤ root ∧ root < n ∧ 0 ≤ page ∧ 4095 < page) := by omega
    clear hin hw
    go_wp2_with fail
    refine (HT.out _ (by repeat (first | exact HM.out | apply MemAt.more | apply MemAt.alloc | apply MemAt.drew | apply MemAt.drewN))).mono ?_
    rintro e w' ⟨⟨ex2, rfl⟩, rfl⟩
    go_wp2_with fail
    refine (HI.out _ (by repeat (first | exact HM.out | apply MemAt.more | apply MemAt.alloc | apply MemAt.drew | apply MemAt.drewN))).mono ?_
    rintro e w' ⟨⟨ex3, rfl⟩, rfl⟩
    rcases hin' with hh | ⟨h1, h2⟩ | ⟨h1, h2, h3⟩ | ⟨h1, h2, h3, h4⟩
    all_goals
      go_wp2_with fail
      go_ret
      exact ⟨(by repeat (first | exact HE2.out | apply Ext.more | apply Ext.alloc | apply Ext.drew | apply Ext.drewN)), rfl⟩

end Go.Proofs.Ytmcjfnkekcablaa
