import Derived.Test.YtapeoeakiphfpaaBStepsSamePart
import Derived.Test.YtapeoeakiphfpaaBCodeLawgLawhLawe
/- The contracts of the Go package fold: run, alike, May, Is. -/
namespace Go.Proofs.Ytapeoeakiphfpaa
open Go.RowKit
set_option linter.unusedVariables false
set_option linter.unusedSimpArgs false
attribute [local go_sem] setCell_drewN alloc_drewN lt_moreE le_moreE lt_moreK le_moreK cell_more frozen_more set_more drew_more drewN_more

/-- What run answers, where all is there. -/
def RunRet (B : Nat) (w' : World) (r : Option (List Found)) (e : Ending) : Prop := match r with
  | some s => ∃ a cap, e = .returned (.tuple #[.slice a s.length cap, .nilIface]) ∧ w'.ownsRow B 80 11 (.slice a s.length cap) s.length (s.map Found.cells).flatten
  | none => e = .returned (.tuple #[.slice none 0 0, errW 2])
theorem runRet_some {B B' n : Nat} {w' : World} {r : Option (List Found)} {s : List Found} {v : Value} {xs : List Value} (hr : r = some s) (h : w'.ownsRow B' 80 11 v n xs) (hb : B ≤ B') (hn : n = s.length) (hx : xs = (s.map Found.cells).flatten) : RunRet B w' r (.returned (.tuple #[v, .nilIface])) := by
  obtain ⟨a, cap, rfl⟩ := own_form h
  subst hn hx hr
  exact ⟨a, cap, rfl, own_low h hb⟩
/-- A run's first page. -/
def first4 (page : Int) : Int := page - page % 4

set_option maxHeartbeats 1000000 in
theorem fold_run_nil (w : World) (root page : Int) :
    Calls Try.prog 105 #[.pointer none, .int .i64 root, .int .i64 page] w fun e w' => Ext w w' ∧ e = .returned (.tuple #[.slice none 0 0, errW 1]) := by
  go_enter Try.func105, Try.ntmps105
  go_wp2_with fail
  go_ret2
  exact ⟨(by repeat (first | exact Ext.refl _ | apply Ext.more | apply Ext.alloc | apply Ext.drew | apply Ext.drewN)), rfl⟩
set_option maxHeartbeats 1000000 in
theorem fold_run_no (w : World) {b g n c : Nat} {ws : List Int} (hm : MemAt w b g n c ws) (root page : Int) (h : ¬ (0 ≤ root ∧ root < n ∧ 0 ≤ page ∧ page < 4096)) :
    Calls Try.prog 105 #[.pointer (some ⟨b, 0, none⟩), .int .i64 root, .int .i64 page] w fun e w' => Ext w w' ∧ e = .returned (.tuple #[.slice none 0 0, errW 1]) := by
  have HF := Lib.hid (extS (phys_Frames _ hm))
  have h' : root < 0 ∨ (0 ≤ root ∧ (n : Int) ≤ root) ∨ (0 ≤ root ∧ root < n ∧ page < 0) ∨ (0 ≤ root ∧ root < n ∧ 4096 ≤ page) := by omega
  clear h hm
  rcases h' with h | ⟨h1, h2⟩ | ⟨h1, h2, h3⟩ | ⟨h1, h2, h3⟩
  · go_enter Try.func105, Try.ntmps105
    go_wp2_with fail
    go_ret2
    exact ⟨(by repeat (first | exact Ext.refl _ | apply Ext.more | apply Ext.alloc | apply Ext.drew | apply Ext.drewN)), rfl⟩
  all_goals
    go_enter Try.func105, Try.ntmps105
    go_wp2_with fail
    refine HF.out.mono ?_
    rintro e w1 ⟨⟨ex1, rfl⟩, rfl⟩
    go_wp2_with fail
    go_ret2
    exact ⟨(by repeat (first | exact Ext.refl _ | apply Ext.more | apply Ext.alloc | apply Ext.drew | apply Ext.drewN)), rfl⟩

set_option maxRecDepth 100000 in
set_option maxHeartbeats 4000000 in
theorem fold_run (w : World) {b g n c : Nat} {ws : List Int} (hm : MemAt w b g n c ws) (hw : WOk ws) (root page : Int) (h0 : 0 ≤ root) (h1 : root < n) (p0 : 0 ≤ page) (p1 : page < 4096) (r : Option (List Found)) (hr : runN ws n root (page - page % 4) 4 = r) :
    Calls Try.prog 105 #[.pointer (some ⟨b, 0, none⟩), .int .i64 root, .int .i64 page] w fun e w' => Ext w w' ∧ RunRet w.heap.size w' r e := by
  have HM := Lib.hid hm
  have HW := Lib.hid hw
  have HF := Lib.hid (extS (phys_Frames _ hm))
  have HR := Lib.hid hr
  obtain ⟨fp, hfp⟩ : ∃ fp, page - page % 4 = fp := ⟨_, rfl⟩
  have hand := (and3 page p0 p1).2
  rw [hfp] at hand HR
  have hf0 : 0 ≤ fp := by omega
  have hf1 : fp + 3 < 4096 := by omega
  clear hm hw hr hfp
  go_enter Try.func105, Try.ntmps105
  go_wp2_with fail
  refine HF.out.mono ?_
  rintro e w1 ⟨⟨ex1, rfl⟩, rfl⟩
  go_wp2_with fail
  go_loopw [8, 36] (fun o k wr => ∃ (i : Nat) (acc : List Found), i ≤ 4 ∧ k = .int .i64 i ∧ acc.length = i ∧ Ext w wr ∧ Hid (runN ws n root fp i = some acc) ∧ Hid (wr.ownsRow w.heap.size 80 11 o acc.length (acc.map Found.cells).flatten)) (fun _ k _ => 4 - (intOf k).toNat)
  case atStart => exact ⟨0, [], by omega, rfl, rfl, (by repeat (first | exact Ext.refl _ | apply Ext.more | apply Ext.alloc | apply Ext.drew | apply Ext.drewN)), rfl, World.ownsRow_nil _ _ _ _⟩
  case round =>
    obtain ⟨i, acc, hi, rfl, hal, ⟨x, rfl⟩, HE, HO⟩ := hrel
    by_cases hlt : i < 4
    · have hs := fun r => runN_step (r := r) HE.out
      have HK := Lib.hid (fun w hm => walk_Walk (n := n) (b := b) (g := g) (c := c) w hm HW.out root (fp + i) h0 h1 (by omega) (by omega))
      cases hres : walkAt ws n (fp + i) 4 0 root with
      | none =>
        have hn := runN_none (i + 1) (hs none hres) (3 - i)
        rw [show i + 1 + (3 - i) = 4 by omega, HR.out] at hn
        subst hn
        rw [hres] at HK
        clear hres hs HE
        go_wp2_with fail
        refine (extC (HK.out _ (by repeat (first | exact HM.out | apply MemAt.more | apply MemAt.alloc | apply MemAt.drew | apply MemAt.drewN)))).mono ?_
        rintro e w' ⟨⟨ex2, rfl⟩, rfl⟩
        rw [walkV_n]
        go_wp2_with fail
        go_ret2
        exact ⟨(by repeat (first | exact Ext.refl _ | apply Ext.more | apply Ext.alloc | apply Ext.drew | apply Ext.drewN)), rfl⟩
      | some f =>
        have HN := Lib.hid (show runN ws n root fp (i + 1) = some (acc ++ [f]) from hs (some f) hres)
        rw [hres] at HK
        clear hres hs HE
        obtain ⟨F0, F1, F2, F3, F4, F5, F6, F7, F8, F9, F10⟩ := f
        go_wp2_with fail
        refine (extC (HK.out _ (by repeat (first | exact HM.out | apply MemAt.more | apply MemAt.alloc | apply MemAt.drew | apply MemAt.drewN)))).mono ?_
        rintro e w' ⟨⟨ex2, rfl⟩, rfl⟩
        rw [walkV_s]
        go_wp2_with ((at_builtin; refine wpList_append_new w el_Found rfl _ _ rfl u8 acc.length _ rfl (by repeat (first | exact HO.out | apply own_more | apply own_alloc | apply own_drew | apply own_drewN)) (by repeat (first | exact Ext.refl _ | apply Ext.more | apply Ext.alloc | apply Ext.drew | apply Ext.drewN)) _ _ 1 _ rfl (by simp) rfl rfl (by omega) ?_); intro v' x' HO' keep; clear keep)
        go_roundw
        case rel => exact ⟨i + 1, acc ++ [⟨F0, F1, F2, F3, F4, F5, F6, F7, F8, F9, F10⟩], by omega, by go_num, by simp; omega, (by repeat (first | exact Ext.refl _ | apply Ext.more | apply Ext.alloc | apply Ext.drew | apply Ext.drewN)), HN, by show World.ownsRow _ _ _ _ _ _ _; simpa [Found.cells] using HO'.out⟩
        case measure => simp [intOf]; omega
    · obtain rfl : i = 4 := by omega
      have HV := Lib.hid (HR.out.symm.trans HE.out)
      clear HE
      go_wp2_with fail
      go_ret2
      exact ⟨(by repeat (first | exact Ext.refl _ | apply Ext.more | apply Ext.alloc | apply Ext.drew | apply Ext.drewN)), runRet_some HV.out HO.out (Nat.le_refl _) rfl rfl⟩

set_option maxRecDepth 100000 in
set_option maxHeartbeats 4000000 in
theorem fold_alike (w : World) {B cap : Nat} {a : Option Addr} {l : List Found} (HO : w.ownsRow B 80 11 (.slice a l.length cap) l.length (l.map Found.cells).flatten) (order : Int) (hb : ∀ f ∈ l, 0 ≤ f.fFrame ∧ f.fFrame < 1000) (hl4 : l.length ≤ 100) (r : Bool) (hr : alikeB l order = r) :
    Calls Try.prog 106 #[.slice a l.length cap, .int .i64 order] w fun e w' => Ext w w' ∧ e = .returned (.bool r) := by
  have hc := own_cap HO
  have HA := Lib.hid (own_at HO)
  have hm : cap ≤ 9223372036854775807 := by have := hc.2.2; unfold maxLen at this; exact this
  have hs1 := hc.2.1
  have HB := Lib.hid hb
  have HR := Lib.hid hr
  clear HO hc hb hr
  go_enter Try.func106, Try.ntmps106
  go_wp2_with fail
  go_loopw [9] (fun i wr => ∃ q : Nat, q ≤ l.length ∧ i = .int .i64 q ∧ Ext w wr ∧ Hid (∀ (j : Nat) (f : Found), j < q → l[j]? = some f → likeB (l.getD 0 zeroF) f j order = true)) (fun i _ => l.length - (intOf i).toNat)
  case atStart => exact ⟨0, by omega, rfl, Ext.refl _, fun j f hj => by omega⟩
  case round =>
    obtain ⟨q, hq, rfl, ⟨x, rfl⟩, HE⟩ := hrel
    by_cases hlt : q < l.length
    · obtain ⟨g, rfl, _, hg, _, hx, _⟩ := HA.out (by omega)
      have hz : l[q]? = some l[q] := List.getElem?_eq_getElem hlt
      have hz0 : l[0]? = some l[0] := List.getElem?_eq_getElem (by omega)
      obtain ⟨x0, x1, x2, x3, x4, x5, x6, x7, x8, x9, x10⟩ := found_at hx q _ hz
      obtain ⟨y0, y1, y2, y3, y4, y5, y6, y7, y8, y9, y10⟩ := found_at hx 0 _ hz0
      simp only [Nat.zero_mul, Nat.zero_add] at y0 y1 y2 y3 y4 y5 y6 y7 y8 y9 y10
      have hb0 := HB.out _ (List.getElem_mem (show 0 < l.length by omega))
      have hgd : l.getD 0 zeroF = l[0] := by rw [List.getD_eq_getElem?_getD, hz0]; rfl
      have HNo := Lib.hid (fun h => HR.out.symm.trans (alikeB_no hz h))
      have HYes := Lib.hid (fun (h : likeB (l.getD 0 zeroF) l[q] q order = true) (j : Nat) (f : Found) (hj : j < q + 1) (hf : l[j]? = some f) => (show likeB (l.getD 0 zeroF) f j order = true from by
        by_cases e : j < q
        · exact HE.out j f e hf
        · obtain rfl : j = q := by omega
          rw [hz, Option.some.injEq] at hf
          subst hf
          exact h))
      rw [hgd] at HNo
      have HGD := Lib.hid hgd
      clear hgd hz hz0 hx HE
      generalize l[q] = z at *
      generalize hz0 : l[0] = z0 at *
      obtain ⟨F0, F1, F2, F3, F4, F5, F6, F7, F8, F9, F10⟩ := z
      obtain ⟨G0, G1, G2, G3, G4, G5, G6, G7, G8, G9, G10⟩ := z0
      clear hz0
      dsimp only at x0 x1 x2 x3 x4 x5 x6 x7 x8 x9 x10 y0 y1 y2 y3 y4 y5 y6 y7 y8 y9 y10 hb0
      by_cases k3 : F0 = 3
      case neg =>
        have HV := Lib.hid (HNo.out (by simp [likeB, k3]))
        have z3 : (F0 != 3) = true := by simpa using k3
        clear k3
        clear HNo HYes
        go_wp2_with fail
        go_quiet (fail)
        go_wp2_with fail
        go_ret
        exact ⟨(by repeat (first | exact Ext.refl _ | apply Ext.more | apply Ext.alloc | apply Ext.drew | apply Ext.drewN)), by rw [HV.out]; rfl⟩
      subst k3
      by_cases ko : F5 = order
      case neg =>
        have HV := Lib.hid (HNo.out (by simp [likeB, ko]))
        have zo : (F5 != order) = true := by simpa using ko
        clear ko
        clear HNo HYes
        go_wp2_with fail
        go_quiet (fail)
        go_wp2_with fail
        go_ret
        exact ⟨(by repeat (first | exact Ext.refl _ | apply Ext.more | apply Ext.alloc | apply Ext.drew | apply Ext.drewN)), by rw [HV.out]; rfl⟩
      subst ko
      by_cases kf : F4 = G4 + q
      case neg =>
        have HV := Lib.hid (HNo.out (by simp [likeB, kf]))
        have zf : (F4 != G4 + q) = true := by simpa using kf
        clear kf
        clear HNo HYes
        go_wp2_with fail
        go_quiet (fail)
        go_wp2_with fail
        go_ret
        exact ⟨(by repeat (first | exact Ext.refl _ | apply Ext.more | apply Ext.alloc | apply Ext.drew | apply Ext.drewN)), by rw [HV.out]; rfl⟩
      subst kf
      by_cases kw : F8 = G8
      case neg =>
        have HV := Lib.hid (HNo.out (by simp [likeB, kw]))
        have zw : (F8 != G8) = true := by simpa using kw
        have zw' : (F8 == G8) = false := by simpa using kw
        clear kw
        clear HNo HYes
        go_wp2_with fail
        go_quiet (fail)
        go_wp2_with fail
        go_ret
        exact ⟨(by repeat (first | exact Ext.refl _ | apply Ext.more | apply Ext.alloc | apply Ext.drew | apply Ext.drewN)), by rw [HV.out]; rfl⟩
      subst kw
      by_cases kx : F9 = G9
      case neg =>
        have HV := Lib.hid (HNo.out (by simp [likeB, kx]))
        have zx : (F9 != G9) = true := by simpa using kx
        have zx' : (F9 == G9) = false := by simpa using kx
        clear kx
        clear HNo HYes
        go_wp2_with fail
        go_quiet (fail)
        go_wp2_with fail
        go_ret
        exact ⟨(by repeat (first | exact Ext.refl _ | apply Ext.more | apply Ext.alloc | apply Ext.drew | apply Ext.drewN)), by rw [HV.out]; rfl⟩
      subst kx
      have HN := Lib.hid (HYes.out (by rw [HGD.out]; simp [likeB]))
      clear HNo HYes
      go_wp2_with fail
      go_quiet (fail)
      go_wp2_with fail
      go_roundw
      case rel => exact ⟨q + 1, by omega, by go_num, (by repeat (first | exact Ext.refl _ | apply Ext.more | apply Ext.alloc | apply Ext.drew | apply Ext.drewN)), HN⟩
      case measure => simp [intOf]; omega
    · obtain rfl : q = l.length := by omega
      have HV := Lib.hid (HR.out.symm.trans (alikeB_yes fun i f hf => HE.out i f (List.getElem?_eq_some_iff.1 hf).1 hf))
      clear HE
      go_wp2_with fail
      go_ret
      exact ⟨(by repeat (first | exact Ext.refl _ | apply Ext.more | apply Ext.alloc | apply Ext.drew | apply Ext.drewN)), by rw [HV.out]; rfl⟩

theorem walk_frames {ws : List Int} {n root first : Int} {l : List Found} {i : Nat} (h : runN ws n root first i = some l) (h0 : 0 ≤ first) (h1 : first + i ≤ 4096) : ∀ f ∈ l, 0 ≤ f.fFrame ∧ f.fFrame < 1000 := by
  intro f hf
  obtain ⟨j, hj, rfl⟩ := List.getElem_of_mem hf
  have hlen := runN_len i l h
  have := walkAt_small (by omega) (by omega) 4 0 root _ (runN_at i l h j _ (List.getElem?_eq_getElem hj))
  omega

/-- May four pages be folded, and are they? -/
def mayB (l : List Found) : Bool := alikeB l 0 && decide ((l.getD 0 zeroF).fFrame % 4 = 0)

end Go.Proofs.Ytapeoeakiphfpaa
