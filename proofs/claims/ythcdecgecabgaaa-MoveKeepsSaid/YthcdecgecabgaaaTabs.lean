import Derived.Test.YthcdecgecabgaaaBRefgCodeLawgNeed
import Derived.Test.YthcdecgecabgaaaBMorfBeds
/- The contracts of tree.Tables and of the document's answer paviorref12.Tables. -/
namespace Go.Proofs.Ythcdecgecabgaaa
open Go.RowKit
set_option linter.unusedVariables false
set_option linter.unusedSimpArgs false
attribute [local go_sem] setCell_drewN alloc_drewN lt_moreE le_moreE lt_moreK le_moreK cell_more frozen_more set_more drew_more drewN_more

/-- A table and all that its words lead to; none: one isn't there. -/
def tabsAt (ws : List Int) (n : Int) : Nat → Int → Int → Option (List Int)
  | 0, _, _ => none
  | k + 1, level, t => if 0 ≤ t ∧ t < n then
      (List.range 8).foldl (fun acc i => acc.bind fun l =>
        if (decD level (ws.getD (t.toNat * 8 + i) 0)).fKind = 1 then (tabsAt ws n k (level + 1) (decD level (ws.getD (t.toNat * 8 + i) 0)).fFrame).map (l ++ ·) else some l) (some [t])
    else none
def tabsStep (ws : List Int) (n : Int) (k : Nat) (level t : Int) (acc : Option (List Int)) (i : Nat) : Option (List Int) := acc.bind fun l =>
  if (decD level (ws.getD (t.toNat * 8 + i) 0)).fKind = 1 then (tabsAt ws n k (level + 1) (decD level (ws.getD (t.toNat * 8 + i) 0)).fFrame).map (l ++ ·) else some l
/-- The same from the i-th word on. -/
def tabsFrom (ws : List Int) (n : Int) (k : Nat) (level t : Int) (i : Nat) (l : List Int) : Option (List Int) := ((List.range 8).drop i).foldl (tabsStep ws n k level t) (some l)
section
variable {ws : List Int} {n : Int} {k : Nat} {level t : Int}
theorem tabsAt_in (h : 0 ≤ t ∧ t < n) : tabsAt ws n (k + 1) level t = tabsFrom ws n k level t 0 [t] := by
  conv => lhs; unfold tabsAt
  rw [if_pos h]; rfl
theorem tabsAt_out (h : ¬ (0 ≤ t ∧ t < n)) : tabsAt ws n (k + 1) level t = none := by unfold tabsAt; rw [if_neg h]
theorem tabsFrom_end (l : List Int) : tabsFrom ws n k level t 8 l = some l := by unfold tabsFrom; rw [List.drop_of_length_le (by simp)]; rfl
theorem tabs_none (l : List Nat) : l.foldl (tabsStep ws n k level t) none = none := by
  induction l with
  | nil => rfl
  | cons a t ih => exact ih
theorem tabsFrom_step (i : Nat) (hi : i < 8) (l : List Int) : tabsFrom ws n k level t i l = ((List.range 8).drop (i + 1)).foldl (tabsStep ws n k level t) (tabsStep ws n k level t (some l) i) := by
  unfold tabsFrom
  rw [List.drop_eq_getElem_cons (by simpa using hi), List.foldl_cons, List.getElem_range]
theorem tabsFrom_skip {i : Nat} (hi : i < 8) {l : List Int} {d : Desc} (hd : decD level (ws.getD (t.toNat * 8 + i) 0) = d) (h : d.fKind ≠ 1) : tabsFrom ws n k level t i l = tabsFrom ws n k level t (i + 1) l := by
  rw [tabsFrom_step i hi]
  simp only [tabsStep, Option.bind_some, hd, if_neg h]
  rfl
theorem tabsFrom_go {i : Nat} (hi : i < 8) {l m : List Int} {d : Desc} (hd : decD level (ws.getD (t.toNat * 8 + i) 0) = d) (h : d.fKind = 1) (hm : tabsAt ws n k (level + 1) d.fFrame = some m) : tabsFrom ws n k level t i l = tabsFrom ws n k level t (i + 1) (l ++ m) := by
  rw [tabsFrom_step i hi]
  simp only [tabsStep, Option.bind_some, hd, if_pos h, hm]
  rfl
theorem tabsFrom_no {i : Nat} (hi : i < 8) {l : List Int} {d : Desc} (hd : decD level (ws.getD (t.toNat * 8 + i) 0) = d) (h : d.fKind = 1) (hm : tabsAt ws n k (level + 1) d.fFrame = none) : tabsFrom ws n k level t i l = none := by
  rw [tabsFrom_step i hi]
  simp only [tabsStep, Option.bind_some, hd, if_pos h, hm]
  exact tabs_none _
end
theorem tabs_len {ws : List Int} {n : Int} : ∀ (k : Nat) (level t : Int) (r : List Int), tabsAt ws n k level t = some r → 1 ≤ r.length ∧ r.length ≤ 9 ^ k := by
  intro k
  induction k with
  | zero => intro level t r h; simp [tabsAt] at h
  | succ k ih =>
    intro level t r h
    by_cases ht : 0 ≤ t ∧ t < n
    · rw [tabsAt_in ht] at h
      have key : ∀ (j i : Nat), i + j = 8 → ∀ (l r : List Int), tabsFrom ws n k level t i l = some r → l.length ≤ r.length ∧ r.length ≤ l.length + j * 9 ^ k := by
        intro j
        induction j with
        | zero =>
          intro i hi l r hr
          obtain rfl : i = 8 := by omega
          rw [tabsFrom_end] at hr
          cases hr; simp
        | succ j ihj =>
          intro i hi l r hr
          by_cases hk : (decD level (ws.getD (t.toNat * 8 + i) 0)).fKind = 1
          · cases hm : tabsAt ws n k (level + 1) (decD level (ws.getD (t.toNat * 8 + i) 0)).fFrame with
            | none => rw [tabsFrom_no (by omega) rfl hk hm] at hr; cases hr
            | some m =>
              rw [tabsFrom_go (by omega) rfl hk hm] at hr
              have h1 := ihj (i + 1) (by omega) _ _ hr
              have h2 := ih _ _ _ hm
              rw [List.length_append] at h1
              rw [Nat.add_mul]
              omega
          · rw [tabsFrom_skip (by omega) rfl hk] at hr
            have h1 := ihj (i + 1) (by omega) _ _ hr
            rw [Nat.add_mul]
            omega
      have := key 8 0 rfl [t] r h
      have hp : 1 ≤ 9 ^ k := Nat.one_le_pow _ _ (by omega)
      rw [Nat.pow_succ]
      simp at this
      omega
    · rw [tabsAt_out ht] at h; cases h

def intC (x : Int) : List Value := [.int .i64 x]
/-- What the program's tables answers, and the document's. -/
def TabsRet (B : Nat) (w' : World) (yes no : Value) (r : Option (List Int)) (e : Ending) : Prop := match r with
  | some s => ∃ a cap, e = .returned (.tuple #[.slice a s.length cap, yes]) ∧ w'.ownsRow B 3 1 (.slice a s.length cap) s.length (s.map intC).flatten
  | none => e = .returned (.tuple #[.slice none 0 0, no])
theorem tabsRet_some {B B' n : Nat} {w' : World} {yes no : Value} {r : Option (List Int)} {s : List Int} {v : Value} {xs : List Value} (hr : r = some s) (h : w'.ownsRow B' 3 1 v n xs) (hb : B ≤ B') (hn : n = s.length) (hx : xs = (s.map intC).flatten) : TabsRet B w' yes no r (.returned (.tuple #[v, yes])) := by
  obtain ⟨a, cap, rfl⟩ := own_form h
  subst hn hx hr
  exact ⟨a, cap, rfl, own_low h hb⟩
theorem tabsRet_none {B : Nat} {w' : World} {yes no : Value} {r : Option (List Int)} (hr : r = none) : TabsRet B w' yes no r (.returned (.tuple #[.slice none 0 0, no])) := by subst hr; rfl

set_option maxRecDepth 100000 in
set_option maxHeartbeats 4000000 in
theorem ref12_Tables {h hc n : Nat} {gb gc : Nat → Nat} {ws : List Int} (hw : WOk ws) : ∀ (k : Nat) (w : World) (_ : RefAt w h hc n gb gc ws) (level t : Int) (_ : 0 ≤ level) (_ : level + k = 4) (_ : 1 ≤ k),
    Calls Try.prog 16 #[.slice (some ⟨h, 0, none⟩) n hc, .int .i64 t, .int .i64 level] w fun e w' => Ext w w' ∧ TabsRet w.heap.size w' (.bool true) (.bool false) (tabsAt ws n k level t) e := by
  have HW := Lib.hid hw
  clear hw
  intro k
  induction k with
  | zero => intro _ _ _ _ _ _ hk; omega
  | succ k ih =>
    intro w hm level t l0 hl _
    have HM := Lib.hid hm
    have HI := Lib.hid ih
    clear ih hm
    by_cases ht : 0 ≤ t ∧ t < n
    · have HT := Lib.hid (tabsAt_in (ws := ws) (k := k) (level := level) ht)
      obtain ⟨t0, t1⟩ := ht
      obtain ⟨T, rfl⟩ := Int.eq_ofNat_of_zero_le t0
      have hpk : 9 ^ k ≤ 729 := by
        have : (9 : Nat) ^ k ≤ 9 ^ 3 := Nat.pow_le_pow_right (by omega) (by omega)
        omega
      have hrb := HM.out
      have hlt := hrb.lth
      have hgl := hrb.ltg T (by omega)
      obtain ⟨hl1, hl2, hl3⟩ := lt_facts hlt
      obtain ⟨hg1, hg2, hg3⟩ := lt_facts hgl
      have y0 := hrb.hcell T (by omega)
      have hcc := hrb.cc T (by omega)
      have hn := hrb.nc
      have z0 : decide ((T : Int) < 0) = false := by simp
      have z1 : decide ((n : Int) ≤ (T : Int)) = false := by simp; omega
      have z2 : decide (n ≤ T) = false := by simp; omega
      clear hrb
      go_enter Try.func16, Try.ntmps16
      go_wp2_with fail
      go_loopw [8, 9] (fun o i wr => ∃ (q : Nat) (l : List Int), q ≤ 8 ∧ i = .int .i64 q ∧ l.length ≤ 1 + q * 729 ∧ Ext w wr ∧ Hid (tabsAt ws n (k + 1) level T = tabsFrom ws n k level T q l) ∧ Hid (wr.ownsRow w.heap.size 3 1 o l.length (l.map intC).flatten)) (fun _ i _ => 8 - (intOf i).toNat)
      case atStart => exact ⟨0, [T], by omega, rfl, by simp, (by repeat (first | exact Ext.refl _ | apply Ext.more | apply Ext.alloc | apply Ext.drew | apply Ext.drewN)), HT, own_lit w #[.int .i64 T] 3 1 1 rfl (by unfold maxLen; omega)⟩
      case round =>
        obtain ⟨q, l, hq, rfl, hll, ⟨x, rfl⟩, HE, HO⟩ := hrel
        by_cases hlt8 : q < 8
        · have hd0 := fun d => tabsFrom_skip (ws := ws) (n := (n : Int)) (k := k) (level := level) (t := T) (l := l) (d := d) hlt8
          have hd1 := fun d m => tabsFrom_go (ws := ws) (n := (n : Int)) (k := k) (level := level) (t := T) (l := l) (m := m) (d := d) hlt8
          have hd2 := fun d => tabsFrom_no (ws := ws) (n := (n : Int)) (k := k) (level := level) (t := T) (l := l) (d := d) hlt8
          simp only [Int.toNat_natCast] at hd0 hd1 hd2
          have y1 := HM.out.cell T q (by omega) hlt8
          have hX := HW.out.getD (T * 8 + q)
          generalize ws.getD (T * 8 + q) 0 = X at *
          obtain ⟨x0, x1⟩ := hX
          have KD := Lib.hid (fun w => ref02_Decode w level X x0 x1)
          have hdl : level = 3 → (decD level X).fKind ≠ 1 := by rintro rfl; exact decD_last X
          generalize decD level X = d at *
          have hd0 := hd0 d rfl
          have hd1 := fun m => hd1 d m rfl
          have hd2 := hd2 d rfl
          obtain ⟨kd, f, wr', ex, se, fo, so⟩ := d
          dsimp only at hd0 hd1 hd2 hdl
          by_cases h1 : kd = 1
          · subst h1
            have hl3 : level < 3 := by rcases Int.lt_or_le level 3 with h | h; exact h; exact absurd rfl (hdl (by omega))
            have HA := Lib.hid (fun w hm => HI.out w hm (level + 1) f (by omega) (by omega) (by omega))
            cases hres : tabsAt ws n k (level + 1) f with
            | none =>
              have HN := Lib.hid (HE.out.trans (hd2 rfl hres))
              rw [hres] at HA
              clear hres hd0 hd1 hd2 hdl HE HI
              go_wp2_with (first
                | (go_at_call 68; refine (KD.out _).mono ?_; rintro e w' ⟨⟨ex1, rfl⟩, rfl⟩)
                | (go_at_call 16; refine (HA.out _ (by repeat (first | exact HM.out | apply RefAt.more | apply RefAt.alloc | apply RefAt.drew | apply RefAt.drewN))).mono ?_; rintro e w' ⟨⟨ex2, rfl⟩, rfl⟩))
              go_ret2
              exact ⟨(by repeat (first | exact Ext.refl _ | apply Ext.more | apply Ext.alloc | apply Ext.drew | apply Ext.drewN)), tabsRet_none HN.out⟩
            | some m =>
              have HN := Lib.hid (HE.out.trans (hd1 m rfl hres))
              have hml := tabs_len _ _ _ _ hres
              rw [hres] at HA
              clear hres hd0 hd1 hd2 hdl HE HI
              go_wp2_with (first
                | (go_at_call 68; refine (KD.out _).mono ?_; rintro e w' ⟨⟨ex1, rfl⟩, rfl⟩)
                | (go_at_call 16; refine (HA.out _ (by repeat (first | exact HM.out | apply RefAt.more | apply RefAt.alloc | apply RefAt.drew | apply RefAt.drewN))).mono ?_; rintro e w' ⟨⟨ex2, rfl⟩, ⟨a2, cap2, rfl, HO2⟩⟩)
                | (at_builtin; refine wpList_append_row w el_int rfl _ _ rfl u8 l.length _ rfl (by repeat (first | exact HO.out | apply own_more | apply own_alloc | apply own_drew | apply own_drewN)) (by repeat (first | exact Ext.refl _ | apply Ext.more | apply Ext.alloc | apply Ext.drew | apply Ext.drewN)) _ _ m.length _ rfl HO2 (by omega) (all_flat intC _ (fun _ => rfl) m) (by omega) ?_; intro v' x' HO' keep; clear keep HO2))
              go_roundw
              case rel => exact ⟨q + 1, l ++ m, by omega, by go_num, by simp; omega, (by repeat (first | exact Ext.refl _ | apply Ext.more | apply Ext.alloc | apply Ext.drew | apply Ext.drewN)), HN, by show World.ownsRow _ _ _ _ _ _ _; simpa using HO'.out⟩
              case measure => simp [intOf]; omega
          · have HN := Lib.hid (HE.out.trans (hd0 h1))
            have k1 : (kd == 1) = false := by simpa using h1
            clear hd0 hd1 hd2 hdl HE HI h1
            go_wp2_with (go_at_call 68; refine (KD.out _).mono ?_; rintro e w' ⟨⟨ex1, rfl⟩, rfl⟩)
            go_roundw
            case rel => exact ⟨q + 1, l, by omega, by go_num, by omega, (by repeat (first | exact Ext.refl _ | apply Ext.more | apply Ext.alloc | apply Ext.drew | apply Ext.drewN)), HN, (by repeat (first | exact HO.out | apply own_more | apply own_alloc | apply own_drew | apply own_drewN))⟩
            case measure => simp [intOf]; omega
        · obtain rfl : q = 8 := by omega
          have HN := Lib.hid (HE.out.trans (tabsFrom_end l))
          clear HE HI
          go_wp2_with fail
          go_ret2
          exact ⟨(by repeat (first | exact Ext.refl _ | apply Ext.more | apply Ext.alloc | apply Ext.drew | apply Ext.drewN)), tabsRet_some HN.out HO.out (Nat.le_refl _) rfl rfl⟩
    · have HN := Lib.hid (tabsAt_out (ws := ws) (k := k) (level := level) ht)
      have ht' : t < 0 ∨ (n : Int) ≤ t := by omega
      clear ht HI
      rcases ht' with ht | ht
      all_goals
        go_enter Try.func16, Try.ntmps16
        go_wp2_with fail
        go_ret2
        exact ⟨(by repeat (first | exact Ext.refl _ | apply Ext.more | apply Ext.alloc | apply Ext.drew | apply Ext.drewN)), tabsRet_none HN.out⟩

end Go.Proofs.Ythcdecgecabgaaa
