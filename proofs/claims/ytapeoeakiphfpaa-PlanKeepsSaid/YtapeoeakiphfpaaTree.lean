import Derived.Test.YtapeoeakiphfpaaMore
import Derived.Test.YtapeoeakiphfpaaBPhytWalk
import Derived.StillTailTactics
/- The contracts of the Go package tree: has, at. -/
namespace Go.Proofs.Ytapeoeakiphfpaa
open Go.RowKit
set_option linter.unusedVariables false
set_option linter.unusedSimpArgs false
attribute [local go_sem] setCell_drewN alloc_drewN lt_moreE le_moreE lt_moreK le_moreK cell_more frozen_more set_more drew_more drewN_more

set_option maxHeartbeats 400000 in
theorem tree_has (w : World) {b g n c : Nat} {ws : List Int} (hm : MemAt w b g n c ws) (f : Int) :
    Calls Try.prog 78 #[.pointer (some ⟨b, 0, none⟩), .int .i64 f] w fun e w' => e = .returned (.bool (decide (0 ≤ f ∧ f < n))) ∧ w' = w := by
  have HF := Lib.hid (phys_Frames w hm)
  by_cases h : 0 ≤ f
  · go_enter Try.func78, Try.ntmps78
    go_wp2_with fail
    refine HF.out.mono ?_
    rintro e w1 ⟨rfl, rfl⟩
    go_wp2_with fail
    go_ret
    exact ⟨ret_bool (by simp [h]), rfl⟩
  · have h : f < 0 := by omega
    go_enter Try.func78, Try.ntmps78
    go_wp2_with fail
    go_ret
    exact ⟨ret_bool (by simp; omega), rfl⟩

theorem tree_has_yes (w : World) {b g n c : Nat} {ws : List Int} (hm : MemAt w b g n c ws) (f : Int) (h0 : 0 ≤ f) (h1 : f < n) :
    Calls Try.prog 78 #[.pointer (some ⟨b, 0, none⟩), .int .i64 f] w fun e w' => e = .returned (.bool true) ∧ w' = w :=
  (tree_has w hm f).mono fun _ _ ⟨he, hw⟩ => ⟨he.trans (ret_bool (by simp [h0, h1])), hw⟩
theorem tree_has_no (w : World) {b g n c : Nat} {ws : List Int} (hm : MemAt w b g n c ws) (f : Int) (h : ¬ (0 ≤ f ∧ f < n)) :
    Calls Try.prog 78 #[.pointer (some ⟨b, 0, none⟩), .int .i64 f] w fun e w' => e = .returned (.bool false) ∧ w' = w :=
  (tree_has w hm f).mono fun _ _ ⟨he, hw⟩ => ⟨he.trans (ret_bool (by simpa using h)), hw⟩

set_option maxHeartbeats 1000000 in
theorem tree_at (w : World) {b g n c : Nat} {ws : List Int} (hm : MemAt w b g n c ws) (hw : WOk ws) (table level page : Int) (h0 : 0 ≤ table) (h1 : table < n) (l0 : 0 ≤ level) (l1 : level < 4) (p0 : 0 ≤ page) (p1 : page < 4096) :
    Calls Try.prog 128 #[.pointer (some ⟨b, 0, none⟩), .int .i64 table, .int .i64 level, .int .i64 page] w fun e w' => Ext w w' ∧ e = .returned (.tuple #[.int .i64 (placeN level page), (decD level (ws.getD (table.toNat * 8 + (placeN level page).toNat) 0)).v, .nilIface]) := by
  have HM := Lib.hid hm
  have q0 := placeN_lo level page
  have q1 := placeN_hi level page
  generalize hpl : placeN level page = pl at *
  have HPL := Lib.hid hpl
  have hx := hw.getD (table.toNat * 8 + pl.toNat)
  generalize hX : ws.getD (table.toNat * 8 + pl.toNat) 0 = X at *
  obtain ⟨x0, x1⟩ := hx
  have HX := Lib.hid hX
  clear hw hm hpl hX
  go_enter Try.func128, Try.ntmps128
  go_wp2_with (first
   | (go_at_call 84; refine (extD (walk_Place _ level page l0 l1 p0 p1)).mono ?_; rintro e w' ⟨⟨ex1, rfl⟩, rfl⟩; rw [HPL.out])
   | (go_at_call 24; refine (phys_Load_is _ (by repeat (first | exact HM.out | apply MemAt.more | apply MemAt.alloc | apply MemAt.drew | apply MemAt.drewN)) table pl X h0 h1 q0 q1 HX.out).mono ?_; rintro e w' ⟨rfl, rfl⟩)
   | (go_at_call 90; refine (extC (pte_Decode _ level X l0 (by omega) x0 x1)).mono ?_; rintro e w' ⟨⟨ex2, rfl⟩, rfl⟩))
  go_region
  all_goals go_wp2
  (refine bodyPost_ret (results_tct rfl _ _ w.heap.size 107 _ (0, 0) _ rfl (by repeat (first | (with_reducible exact heap_alloc_new _ _) | (with_reducible apply box_more) | (with_reducible apply box_alloc) | (with_reducible apply box_drew) | (with_reducible apply box_drewN))) Try.underlying107 rfl (by kernel_rfl)) rfl ?_; exact ⟨(by repeat (first | exact Ext.refl _ | apply Ext.more | apply Ext.alloc | apply Ext.drew | apply Ext.drewN)), rfl⟩)

theorem tree_at_is (w : World) {b g n c : Nat} {ws : List Int} (hm : MemAt w b g n c ws) (hw : WOk ws) (table level page : Int) (h0 : 0 ≤ table) (h1 : table < n) (l0 : 0 ≤ level) (l1 : level < 4) (p0 : 0 ≤ page) (p1 : page < 4096)
    (pl : Int) (d : Desc) (hp : placeN level page = pl) (hd : decD level (ws.getD (table.toNat * 8 + pl.toNat) 0) = d) :
    Calls Try.prog 128 #[.pointer (some ⟨b, 0, none⟩), .int .i64 table, .int .i64 level, .int .i64 page] w fun e w' => Ext w w' ∧ e = .returned (.tuple #[.int .i64 pl, d.v, .nilIface]) := by
  subst hp hd
  exact tree_at w hm hw table level page h0 h1 l0 l1 p0 p1

/-- The slots on the way from a table of a level on, at most so many, and what the last one's word says; none: a table isn't there. -/
def wayAt (ws : List Int) (n page : Int) : Nat → Int → Int → Option (List (Int × Int) × Desc)
  | 0, _, _ => none
  | k + 1, l, tb =>
    if k = 0 ∨ (decD l (ws.getD (tb.toNat * 8 + (placeN l page).toNat) 0)).fKind ≠ 1 then some ([(tb, placeN l page)], decD l (ws.getD (tb.toNat * 8 + (placeN l page).toNat) 0))
    else if 0 ≤ (decD l (ws.getD (tb.toNat * 8 + (placeN l page).toNat) 0)).fFrame ∧ (decD l (ws.getD (tb.toNat * 8 + (placeN l page).toNat) 0)).fFrame < n then
      (wayAt ws n page k (l + 1) (decD l (ws.getD (tb.toNat * 8 + (placeN l page).toNat) 0)).fFrame).map fun r => ((tb, placeN l page) :: r.1, r.2)
    else none
theorem wayAt_in {ws : List Int} {n page : Int} {k : Nat} {l tb pl : Int} {d : Desc} (hp : placeN l page = pl) (_ : placeN l page = pl) (hd : decD l (ws.getD (tb.toNat * 8 + pl.toNat) 0) = d) :
    wayAt ws n page (k + 1) l tb = if k = 0 ∨ d.fKind ≠ 1 then some ([(tb, pl)], d) else if 0 ≤ d.fFrame ∧ d.fFrame < n then (wayAt ws n page k (l + 1) d.fFrame).map fun r => ((tb, pl) :: r.1, r.2) else none := by
  subst hp hd
  conv => lhs; unfold wayAt
def slotC (s : Int × Int) : List Value := [.int .i64 s.1, .int .i64 s.2]
theorem el_Slot : ElemAt Try.prog 149 61 (.agg #[.int .i64 0, .int .i64 0]) 2 16 := ⟨Try.underlying149, by kernel_rfl, rfl, by decide, by decide⟩
/-- What down answers, where all but the tables is there. -/
def DownRet (B : Nat) (w' : World) (r : Option (List (Int × Int) × Desc)) (e : Ending) : Prop := match r with
  | some (s, d) => ∃ a cap, e = .returned (.tuple #[.slice a s.length cap, d.v, .nilIface]) ∧ w'.ownsRow B 61 2 (.slice a s.length cap) s.length (s.map slotC).flatten
  | none => e = .returned (.tuple #[.slice none 0 0, noneD.v, errW 2])

theorem downRet_some {B B' n : Nat} {w' : World} {s : List (Int × Int)} {d : Desc} {v : Value} {xs : List Value} (h : w'.ownsRow B' 61 2 v n xs) (hb : B ≤ B') (hn : n = s.length) (hx : xs = (s.map slotC).flatten) : DownRet B w' (some (s, d)) (.returned (.tuple #[v, d.v, .nilIface])) := by
  obtain ⟨a, cap, rfl⟩ := own_form h
  subst hn hx
  exact ⟨a, cap, rfl, own_low h hb⟩

set_option maxHeartbeats 1000000 in
theorem tree_down_no (w : World) {b g n c : Nat} {ws : List Int} (hm : MemAt w b g n c ws) (root page level : Int) (h : ¬ (0 ≤ root ∧ root < n ∧ 0 ≤ page ∧ page < 4096 ∧ 1 ≤ level ∧ level < 4)) :
    Calls Try.prog 81 #[.pointer (some ⟨b, 0, none⟩), .int .i64 root, .int .i64 page, .int .i64 level] w fun e w' => Ext w w' ∧ e = .returned (.tuple #[.slice none 0 0, noneD.v, errW 1]) := by
  have HM := Lib.hid hm
  clear hm
  cases hd : decide (0 ≤ root ∧ root < n)
  · have HD := Lib.hid hd
    clear h
    go_enter Try.func81, Try.ntmps81
    go_wp2_with (go_at_call 78; refine (tree_has _ (by repeat (first | exact HM.out | apply MemAt.more | apply MemAt.alloc | apply MemAt.drew | apply MemAt.drewN)) root).mono ?_; rintro e w' ⟨rfl, rfl⟩; rw [HD.out])
    (refine bodyPost_ret (results_tct rfl _ _ w.heap.size 107 _ (0, 0) _ rfl (by repeat (first | (with_reducible exact heap_alloc_new _ _) | (with_reducible apply box_more) | (with_reducible apply box_alloc) | (with_reducible apply box_drew) | (with_reducible apply box_drewN))) Try.underlying107 rfl (by kernel_rfl)) rfl ?_; exact ⟨(by repeat (first | exact Ext.refl _ | apply Ext.more | apply Ext.alloc | apply Ext.drew | apply Ext.drewN)), rfl⟩)
  · have HD := Lib.hid hd
    have h2 : page < 0 ∨ 4096 ≤ page ∨ level < 1 ∨ 4 ≤ level := by simp at hd; omega
    clear h hd
    go_enter Try.func81, Try.ntmps81
    go_wp2_with (go_at_call 78; refine (tree_has _ (by repeat (first | exact HM.out | apply MemAt.more | apply MemAt.alloc | apply MemAt.drew | apply MemAt.drewN)) root).mono ?_; rintro e w' ⟨rfl, rfl⟩; rw [HD.out])
    all_goals (refine bodyPost_ret (results_tct rfl _ _ w.heap.size 107 _ (0, 0) _ rfl (by repeat (first | (with_reducible exact heap_alloc_new _ _) | (with_reducible apply box_more) | (with_reducible apply box_alloc) | (with_reducible apply box_drew) | (with_reducible apply box_drewN))) Try.underlying107 rfl (by kernel_rfl)) rfl ?_; exact ⟨(by repeat (first | exact Ext.refl _ | apply Ext.more | apply Ext.alloc | apply Ext.drew | apply Ext.drewN)), rfl⟩)

set_option maxRecDepth 100000 in
set_option maxHeartbeats 2000000 in
theorem tree_down (w : World) {b g n c : Nat} {ws : List Int} (hm : MemAt w b g n c ws) (hw : WOk ws) (root page : Int) (L : Nat) (h0 : 0 ≤ root) (h1 : root < n) (p0 : 0 ≤ page) (p1 : page < 4096) (l0 : 1 ≤ L) (l1 : L < 4) :
    Calls Try.prog 81 #[.pointer (some ⟨b, 0, none⟩), .int .i64 root, .int .i64 page, .int .i64 L] w fun e w' => Ext w w' ∧ DownRet w.heap.size w' (wayAt ws n page (L + 1) 0 root) e := by
  have HM := Lib.hid hm
  have HW := Lib.hid hw
  clear hm hw
  go_enter Try.func81, Try.ntmps81
  go_wp2_with (go_at_call 78; refine (tree_has_yes _ (by repeat (first | exact HM.out | apply MemAt.more | apply MemAt.alloc | apply MemAt.drew | apply MemAt.drewN)) root h0 h1).mono ?_; rintro e w' ⟨rfl, rfl⟩)
  go_loopw [11, 12, 13] (fun o t l wr => ∃ (lv : Nat) (tb : Int) (acc : List (Int × Int)), l = .int .i64 lv ∧ t = .int .i64 tb ∧ lv ≤ L ∧ acc.length = lv ∧ 0 ≤ tb ∧ tb < n ∧ Ext (w.alloc (.cells #[.int .i64 0, .int .i64 0, .bool false, .bool false, .bool false, .bool false, .int .i64 0] 107)) wr ∧
      Hid (wayAt ws n page (L + 1) 0 root = (wayAt ws n page (L + 1 - lv) lv tb).map fun r => (acc ++ r.1, r.2)) ∧ Hid (wr.ownsRow (w.alloc (.cells #[.int .i64 0, .int .i64 0, .bool false, .bool false, .bool false, .bool false, .int .i64 0] 107)).heap.size 61 2 o acc.length (acc.map slotC).flatten)) (fun _ _ l _ => 5 - (intOf l).toNat)
  case atStart => exact ⟨0, root, [], rfl, rfl, by omega, rfl, h0, h1, Ext.refl _, by show _ = _; cases wayAt ws n page (L + 1) 0 root <;> simp, World.ownsRow_nil _ _ _ _⟩
  case round =>
    obtain ⟨lv, tb, acc, rfl, rfl, hlv, hal, t0, t1, ⟨x, rfl⟩, HE, HO⟩ := hrel
    obtain ⟨pl, hp⟩ : ∃ pl, placeN lv page = pl := ⟨_, rfl⟩
    obtain ⟨d, hd⟩ : ∃ d, decD lv (ws.getD (tb.toNat * 8 + pl.toNat) 0) = d := ⟨_, rfl⟩
    have hst : wayAt ws n page (L + 1 - lv) lv tb = if L - lv = 0 ∨ d.fKind ≠ 1 then some ([(tb, pl)], d) else if 0 ≤ d.fFrame ∧ d.fFrame < n then (wayAt ws n page (L - lv) (lv + 1) d.fFrame).map fun r => ((tb, pl) :: r.1, r.2) else none := by
      rw [show L + 1 - lv = (L - lv) + 1 by omega]
      conv => lhs; unfold wayAt
      rw [hp, hd]
    have HP := Lib.hid hp
    have HD := Lib.hid hd
    have HS := Lib.hid hst
    clear hp hd hst
    obtain ⟨k, f, wr', ex, se, fo, so⟩ := d
    have hcase : (lv : Int) = L ∨ (lv : Int) ≠ L ∧ k ≠ 1 ∨ (lv : Int) ≠ L ∧ k = 1 ∧ ¬ (0 ≤ f ∧ f < n) ∨ (lv : Int) ≠ L ∧ k = 1 ∧ (0 ≤ f ∧ f < n) := by omega
    have hk1 : k ≠ 1 → (k != 1) = true := by intro h; simpa using h
    have hn1 : (lv : Int) ≠ L → ((lv : Int) == L) = false := by intro h; simpa using h
    have hn2 : (lv : Int) ≠ L → (lv == L) = false := by intro h; simp; omega
    rcases hcase with h | ⟨h, h2⟩ | ⟨h, rfl, h2⟩ | ⟨h, rfl, h2, h3⟩
    · obtain rfl : L = lv := by omega
      have hv : wayAt ws n page (L + 1) 0 root = some (acc ++ [(tb, pl)], ⟨k, f, wr', ex, se, fo, so⟩) := by rw [HE.out, HS.out]; simp
      have HV := Lib.hid hv
      clear hv HE HS h hk1 hn1 hn2
      go_wp2_with (first
        | (go_at_call 128; refine (tree_at_is _ (by repeat (first | exact HM.out | apply MemAt.more | apply MemAt.alloc | apply MemAt.drew | apply MemAt.drewN)) HW.out tb L page t0 t1 (by omega) (by omega) p0 p1 pl ⟨k, f, wr', ex, se, fo, so⟩ HP.out HD.out).mono ?_; rintro e w' ⟨⟨ex1, rfl⟩, rfl⟩)
        | ((at_builtin; refine wpList_append_new (w.alloc (.cells #[.int .i64 0, .int .i64 0, .bool false, .bool false, .bool false, .bool false, .int .i64 0] 107)) el_Slot rfl _ _ rfl u11 acc.length _ rfl (by repeat (first | exact HO.out | apply own_more | apply own_alloc | apply own_drew | apply own_drewN)) (by repeat (first | exact Ext.refl _ | apply Ext.more | apply Ext.alloc | apply Ext.drew | apply Ext.drewN)) _ _ 1 _ rfl (by simp) rfl rfl (by omega) ?_); intro v' x' HO' keep; have hD := (keep _ _ (by repeat (first | (with_reducible exact heap_alloc_new _ _) | (with_reducible apply box_more) | (with_reducible apply box_alloc) | (with_reducible apply box_drew) | (with_reducible apply box_drewN))) (by intro e_; have h_ := (World.ownsRow.lt HO.out _ e_).2; simp only [size_more, World.size_alloc, World.size_drew] at h_; omega)); clear keep; obtain ⟨c0, c1, c2, c3, c4, c5, c6, cf⟩ := cells7 hD))
      go_region
      all_goals go_wp2
      refine bodyPost_ret (results_tct rfl _ _ w.heap.size 107 _ (0, 0) _ rfl (by repeat (first | (with_reducible exact heap_alloc_new _ _) | (with_reducible apply box_more) | (with_reducible apply box_alloc) | (with_reducible apply box_drew) | (with_reducible apply box_drewN))) Try.underlying107 rfl (by kernel_rfl)) rfl ?_
      refine ⟨(by repeat (first | exact Ext.refl _ | apply Ext.more | apply Ext.alloc | apply Ext.drew | apply Ext.drewN)), ?_⟩
      rw [HV.out]
      exact downRet_some (own_drew (own_re HO'.out (by simp))) (by simp) (by simp) (by simp [slotC])
    · have hv : wayAt ws n page (L + 1) 0 root = some (acc ++ [(tb, pl)], ⟨k, f, wr', ex, se, fo, so⟩) := by rw [HE.out, HS.out, if_pos (.inr h2)]; simp
      have HV := Lib.hid hv
      have q1 := hk1 h2
      have q2 := hn1 h
      have q3 := hn2 h
      clear hv HE HS h hk1 hn1 hn2 h2
      go_wp2_with (first
        | (go_at_call 128; refine (tree_at_is _ (by repeat (first | exact HM.out | apply MemAt.more | apply MemAt.alloc | apply MemAt.drew | apply MemAt.drewN)) HW.out tb lv page t0 t1 (by omega) (by omega) p0 p1 pl ⟨k, f, wr', ex, se, fo, so⟩ HP.out HD.out).mono ?_; rintro e w' ⟨⟨ex1, rfl⟩, rfl⟩)
        | ((at_builtin; refine wpList_append_new (w.alloc (.cells #[.int .i64 0, .int .i64 0, .bool false, .bool false, .bool false, .bool false, .int .i64 0] 107)) el_Slot rfl _ _ rfl u11 acc.length _ rfl (by repeat (first | exact HO.out | apply own_more | apply own_alloc | apply own_drew | apply own_drewN)) (by repeat (first | exact Ext.refl _ | apply Ext.more | apply Ext.alloc | apply Ext.drew | apply Ext.drewN)) _ _ 1 _ rfl (by simp) rfl rfl (by omega) ?_); intro v' x' HO' keep; have hD := (keep _ _ (by repeat (first | (with_reducible exact heap_alloc_new _ _) | (with_reducible apply box_more) | (with_reducible apply box_alloc) | (with_reducible apply box_drew) | (with_reducible apply box_drewN))) (by intro e_; have h_ := (World.ownsRow.lt HO.out _ e_).2; simp only [size_more, World.size_alloc, World.size_drew] at h_; omega)); clear keep; obtain ⟨c0, c1, c2, c3, c4, c5, c6, cf⟩ := cells7 hD))
      go_region
      all_goals go_wp2
      refine bodyPost_ret (results_tct rfl _ _ w.heap.size 107 _ (0, 0) _ rfl (by repeat (first | (with_reducible exact heap_alloc_new _ _) | (with_reducible apply box_more) | (with_reducible apply box_alloc) | (with_reducible apply box_drew) | (with_reducible apply box_drewN))) Try.underlying107 rfl (by kernel_rfl)) rfl ?_
      refine ⟨(by repeat (first | exact Ext.refl _ | apply Ext.more | apply Ext.alloc | apply Ext.drew | apply Ext.drewN)), ?_⟩
      rw [HV.out]
      exact downRet_some (own_drew (own_re HO'.out (by simp))) (by simp) (by simp) (by simp [slotC])
    · have hv : wayAt ws n page (L + 1) 0 root = none := by
        rw [HE.out, HS.out, if_neg (by simp; omega), if_neg h2]; rfl
      have HV := Lib.hid hv
      have HN := Lib.hid h2
      have q2 := hn1 h
      have q3 := hn2 h
      clear hv HE HS h hk1 hn1 hn2 h2
      go_wp2_with (first
        | (go_at_call 128; refine (tree_at_is _ (by repeat (first | exact HM.out | apply MemAt.more | apply MemAt.alloc | apply MemAt.drew | apply MemAt.drewN)) HW.out tb lv page t0 t1 (by omega) (by omega) p0 p1 pl ⟨1, f, wr', ex, se, fo, so⟩ HP.out HD.out).mono ?_; rintro e w' ⟨⟨ex1, rfl⟩, rfl⟩)
        | ((at_builtin; refine wpList_append_new (w.alloc (.cells #[.int .i64 0, .int .i64 0, .bool false, .bool false, .bool false, .bool false, .int .i64 0] 107)) el_Slot rfl _ _ rfl u11 acc.length _ rfl (by repeat (first | exact HO.out | apply own_more | apply own_alloc | apply own_drew | apply own_drewN)) (by repeat (first | exact Ext.refl _ | apply Ext.more | apply Ext.alloc | apply Ext.drew | apply Ext.drewN)) _ _ 1 _ rfl (by simp) rfl rfl (by omega) ?_); intro v' x' HO' keep; have hD := (keep _ _ (by repeat (first | (with_reducible exact heap_alloc_new _ _) | (with_reducible apply box_more) | (with_reducible apply box_alloc) | (with_reducible apply box_drew) | (with_reducible apply box_drewN))) (by intro e_; have h_ := (World.ownsRow.lt HO.out _ e_).2; simp only [size_more, World.size_alloc, World.size_drew] at h_; omega)); clear keep; obtain ⟨c0, c1, c2, c3, c4, c5, c6, cf⟩ := cells7 hD)
        | (go_at_call 78; refine (tree_has_no _ (by repeat (first | exact HM.out | apply MemAt.more | apply MemAt.alloc | apply MemAt.drew | apply MemAt.drewN)) f HN.out).mono ?_; rintro e w' ⟨rfl, rfl⟩))
      refine bodyPost_ret (results_tct rfl _ _ w.heap.size 107 _ (0, 0) _ rfl (by repeat (first | (with_reducible exact heap_alloc_new _ _) | (with_reducible apply box_more) | (with_reducible apply box_alloc) | (with_reducible apply box_drew) | (with_reducible apply box_drewN))) Try.underlying107 rfl (by kernel_rfl)) rfl ?_
      refine ⟨(by repeat (first | exact Ext.refl _ | apply Ext.more | apply Ext.alloc | apply Ext.drew | apply Ext.drewN)), ?_⟩
      rw [HV.out]
      rfl
    · have hv : Hid (wayAt ws n page (L + 1) 0 root = (wayAt ws n page (L + 1 - (lv + 1)) ((lv + 1 : Nat) : Int) f).map fun r => ((acc ++ [(tb, pl)]) ++ r.1, r.2)) := by
        show _ = _
        rw [HE.out, HS.out, if_neg (by simp; omega), if_pos ⟨h2, h3⟩, show L + 1 - (lv + 1) = L - lv by omega]
        rw [show ((lv + 1 : Nat) : Int) = (lv : Int) + 1 by simp]
        cases wayAt ws n page (L - lv) ((lv : Int) + 1) f with
        | none => rfl
        | some r => simp
      have hlt : lv + 1 ≤ L := by omega
      have q2 := hn1 h
      have q3 := hn2 h
      clear HE HS h hk1 hn1 hn2
      go_wp2_with (first
        | (go_at_call 128; refine (tree_at_is _ (by repeat (first | exact HM.out | apply MemAt.more | apply MemAt.alloc | apply MemAt.drew | apply MemAt.drewN)) HW.out tb lv page t0 t1 (by omega) (by omega) p0 p1 pl ⟨1, f, wr', ex, se, fo, so⟩ HP.out HD.out).mono ?_; rintro e w' ⟨⟨ex1, rfl⟩, rfl⟩)
        | ((at_builtin; refine wpList_append_new (w.alloc (.cells #[.int .i64 0, .int .i64 0, .bool false, .bool false, .bool false, .bool false, .int .i64 0] 107)) el_Slot rfl _ _ rfl u11 acc.length _ rfl (by repeat (first | exact HO.out | apply own_more | apply own_alloc | apply own_drew | apply own_drewN)) (by repeat (first | exact Ext.refl _ | apply Ext.more | apply Ext.alloc | apply Ext.drew | apply Ext.drewN)) _ _ 1 _ rfl (by simp) rfl rfl (by omega) ?_); intro v' x' HO' keep; have hD := (keep _ _ (by repeat (first | (with_reducible exact heap_alloc_new _ _) | (with_reducible apply box_more) | (with_reducible apply box_alloc) | (with_reducible apply box_drew) | (with_reducible apply box_drewN))) (by intro e_; have h_ := (World.ownsRow.lt HO.out _ e_).2; simp only [size_more, World.size_alloc, World.size_drew] at h_; omega)); clear keep; obtain ⟨c0, c1, c2, c3, c4, c5, c6, cf⟩ := cells7 hD)
        | (go_at_call 78; refine (tree_has_yes _ (by repeat (first | exact HM.out | apply MemAt.more | apply MemAt.alloc | apply MemAt.drew | apply MemAt.drewN)) f h2 h3).mono ?_; rintro e w' ⟨rfl, rfl⟩))
      go_roundw
      case rel => exact ⟨lv + 1, f, acc ++ [(tb, pl)], by go_num, rfl, hlt, by simp; omega, h2, h3, (by repeat (first | exact Ext.refl _ | apply Ext.more | apply Ext.alloc | apply Ext.drew | apply Ext.drewN)), hv, by show World.ownsRow _ _ _ _ _ _ _; simpa [slotC] using HO'.out⟩
      case measure => simp [intOf]; omega

end Go.Proofs.Ytapeoeakiphfpaa
