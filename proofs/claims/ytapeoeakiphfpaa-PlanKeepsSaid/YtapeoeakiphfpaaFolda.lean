import Derived.Test.YtapeoeakiphfpaaBFoldrFolds
/- The contracts of fold.anew, fold.steps, fold.Fold, fold.Unfold. -/
namespace Go.Proofs.Ytapeoeakiphfpaa
open Go.RowKit
set_option linter.unusedVariables false
set_option linter.unusedSimpArgs false
attribute [local go_sem] setCell_drewN alloc_drewN lt_moreE le_moreE lt_moreK le_moreK cell_more frozen_more set_more drew_more drewN_more

theorem and_self3 (a : Int) : Ending.returned (.int .i64 a) = Ending.returned (.int .i64 a) := rfl

set_option maxRecDepth 100000 in
set_option maxHeartbeats 4000000 in
theorem fold_anew (w : World) {b g n c : Nat} {ws : List Int} (hm : MemAt w b g n c ws) (hw : WOk ws) (root asid page : Int) (fold : Bool) (h0 : 0 ≤ root) (h1 : root < n) (p0 : 0 ≤ page) (p1 : page < 4096) (s : List Found) (hr : runN ws n root (page - page % 4) 4 = some s) (hk : ∀ f ∈ s, f.fKind = 3) :
    Calls Try.prog 138 #[.pointer (some ⟨b, 0, none⟩), .int .i64 root, .int .i64 asid, .int .i64 page, .bool fold] w fun e w' => Ext w w' ∧ StepsRet w.heap.size w' (.yes (anewL ws s asid (page - page % 4) fold)) e := by
  have HF := Lib.hid (fun w hm => fold_run w (b := b) (g := g) (n := n) (c := c) (ws := ws) hm hw root page h0 h1 p0 p1 (some s) hr)
  have HG := Lib.hid (fun f hf => run_good hr f hf (hk f hf))
  have hlen := runN_len _ _ hr
  have hl1 : 4 ≤ s.length := by omega
  have hl2 : s.length ≤ 4 := by omega
  have HW := Lib.hid hw
  have hand := (and3 page p0 p1).2
  obtain ⟨fp, hfp⟩ : ∃ fp, page - page % 4 = fp := ⟨_, rfl⟩
  rw [hfp] at hand ⊢
  have hf0 : 0 ≤ fp := by omega
  have hf1 : fp + 3 < 4096 := by omega
  have HM0 := Lib.hid hm
  clear hm hw hr hk hlen hfp
  go_enter Try.func138, Try.ntmps138
  go_wp2_with fail
  refine (HF.out _ (by repeat (first | exact HM0.out | apply MemAt.more | apply MemAt.alloc | apply MemAt.drew | apply MemAt.drewN))).mono ?_
  rintro e w1 ⟨hE1, a, cap, rfl, HO⟩
  have HM := Lib.hid (HM0.out.kept0 hE1.grow)
  have HE1 := Lib.hid hE1
  have hc := own_cap HO
  have hm' : cap ≤ 9223372036854775807 := by have := hc.2.2; unfold maxLen at this; exact this
  have hs1 := hc.2.1
  obtain ⟨gr, rfl, _, hgr, _, hx, _⟩ := own_at HO (by omega)
  have HX := Lib.hid hx
  clear hE1 hc HO hx HM0 HF
  go_wp2_with fail
  go_loopw [15, 16, 17, 38] (fun o15 o16 o17 i wr => ∃ q : Nat, q ≤ s.length ∧ i = .int .i64 q ∧ Ext w1 wr ∧ Hid (Beds wr w1.heap.size 73 10 [(o15, q, CS (goneL (s.take q) asid fp)), (o16, q, CS (toldL (s.take q) asid fp)), (o17, q, CS (backL ws (s.take q) asid fp fold))])) (fun _ _ _ i _ => s.length - (intOf i).toNat)
  case atStart => exact ⟨0, by omega, rfl, Ext.refl _, beds_nil3 _ _ _ _⟩
  case round =>
    obtain ⟨q, hq, rfl, ⟨x, rfl⟩, HB⟩ := hrel
    by_cases hlt : q < s.length
    · have hz : s[q]? = some s[q] := List.getElem?_eq_getElem hlt
      obtain ⟨x0, x1, x2, x3, x4, x5, x6, x7, x8, x9, x10⟩ := found_at HX.out q _ hz
      obtain ⟨q1, q2, q3, q4, q5, q6, q7⟩ := HG.out _ (List.getElem_mem hlt)
      have htk := take_snoc hz
      have htl : (s.take q).length = q := by rw [List.length_take]; omega
      have e1 : CS (goneL (s.take (q + 1)) asid fp) = CS (goneL (s.take q) asid fp) ++ (wrS asid s[q] (fp + q) 0).cells := by rw [htk, goneL_snoc, CS_snoc, htl]
      have e2 : CS (toldL (s.take (q + 1)) asid fp) = CS (toldL (s.take q) asid fp) ++ (tellS asid (fp + q)).cells := by rw [htk, toldL_snoc, CS_snoc, htl]
      have e3 : CS (backL ws (s.take (q + 1)) asid fp fold) = CS (backL ws (s.take q) asid fp fold) ++ (wrS asid s[q] (fp + q) (foldW ws fold s[q])).cells := by rw [htk, backL_snoc, CS_snoc, htl]
      have E := Lib.hid (And.intro e1 (And.intro e2 e3))
      have hfw := foldW
      generalize s[q] = z at *
      obtain ⟨F0, F1, F2, F3, F4, F5, F6, F7, F8, F9, F10⟩ := z
      dsimp only at x0 x1 x2 x3 x4 x5 x6 x7 x8 x9 x10 q1 q2 q3 q4 q5 q6 q7
      subst q5
      obtain ⟨T, rfl⟩ := Int.eq_ofNat_of_zero_le q1
      obtain ⟨Pl, rfl⟩ := Int.eq_ofNat_of_zero_le q3
      have HL := Lib.hid (fun w (hm : MemAt w b g n c ws) => extS (phys_Load_is w hm (T : Int) (Pl : Int) _ q1 q2 q3 q4 rfl))
      generalize hX : ws.getD ((T : Int).toNat * 8 + (Pl : Int).toNat) 0 = X at *
      have hXb := HW.out.getD ((T : Int).toNat * 8 + (Pl : Int).toNat)
      rw [hX] at hXb
      obtain ⟨X0, X1⟩ := hXb
      have HD := Lib.hid (fun w => extC (pte_Decode w 3 X (by omega) (by omega) X0 X1))
      have HN := Lib.hid (fun w => extC (pte_Encode_yes w 3 _ (okD_fold q6 q7 fold)))
      have HV := Lib.hid (show foldW ws fold ⟨F0, 3, T, Pl, F4, F5, F6, F7, F8, F9, F10⟩ = encW { decD 3 X with fFold := fold } from by unfold foldW; dsimp only; rw [hX])
      rw [HV.out] at E
      generalize hEW : encW { decD 3 X with fFold := fold } = EW at *
      generalize hdd : decD 3 X = d at *
      obtain ⟨d0, d1, d2, d3, d4, d5, d6⟩ := d
      clear hX hdd hEW hz htk htl e1 e2 e3 HV q6 q7 hfw
      dsimp only at HD HN
      go_wp2_with fail
      refine (HL.out _ (by repeat (first | exact HM.out | apply MemAt.more | apply MemAt.alloc | apply MemAt.drew | apply MemAt.drewN))).mono ?_
      rintro e w' ⟨⟨ex1, rfl⟩, rfl⟩
      go_wp2_with fail
      refine (HD.out _).mono ?_
      rintro e w' ⟨⟨ex2, rfl⟩, rfl⟩
      go_wp2_with fail
      refine (HN.out _).mono ?_
      rintro e w' ⟨⟨ex3, rfl⟩, rfl⟩
      have H15 := Lib.hid (show (more w1 x).ownsRow w1.heap.size 73 10 u15 q (CS (goneL (s.take q) asid fp)) from HB.out.own 0 _ rfl)
      have H16 := Lib.hid (show (more w1 x).ownsRow w1.heap.size 73 10 u16 q (CS (toldL (s.take q) asid fp)) from HB.out.own 1 _ rfl)
      have H17 := Lib.hid (show (more w1 x).ownsRow w1.heap.size 73 10 u17 q (CS (backL ws (s.take q) asid fp fold)) from HB.out.own 2 _ rfl)
      go_wp2_with ((at_builtin; refine wpList_append_newB w1 el_Step rfl _ _ rfl u15 q _ rfl (by repeat (first | exact H15.out | apply own_more | apply own_alloc | apply own_drew | apply own_drewN)) (by repeat (first | exact Ext.refl _ | apply Ext.more | apply Ext.alloc | apply Ext.drew | apply Ext.drewN)) _ _ 1 _ rfl (by simp) rfl rfl (by omega) ?_); intro v1 x1' HO1 keep blk; refine of_hold ?_)
      have HB1 := Lib.hid (Beds.put (h := Beds.swap (Beds.new (l := [(u15, q, CS (goneL (s.take q) asid fp)), (u16, q, CS (toldL (s.take q) asid fp)), (u17, q, CS (backL ws (s.take q) asid fp fold))]) (by repeat (first | exact HB.out | apply Beds.more | apply Beds.alloc | apply Beds.drew | apply Beds.drewN)) (Ext.size (by repeat (first | exact Ext.refl _ | apply Ext.more | apply Ext.alloc | apply Ext.drew | apply Ext.drewN))) _ 1 (by decide) rfl)) HO1.out keep blk)
      have HB1' := HB1.out.swap.box
      obtain ⟨a0, a1, a2, a3, a4, a5, a6, a7, a8, a9, af, ak⟩ := cells10 HB1'.1
      have H16' := Lib.hid (show (more w1 x1').ownsRow w1.heap.size 73 10 u16 q (CS (toldL (s.take q) asid fp)) from HB1.out.own 2 _ rfl)
      clear HB1' HO1 keep blk
      unfold Hold
      go_wp2_with ((at_builtin; refine wpList_append_newB w1 el_Step rfl _ _ rfl u16 q _ rfl (by repeat (first | exact H16'.out | apply own_more | apply own_alloc | apply own_drew | apply own_drewN)) (by repeat (first | exact Ext.refl _ | apply Ext.more | apply Ext.alloc | apply Ext.drew | apply Ext.drewN)) _ _ 1 _ rfl (by simp) rfl rfl (by omega) ?_); intro v2 x2' HO2 keep blk; refine of_hold ?_)
      have HB2 := Lib.hid (Beds.put (h := (by repeat (first | exact HB1.out.third | apply Beds.more | apply Beds.alloc | apply Beds.drew | apply Beds.drewN))) HO2.out keep blk)
      have HB2' := HB2.out.third.box
      obtain ⟨b0, b1, b2, b3, b4, b5, b6, b7, b8, b9, bf, bk⟩ := cells10 HB2'.1
      have hkk := HB2'.2
      clear HB2' HO2 keep blk a0 a1 a2 a3 a4 a5 a6 a7 a8 a9 af ak HB1 H16'
      unfold Hold
      go_wp2_with (refine wp_settle w1 (by repeat (first | exact Ext.refl _ | apply Ext.more | apply Ext.alloc | apply Ext.drew | apply Ext.drewN)) hkk ?_; intro x3' hx3; refine of_hold ?_)
      have HB3 := Lib.hid (hx3 ▸ (HB2.out.third.set 6 (.int .u64 EW) (by simp)))
      have HB3' := HB3.out.box
      obtain ⟨a0, a1, a2, a3, a4, a5, a6, a7, a8, a9, af, ak⟩ := cells10 HB3'.1
      have H17' := Lib.hid (show (more w1 x3').ownsRow w1.heap.size 73 10 u17 q (CS (backL ws (s.take q) asid fp fold)) from HB3.out.own 3 _ rfl)
      clear HB3' hx3 b0 b1 b2 b3 b4 b5 b6 b7 b8 b9 bf bk HB2
      unfold Hold
      go_wp2_with ((at_builtin; refine wpList_append_newB w1 el_Step rfl _ _ rfl u17 q _ rfl (by repeat (first | exact H17'.out | apply own_more | apply own_alloc | apply own_drew | apply own_drewN)) (by repeat (first | exact Ext.refl _ | apply Ext.more | apply Ext.alloc | apply Ext.drew | apply Ext.drewN)) _ _ 1 _ rfl (by simp) rfl rfl (by omega) ?_); intro v3 x4' HO3 keep blk; refine of_hold ?_)
      have HB4 := Lib.hid (Beds.put (h := (by repeat (first | exact HB3.out.fourth | apply Beds.more | apply Beds.alloc | apply Beds.drew | apply Beds.drewN))) HO3.out keep blk)
      have HB5 := Lib.hid HB4.out.swap.tail.rev3
      clear HO3 keep blk a0 a1 a2 a3 a4 a5 a6 a7 a8 a9 af ak HB3 H17' HB4
      unfold Hold
      go_wp2_with fail
      go_roundw
      case rel => exact ⟨q + 1, by omega, by go_num, (by repeat (first | exact Ext.refl _ | apply Ext.more | apply Ext.alloc | apply Ext.drew | apply Ext.drewN)), by
        show Beds _ _ _ _ _
        rw [E.out.1, E.out.2.1, E.out.2.2]
        exact HB5.out⟩
      case measure => simp [intOf]; omega
    · obtain rfl : q = s.length := by omega
      rw [List.take_length] at HB
      have H15 := Lib.hid (show (more w1 x).ownsRow w1.heap.size 73 10 u15 s.length (CS (goneL s asid fp)) from HB.out.own 0 _ rfl)
      have H16 := Lib.hid (show (more w1 x).ownsRow w1.heap.size 73 10 u16 s.length (CS (toldL s asid fp)) from HB.out.own 1 _ rfl)
      go_wp2_with (at_builtin; refine wpList_append_rowB w1 el_Step rfl _ _ rfl u15 s.length _ rfl (by repeat (first | exact H15.out | apply own_more | apply own_alloc | apply own_drew | apply own_drewN)) (by repeat (first | exact Ext.refl _ | apply Ext.more | apply Ext.alloc | apply Ext.drew | apply Ext.drewN)) w1.heap.size u16 s.length _ rfl (by repeat (first | exact H16.out | apply own_more | apply own_alloc | apply own_drew | apply own_drewN)) (by omega) (CS_one _) (by omega) ?_; intro v1 x1' HO1 keep blk; refine of_hold ?_)
      have HB1 := Lib.hid (Beds.put (h := (by repeat (first | exact HB.out | apply Beds.more | apply Beds.alloc | apply Beds.drew | apply Beds.drewN))) HO1.out keep blk)
      have H17 := Lib.hid (show (more w1 x1').ownsRow w1.heap.size 73 10 u17 s.length (CS (backL ws s asid fp fold)) from HB1.out.own 2 _ rfl)
      clear keep blk HB1 HB H15 H16
      unfold Hold
      go_wp2_with (at_builtin; refine wpList_append_rowB w1 el_Step rfl _ _ rfl v1 (s.length + s.length) _ rfl (by repeat (first | exact HO1.out | apply own_more | apply own_alloc | apply own_drew | apply own_drewN)) (by repeat (first | exact Ext.refl _ | apply Ext.more | apply Ext.alloc | apply Ext.drew | apply Ext.drewN)) w1.heap.size u17 s.length _ rfl (by repeat (first | exact H17.out | apply own_more | apply own_alloc | apply own_drew | apply own_drewN)) (by omega) (CS_one _) (by omega) ?_; intro v2 x2' HO2 keep blk; clear keep blk)
      go_ret2
      exact ⟨(by repeat (first | exact HE1.out | apply Ext.more | apply Ext.alloc | apply Ext.drew | apply Ext.drewN)), stepsRet_yes rfl HO2.out HE1.out.size (by simp [anewL, goneL_len, toldL_len, backL_len]; omega) (by unfold anewL; rw [← CS_append, ← CS_append])⟩

theorem fold_steps_err (w : World) (v : Value) (root asid page : Int) (so fold : Bool) (k : Nat) :
    Calls Try.prog 103 #[v, .int .i64 root, .int .i64 asid, .int .i64 page, .bool so, .bool fold, errW k] w fun e w' => Ext w w' ∧ e = .returned (.tuple #[.slice none 0 0, errW k]) := by
  go_enter Try.func103, Try.ntmps103
  go_wp2_with fail
  go_ret2
  exact ⟨(by repeat (first | exact Ext.refl _ | apply Ext.more | apply Ext.alloc | apply Ext.drew | apply Ext.drewN)), rfl⟩
theorem fold_steps_asid (w : World) (v : Value) (root asid page : Int) (so fold : Bool) (h : asid < 0 ∨ 255 < asid) :
    Calls Try.prog 103 #[v, .int .i64 root, .int .i64 asid, .int .i64 page, .bool so, .bool fold, .nilIface] w fun e w' => Ext w w' ∧ e = .returned (.tuple #[.slice none 0 0, errW 1]) := by
  by_cases h1 : asid < 0
  · go_enter Try.func103, Try.ntmps103
    go_wp2_with fail
    go_ret2
    exact ⟨(by repeat (first | exact Ext.refl _ | apply Ext.more | apply Ext.alloc | apply Ext.drew | apply Ext.drewN)), rfl⟩
  · have h2 : 255 < asid := by omega
    have h3 : 0 ≤ asid := by omega
    clear h h1
    go_enter Try.func103, Try.ntmps103
    go_wp2_with fail
    go_ret2
    exact ⟨(by repeat (first | exact Ext.refl _ | apply Ext.more | apply Ext.alloc | apply Ext.drew | apply Ext.drewN)), rfl⟩
theorem fold_steps_not (w : World) (v : Value) (root asid page : Int) (fold : Bool) (h1 : 0 ≤ asid) (h2 : asid ≤ 255) :
    Calls Try.prog 103 #[v, .int .i64 root, .int .i64 asid, .int .i64 page, .bool false, .bool fold, .nilIface] w fun e w' => Ext w w' ∧ e = .returned (.tuple #[.slice none 0 0, errW 7]) := by
  go_enter Try.func103, Try.ntmps103
  go_wp2_with fail
  go_ret2
  exact ⟨(by repeat (first | exact Ext.refl _ | apply Ext.more | apply Ext.alloc | apply Ext.drew | apply Ext.drewN)), rfl⟩
theorem fold_steps_yes (w : World) (v : Value) (root asid page : Int) (fold : Bool) (s : List Step) (h1 : 0 ≤ asid) (h2 : asid ≤ 255)
    (h : Calls Try.prog 138 #[v, .int .i64 root, .int .i64 asid, .int .i64 page, .bool fold] w fun e w' => Ext w w' ∧ StepsRet w.heap.size w' (.yes s) e) :
    Calls Try.prog 103 #[v, .int .i64 root, .int .i64 asid, .int .i64 page, .bool true, .bool fold, .nilIface] w fun e w' => Ext w w' ∧ StepsRet w.heap.size w' (.yes s) e := by
  have H := Lib.hid h
  clear h
  go_enter Try.func103, Try.ntmps103
  go_wp2_with fail
  refine H.out.mono ?_
  rintro e w1 ⟨hE1, a, cap, rfl, HO⟩
  have HE1 := Lib.hid hE1
  have HO' := Lib.hid HO
  clear hE1 HO
  go_wp2_with fail
  go_ret2
  exact ⟨(by repeat (first | exact HE1.out | apply Ext.more | apply Ext.alloc | apply Ext.drew | apply Ext.drewN)), stepsRet_yes rfl (by repeat (first | exact HO'.out | apply own_more | apply own_alloc | apply own_drew | apply own_drewN)) (Nat.le_refl _) rfl rfl⟩

theorem alikeB_kinds {l : List Found} {o : Int} (h : alikeB l o = true) : ∀ f ∈ l, f.fKind = 3 := by
  intro f hf
  obtain ⟨j, hj, rfl⟩ := List.getElem_of_mem hf
  have := alikeB_at h (List.getElem?_eq_getElem hj)
  simp only [likeB, Bool.and_eq_true, beq_iff_eq] at this
  exact this.1.1.1.1
theorem mayB_kinds {l : List Found} (h : mayB l = true) : ∀ f ∈ l, f.fKind = 3 := by
  simp only [mayB, Bool.and_eq_true] at h
  exact alikeB_kinds h.1
/-- What Fold and Unfold tell. -/
def foldR (ws : List Int) (asid first : Int) (may : List Found → Bool) (fold : Bool) : Option (List Found) → StepsR
  | none => .no 2
  | some s => if asid < 0 ∨ 255 < asid then .no 1 else if may s then .yes (anewL ws s asid first fold) else .no 7

theorem fold_Fold_no (w : World) {b g n c : Nat} {ws : List Int} (hm : MemAt w b g n c ws) (root asid page : Int) (h : ¬ (0 ≤ root ∧ root < n ∧ 0 ≤ page ∧ page < 4096)) :
    Calls Try.prog 51 #[.pointer (some ⟨b, 0, none⟩), .int .i64 root, .int .i64 asid, .int .i64 page] w fun e w' => Ext w w' ∧ e = .returned (.tuple #[.slice none 0 0, errW 1]) := by
  have HM := Lib.hid hm
  have HF := Lib.hid (fun w hm => fold_May_no w (b := b) (g := g) (n := n) (c := c) (ws := ws) hm root page h)
  clear hm h
  go_enter Try.func51, Try.ntmps51
  go_wp2_with fail
  refine (HF.out _ (by repeat (first | exact HM.out | apply MemAt.more | apply MemAt.alloc | apply MemAt.drew | apply MemAt.drewN))).mono ?_
  rintro e w1 ⟨⟨ex1, rfl⟩, rfl⟩
  go_wp2_with fail
  refine (fold_steps_err _ (.pointer (some ⟨b, 0, none⟩)) root asid page false true 1).mono ?_
  rintro e w1 ⟨⟨ex2, rfl⟩, rfl⟩
  go_wp2_with fail
  go_ret2
  exact ⟨(by repeat (first | exact Ext.refl _ | apply Ext.more | apply Ext.alloc | apply Ext.drew | apply Ext.drewN)), rfl⟩
set_option maxRecDepth 100000 in
set_option maxHeartbeats 1000000 in
theorem fold_Fold (w : World) {b g n c : Nat} {ws : List Int} (hm : MemAt w b g n c ws) (hw : WOk ws) (root asid page : Int) (h0 : 0 ≤ root) (h1 : root < n) (p0 : 0 ≤ page) (p1 : page < 4096) (r : Option (List Found)) (hr : runN ws n root (page - page % 4) 4 = r) :
    Calls Try.prog 51 #[.pointer (some ⟨b, 0, none⟩), .int .i64 root, .int .i64 asid, .int .i64 page] w fun e w' => Ext w w' ∧ StepsRet w.heap.size w' (foldR ws asid (page - page % 4) (mayB) true r) e := by
  have HM := Lib.hid hm
  have HF := Lib.hid (fun w hm => fold_May w (b := b) (g := g) (n := n) (c := c) (ws := ws) hm hw root page h0 h1 p0 p1 r hr)
  have HN := Lib.hid (fun s hr hk w hm => fold_anew w (b := b) (g := g) (n := n) (c := c) (ws := ws) hm hw root asid page true h0 h1 p0 p1 s hr hk)
  cases r with
  | none =>
    clear hm hw hr HN
    go_enter Try.func51, Try.ntmps51
    go_wp2_with fail
    refine (HF.out _ (by repeat (first | exact HM.out | apply MemAt.more | apply MemAt.alloc | apply MemAt.drew | apply MemAt.drewN))).mono ?_
    rintro e w1 ⟨⟨ex1, rfl⟩, rfl⟩
    rw [tellV_n]
    go_wp2_with fail
    refine (fold_steps_err _ (.pointer (some ⟨b, 0, none⟩)) root asid page false true 2).mono ?_
    rintro e w1 ⟨⟨ex2, rfl⟩, rfl⟩
    go_wp2_with fail
    go_ret2
    exact ⟨(by repeat (first | exact Ext.refl _ | apply Ext.more | apply Ext.alloc | apply Ext.drew | apply Ext.drewN)), rfl⟩
  | some s =>
    by_cases ha : asid < 0 ∨ 255 < asid
    · have HV := Lib.hid (show foldR ws asid (page - page % 4) (mayB) true (some s) = .no 1 from by unfold foldR; dsimp only; rw [if_pos ha])
      clear hm hw hr HN
      go_enter Try.func51, Try.ntmps51
      go_wp2_with fail
      refine (HF.out _ (by repeat (first | exact HM.out | apply MemAt.more | apply MemAt.alloc | apply MemAt.drew | apply MemAt.drewN))).mono ?_
      rintro e w1 ⟨⟨ex1, rfl⟩, rfl⟩
      rw [tellV_s]
      go_wp2_with fail
      refine (fold_steps_asid _ (.pointer (some ⟨b, 0, none⟩)) root asid page _ true ha).mono ?_
      rintro e w1 ⟨⟨ex2, rfl⟩, rfl⟩
      go_wp2_with fail
      go_ret2
      exact ⟨(by repeat (first | exact Ext.refl _ | apply Ext.more | apply Ext.alloc | apply Ext.drew | apply Ext.drewN)), by rw [HV.out]; rfl⟩
    · cases hmay : (mayB) s with
      | false =>
        have HV := Lib.hid (show foldR ws asid (page - page % 4) (mayB) true (some s) = .no 7 from by unfold foldR; dsimp only; rw [if_neg ha]; exact if_neg (fun h => Bool.noConfusion (hmay.symm.trans h)))
        have ha' : 0 ≤ asid ∧ asid ≤ 255 := by omega
        clear hm hw hr HN ha
        have HY := Lib.hid hmay
        clear hmay
        go_enter Try.func51, Try.ntmps51
        go_wp2_with fail
        refine (HF.out _ (by repeat (first | exact HM.out | apply MemAt.more | apply MemAt.alloc | apply MemAt.drew | apply MemAt.drewN))).mono ?_
        rintro e w1 ⟨⟨ex1, rfl⟩, rfl⟩
        rw [tellV_s, HY.out]
        go_wp2_with fail
        refine (fold_steps_not _ (.pointer (some ⟨b, 0, none⟩)) root asid page true ha'.1 ha'.2).mono ?_
        rintro e w1 ⟨⟨ex2, rfl⟩, rfl⟩
        go_wp2_with fail
        go_ret2
        exact ⟨(by repeat (first | exact Ext.refl _ | apply Ext.more | apply Ext.alloc | apply Ext.drew | apply Ext.drewN)), by rw [HV.out]; rfl⟩
      | true =>
        have HV := Lib.hid (show foldR ws asid (page - page % 4) (mayB) true (some s) = .yes (anewL ws s asid (page - page % 4) true) from by unfold foldR; dsimp only; rw [if_neg ha]; exact if_pos hmay)
        have ha' : 0 ≤ asid ∧ asid ≤ 255 := by omega
        have HN' := Lib.hid (HN.out s hr (mayB_kinds hmay))
        clear hm hw hr HN ha
        have HY := Lib.hid hmay
        clear hmay
        go_enter Try.func51, Try.ntmps51
        go_wp2_with fail
        refine (HF.out _ (by repeat (first | exact HM.out | apply MemAt.more | apply MemAt.alloc | apply MemAt.drew | apply MemAt.drewN))).mono ?_
        rintro e w1 ⟨⟨ex1, rfl⟩, rfl⟩
        rw [tellV_s, HY.out]
        go_wp2_with fail
        refine (fold_steps_yes _ (.pointer (some ⟨b, 0, none⟩)) root asid page true _ ha'.1 ha'.2 (HN'.out _ (by repeat (first | exact HM.out | apply MemAt.more | apply MemAt.alloc | apply MemAt.drew | apply MemAt.drewN)))).mono ?_
        rintro e w2 ⟨hE2, a, cap, rfl, HO⟩
        have HE2 := Lib.hid (Ext.trans (show Ext w (more w ex1) from ⟨ex1, rfl⟩) hE2)
        have HO' := Lib.hid HO
        clear hE2 HO
        go_wp2_with fail
        go_ret2
        rw [HV.out]
        exact ⟨(by repeat (first | exact HE2.out | apply Ext.more | apply Ext.alloc | apply Ext.drew | apply Ext.drewN)), stepsRet_yes rfl (by repeat (first | exact HO'.out | apply own_more | apply own_alloc | apply own_drew | apply own_drewN)) (size_le_more w ex1) rfl rfl⟩

theorem fold_Unfold_no (w : World) {b g n c : Nat} {ws : List Int} (hm : MemAt w b g n c ws) (root asid page : Int) (h : ¬ (0 ≤ root ∧ root < n ∧ 0 ≤ page ∧ page < 4096)) :
    Calls Try.prog 52 #[.pointer (some ⟨b, 0, none⟩), .int .i64 root, .int .i64 asid, .int .i64 page] w fun e w' => Ext w w' ∧ e = .returned (.tuple #[.slice none 0 0, errW 1]) := by
  have HM := Lib.hid hm
  have HF := Lib.hid (fun w hm => fold_Is_no w (b := b) (g := g) (n := n) (c := c) (ws := ws) hm root page h)
  clear hm h
  go_enter Try.func52, Try.ntmps52
  go_wp2_with fail
  refine (HF.out _ (by repeat (first | exact HM.out | apply MemAt.more | apply MemAt.alloc | apply MemAt.drew | apply MemAt.drewN))).mono ?_
  rintro e w1 ⟨⟨ex1, rfl⟩, rfl⟩
  go_wp2_with fail
  refine (fold_steps_err _ (.pointer (some ⟨b, 0, none⟩)) root asid page false false 1).mono ?_
  rintro e w1 ⟨⟨ex2, rfl⟩, rfl⟩
  go_wp2_with fail
  go_ret2
  exact ⟨(by repeat (first | exact Ext.refl _ | apply Ext.more | apply Ext.alloc | apply Ext.drew | apply Ext.drewN)), rfl⟩
set_option maxRecDepth 100000 in
set_option maxHeartbeats 1000000 in
theorem fold_Unfold (w : World) {b g n c : Nat} {ws : List Int} (hm : MemAt w b g n c ws) (hw : WOk ws) (root asid page : Int) (h0 : 0 ≤ root) (h1 : root < n) (p0 : 0 ≤ page) (p1 : page < 4096) (r : Option (List Found)) (hr : runN ws n root (page - page % 4) 4 = r) :
    Calls Try.prog 52 #[.pointer (some ⟨b, 0, none⟩), .int .i64 root, .int .i64 asid, .int .i64 page] w fun e w' => Ext w w' ∧ StepsRet w.heap.size w' (foldR ws asid (page - page % 4) (fun l => alikeB l 2) false r) e := by
  have HM := Lib.hid hm
  have HF := Lib.hid (fun w hm => fold_Is w (b := b) (g := g) (n := n) (c := c) (ws := ws) hm hw root page h0 h1 p0 p1 r hr)
  have HN := Lib.hid (fun s hr hk w hm => fold_anew w (b := b) (g := g) (n := n) (c := c) (ws := ws) hm hw root asid page false h0 h1 p0 p1 s hr hk)
  cases r with
  | none =>
    clear hm hw hr HN
    go_enter Try.func52, Try.ntmps52
    go_wp2_with fail
    refine (HF.out _ (by repeat (first | exact HM.out | apply MemAt.more | apply MemAt.alloc | apply MemAt.drew | apply MemAt.drewN))).mono ?_
    rintro e w1 ⟨⟨ex1, rfl⟩, rfl⟩
    rw [tellV_n]
    go_wp2_with fail
    refine (fold_steps_err _ (.pointer (some ⟨b, 0, none⟩)) root asid page false false 2).mono ?_
    rintro e w1 ⟨⟨ex2, rfl⟩, rfl⟩
    go_wp2_with fail
    go_ret2
    exact ⟨(by repeat (first | exact Ext.refl _ | apply Ext.more | apply Ext.alloc | apply Ext.drew | apply Ext.drewN)), rfl⟩
  | some s =>
    by_cases ha : asid < 0 ∨ 255 < asid
    · have HV := Lib.hid (show foldR ws asid (page - page % 4) (fun l => alikeB l 2) false (some s) = .no 1 from by unfold foldR; dsimp only; rw [if_pos ha])
      clear hm hw hr HN
      go_enter Try.func52, Try.ntmps52
      go_wp2_with fail
      refine (HF.out _ (by repeat (first | exact HM.out | apply MemAt.more | apply MemAt.alloc | apply MemAt.drew | apply MemAt.drewN))).mono ?_
      rintro e w1 ⟨⟨ex1, rfl⟩, rfl⟩
      rw [tellV_s]
      go_wp2_with fail
      refine (fold_steps_asid _ (.pointer (some ⟨b, 0, none⟩)) root asid page _ false ha).mono ?_
      rintro e w1 ⟨⟨ex2, rfl⟩, rfl⟩
      go_wp2_with fail
      go_ret2
      exact ⟨(by repeat (first | exact Ext.refl _ | apply Ext.more | apply Ext.alloc | apply Ext.drew | apply Ext.drewN)), by rw [HV.out]; rfl⟩
    · cases hmay : (fun l => alikeB l 2) s with
      | false =>
        have HV := Lib.hid (show foldR ws asid (page - page % 4) (fun l => alikeB l 2) false (some s) = .no 7 from by unfold foldR; dsimp only; rw [if_neg ha]; exact if_neg (fun h => Bool.noConfusion (hmay.symm.trans h)))
        have ha' : 0 ≤ asid ∧ asid ≤ 255 := by omega
        clear hm hw hr HN ha
        have HY := Lib.hid hmay
        clear hmay
        go_enter Try.func52, Try.ntmps52
        go_wp2_with fail
        refine (HF.out _ (by repeat (first | exact HM.out | apply MemAt.more | apply MemAt.alloc | apply MemAt.drew | apply MemAt.drewN))).mono ?_
        rintro e w1 ⟨⟨ex1, rfl⟩, rfl⟩
        rw [tellV_s, HY.out]
        go_wp2_with fail
        refine (fold_steps_not _ (.pointer (some ⟨b, 0, none⟩)) root asid page false ha'.1 ha'.2).mono ?_
        rintro e w1 ⟨⟨ex2, rfl⟩, rfl⟩
        go_wp2_with fail
        go_ret2
        exact ⟨(by repeat (first | exact Ext.refl _ | apply Ext.more | apply Ext.alloc | apply Ext.drew | apply Ext.drewN)), by rw [HV.out]; rfl⟩
      | true =>
        have HV := Lib.hid (show foldR ws asid (page - page % 4) (fun l => alikeB l 2) false (some s) = .yes (anewL ws s asid (page - page % 4) false) from by unfold foldR; dsimp only; rw [if_neg ha]; exact if_pos hmay)
        have ha' : 0 ≤ asid ∧ asid ≤ 255 := by omega
        have HN' := Lib.hid (HN.out s hr (alikeB_kinds hmay))
        clear hm hw hr HN ha
        have HY := Lib.hid hmay
        clear hmay
        go_enter Try.func52, Try.ntmps52
        go_wp2_with fail
        refine (HF.out _ (by repeat (first | exact HM.out | apply MemAt.more | apply MemAt.alloc | apply MemAt.drew | apply MemAt.drewN))).mono ?_
        rintro e w1 ⟨⟨ex1, rfl⟩, rfl⟩
        rw [tellV_s, HY.out]
        go_wp2_with fail
        refine (fold_steps_yes _ (.pointer (some ⟨b, 0, none⟩)) root asid page false _ ha'.1 ha'.2 (HN'.out _ (by repeat (first | exact HM.out | apply MemAt.more | apply MemAt.alloc | apply MemAt.drew | apply MemAt.drewN)))).mono ?_
        rintro e w2 ⟨hE2, a, cap, rfl, HO⟩
        have HE2 := Lib.hid (Ext.trans (show Ext w (more w ex1) from ⟨ex1, rfl⟩) hE2)
        have HO' := Lib.hid HO
        clear hE2 HO
        go_wp2_with fail
        go_ret2
        rw [HV.out]
        exact ⟨(by repeat (first | exact HE2.out | apply Ext.more | apply Ext.alloc | apply Ext.drew | apply Ext.drewN)), stepsRet_yes rfl (by repeat (first | exact HO'.out | apply own_more | apply own_alloc | apply own_drew | apply own_drewN)) (size_le_more w ex1) rfl rfl⟩

end Go.Proofs.Ytapeoeakiphfpaa
