import Derived.Test.YtapeoeakiphfpaaBStepsSamePart
import Derived.Test.YtapeoeakiphfpaaBCodeLawgLawhLawe
/- The contracts of huge.has, huge.Split, paviorref16.Split. -/
namespace Go.Proofs.Ytapeoeakiphfpaa
open Go.RowKit
set_option linter.unusedVariables false
set_option linter.unusedSimpArgs false
attribute [local go_sem] setCell_drewN alloc_drewN lt_moreE le_moreE lt_moreK le_moreK cell_more frozen_more set_more drew_more drewN_more

def HasP (n : Nat) (root asid page frame : Int) : Prop := 0 ≤ root ∧ root < n ∧ 0 ≤ page ∧ page < 4096 ∧ 0 ≤ frame ∧ frame < n ∧ 0 ≤ asid ∧ asid ≤ 255

set_option maxHeartbeats 1000000 in
theorem huge_has_yes (w : World) {b g n c : Nat} {ws : List Int} (hm : MemAt w b g n c ws) (root asid page frame : Int) (h : HasP n root asid page frame) :
    Calls Try.prog 88 #[.pointer (some ⟨b, 0, none⟩), .int .i64 root, .int .i64 asid, .int .i64 page, .int .i64 frame] w fun e w' => e = .returned (.bool true) ∧ w' = w := by
  have HF := Lib.hid (phys_Frames w hm)
  obtain ⟨h0, h1, h2, h3, h4, h5, h6, h7⟩ := h
  clear hm
  go_enter Try.func88, Try.ntmps88
  go_wp2_with (go_at_call 30; refine HF.out.mono ?_; rintro e w1 ⟨rfl, rfl⟩)
  go_ret
  exact ⟨rfl, rfl⟩
set_option maxHeartbeats 2000000 in
theorem huge_has_no (w : World) {b g n c : Nat} {ws : List Int} (hm : MemAt w b g n c ws) (root asid page frame : Int) (h : ¬ HasP n root asid page frame) :
    Calls Try.prog 88 #[.pointer (some ⟨b, 0, none⟩), .int .i64 root, .int .i64 asid, .int .i64 page, .int .i64 frame] w fun e w' => e = .returned (.bool false) ∧ w' = w := by
  have HF := Lib.hid (phys_Frames w hm)
  have h' : root < 0 ∨ (0 ≤ root ∧ (n : Int) ≤ root) ∨ (0 ≤ root ∧ root < n ∧ page < 0) ∨ (0 ≤ root ∧ root < n ∧ 0 ≤ page ∧ 4096 ≤ page) ∨ (0 ≤ root ∧ root < n ∧ 0 ≤ page ∧ page < 4096 ∧ frame < 0) ∨ (0 ≤ root ∧ root < n ∧ 0 ≤ page ∧ page < 4096 ∧ 0 ≤ frame ∧ (n : Int) ≤ frame) ∨ (0 ≤ root ∧ root < n ∧ 0 ≤ page ∧ page < 4096 ∧ 0 ≤ frame ∧ frame < n ∧ asid < 0) ∨ (0 ≤ root ∧ root < n ∧ 0 ≤ page ∧ page < 4096 ∧ 0 ≤ frame ∧ frame < n ∧ 0 ≤ asid ∧ 255 < asid) := by unfold HasP at h; omega
  clear hm h
  rcases h' with h | ⟨h0, h⟩ | ⟨h0, h1, h⟩ | ⟨h0, h1, h2, h⟩ | ⟨h0, h1, h2, h3, h⟩ | ⟨h0, h1, h2, h3, h4, h⟩ | ⟨h0, h1, h2, h3, h4, h5, h⟩ | ⟨h0, h1, h2, h3, h4, h5, h6, h⟩
  all_goals
    go_enter Try.func88, Try.ntmps88
    go_wp2_with (go_at_call 30; refine HF.out.mono ?_; rintro e w1 ⟨rfl, rfl⟩)
    go_ret
    exact ⟨by first | rfl | exact ret_bool (by simp; omega), rfl⟩

def wordF (ws : List Int) (f : Found) : Int := ws.getD (f.fTable.toNat * 8 + f.fPlace.toNat) 0
/-- What Split tells. -/
def splitR (ws : List Int) (asid fresh : Int) : Option Found → StepsR
  | none => .no 2
  | some f => if f.fKind = 2 then .yes (splitS asid fresh f (decD 2 (wordF ws f))) else .no 7

theorem huge_Split_no (w : World) {b g n c : Nat} {ws : List Int} (hm : MemAt w b g n c ws) (root asid page fresh : Int) (h : ¬ HasP n root asid page fresh) :
    Calls Try.prog 42 #[.pointer (some ⟨b, 0, none⟩), .int .i64 root, .int .i64 asid, .int .i64 page, .int .i64 fresh] w fun e w' => Ext w w' ∧ e = .returned (.tuple #[.slice none 0 0, errW 1]) := by
  have HH := Lib.hid (huge_has_no w hm root asid page fresh h)
  clear hm h
  go_enter Try.func42, Try.ntmps42
  go_wp2_with fail
  refine HH.out.mono ?_
  rintro e w' ⟨rfl, rfl⟩
  go_wp2_with fail
  go_ret2
  exact ⟨(by repeat (first | exact Ext.refl _ | apply Ext.more | apply Ext.alloc | apply Ext.drew | apply Ext.drewN)), rfl⟩
theorem huge_Split_nil (w : World) (root asid page fresh : Int) :
    Calls Try.prog 42 #[.pointer none, .int .i64 root, .int .i64 asid, .int .i64 page, .int .i64 fresh] w fun e w' => Ext w w' ∧ e = .returned (.tuple #[.slice none 0 0, errW 1]) := by
  have HH : Calls Try.prog 88 #[.pointer none, .int .i64 root, .int .i64 asid, .int .i64 page, .int .i64 fresh] w fun e w' => e = .returned (.bool false) ∧ w' = w := by
    go_enter Try.func88, Try.ntmps88
    go_wp2_with fail
    go_ret
    exact ⟨rfl, rfl⟩
  go_enter Try.func42, Try.ntmps42
  go_wp2_with fail
  refine HH.mono ?_
  rintro e w' ⟨rfl, rfl⟩
  go_wp2_with fail
  go_ret2
  exact ⟨(by repeat (first | exact Ext.refl _ | apply Ext.more | apply Ext.alloc | apply Ext.drew | apply Ext.drewN)), rfl⟩

set_option maxRecDepth 100000 in
set_option maxHeartbeats 4000000 in
theorem huge_Split (w : World) {b g n c : Nat} {ws : List Int} (hm : MemAt w b g n c ws) (hw : WOk ws) (root asid page fresh : Int) (h : HasP n root asid page fresh) (r : Option Found) (hr : walkAt ws n page 4 0 root = r) :
    Calls Try.prog 42 #[.pointer (some ⟨b, 0, none⟩), .int .i64 root, .int .i64 asid, .int .i64 page, .int .i64 fresh] w fun e w' => Ext w w' ∧ StepsRet w.heap.size w' (splitR ws asid fresh r) e := by
  have HH := Lib.hid (huge_has_yes w hm root asid page fresh h)
  obtain ⟨r0, r1, p0, p1, f0, f1, a0, a1⟩ := h
  have HK := Lib.hid (extC (walk_Walk w hm hw root page r0 r1 p0 p1))
  rw [hr] at HK
  have HM := Lib.hid hm
  have HW := Lib.hid hw
  have HR := Lib.hid hr
  have hle := hm.le
  clear hm hw hr
  cases r with
  | none =>
    rw [walkV_n] at HK
    go_enter Try.func42, Try.ntmps42
    go_wp2_with fail
    refine HH.out.mono ?_
    rintro e w' ⟨rfl, hww⟩
    subst w'
    go_wp2_with fail
    refine HK.out.mono ?_
    rintro e w' ⟨⟨ex1, rfl⟩, rfl⟩
    go_wp2_with fail
    go_ret2
    exact ⟨(by repeat (first | exact Ext.refl _ | apply Ext.more | apply Ext.alloc | apply Ext.drew | apply Ext.drewN)), rfl⟩
  | some f =>
    by_cases hk : f.fKind = 2
    · obtain ⟨q1, q2, q3, q4, q5, q6, d, hd, hok, hdk⟩ := walk_block HR.out hk
      have HV := Lib.hid (show splitR ws asid fresh (some f) = .yes (splitS asid fresh f d) from by unfold splitR wordF; dsimp only; rw [if_pos hk, hd])
      have hfp : f.fFirst + 7 < 4096 ∧ 0 ≤ f.fFirst := by omega
      have hXb := HW.out.getD (f.fTable.toNat * 8 + f.fPlace.toNat)
      obtain ⟨F0, F1, F2, F3, F4, F5, F6, F7, F8, F9, F10⟩ := f
      dsimp only at hk q1 q2 q3 q4 q5 q6 hd hfp hXb
      subst hk q1
      rw [walkV_s] at HK
      obtain ⟨T, rfl⟩ := Int.eq_ofNat_of_zero_le q3
      obtain ⟨Pl, rfl⟩ := Int.eq_ofNat_of_zero_le q5
      have HL := Lib.hid (fun w (hm : MemAt w b g n c ws) => phys_Load_is w hm (T : Int) (Pl : Int) _ q3 q4 q5 q6 rfl)
      generalize hX : ws.getD ((T : Int).toNat * 8 + (Pl : Int).toNat) 0 = X at *
      have HD := Lib.hid (fun w => extC (pte_Decode w 2 X (by omega) (by omega) hXb.1 hXb.2))
      rw [hd] at HD
      have HE := Lib.hid (fun (i : Nat) (hi : i < 8) w => extC (pte_Encode_yes w 3 _ (okD_part hok hdk i hi)))
      have HT := Lib.hid (fun w => extC (pte_Encode_yes w 2 _ (okD_tab (level := 2) (by omega) (by omega) f0 (show fresh < 512 by omega))))
      obtain ⟨fo, hmod, hd0, hd1⟩ := okD_block hok hdk
      obtain ⟨d0, d1, d2, d3, d4, d5, d6⟩ := d
      dsimp only at hdk fo hmod hd0 hd1
      subst hdk fo
      obtain ⟨hf1, hf0⟩ := hfp
      clear hX hd hok hXb q2 hmod
      go_enter Try.func42, Try.ntmps42
      go_wp2_with fail
      refine HH.out.mono ?_
      rintro e w' ⟨rfl, hww⟩
      subst w'
      go_wp2_with fail
      refine HK.out.mono ?_
      rintro e w' ⟨⟨ex1, rfl⟩, rfl⟩
      go_wp2_with fail
      refine (HL.out _ (by repeat (first | exact HM.out | apply MemAt.more | apply MemAt.alloc | apply MemAt.drew | apply MemAt.drewN))).mono ?_
      rintro e w' ⟨rfl, hww⟩
      subst w'
      go_wp2_with fail
      refine (HD.out _).mono ?_
      rintro e w' ⟨⟨ex2, rfl⟩, rfl⟩
      go_wp2_with fail
      have hE1 : Ext w ((more ((more w ex1).alloc (.cells #[.int .i64 2, .int .i64 2, .int .i64 T, .int .i64 Pl, .int .i64 F4, .int .i64 F5, .int .i64 F6, .int .i64 F7, .bool F8, .bool F9, .bool F10] 80)) ex2).alloc (.cells #[.int .i64 3, .int .i64 d1, .bool d2, .bool d3, .bool d4, .bool false, .int .i64 d6] 107)) := (by repeat (first | exact Ext.refl _ | apply Ext.more | apply Ext.alloc | apply Ext.drew | apply Ext.drewN))
      have e2 : ((more ((more w ex1).alloc (.cells #[.int .i64 2, .int .i64 2, .int .i64 T, .int .i64 Pl, .int .i64 F4, .int .i64 F5, .int .i64 F6, .int .i64 F7, .bool F8, .bool F9, .bool F10] 80)) ex2).alloc (.cells #[.int .i64 3, .int .i64 d1, .bool d2, .bool d3, .bool d4, .bool false, .int .i64 d6] 107)).cell? ⟨(more w ex1).heap.size, 2, none⟩ = some (.int .i64 T) := by go_simp
      have e3 : ((more ((more w ex1).alloc (.cells #[.int .i64 2, .int .i64 2, .int .i64 T, .int .i64 Pl, .int .i64 F4, .int .i64 F5, .int .i64 F6, .int .i64 F7, .bool F8, .bool F9, .bool F10] 80)) ex2).alloc (.cells #[.int .i64 3, .int .i64 d1, .bool d2, .bool d3, .bool d4, .bool false, .int .i64 d6] 107)).cell? ⟨(more w ex1).heap.size, 3, none⟩ = some (.int .i64 Pl) := by go_simp
      have e6 : ((more ((more w ex1).alloc (.cells #[.int .i64 2, .int .i64 2, .int .i64 T, .int .i64 Pl, .int .i64 F4, .int .i64 F5, .int .i64 F6, .int .i64 F7, .bool F8, .bool F9, .bool F10] 80)) ex2).alloc (.cells #[.int .i64 3, .int .i64 d1, .bool d2, .bool d3, .bool d4, .bool false, .int .i64 d6] 107)).cell? ⟨(more w ex1).heap.size, 6, none⟩ = some (.int .i64 F6) := by go_simp
      have hb := cells7 (w := ((more ((more w ex1).alloc (.cells #[.int .i64 2, .int .i64 2, .int .i64 T, .int .i64 Pl, .int .i64 F4, .int .i64 F5, .int .i64 F6, .int .i64 F7, .bool F8, .bool F9, .bool F10] 80)) ex2).alloc (.cells #[.int .i64 3, .int .i64 d1, .bool d2, .bool d3, .bool d4, .bool false, .int .i64 d6] 107))) (heap_alloc_new _ _)
      have hs1 : ((more ((more w ex1).alloc (.cells #[.int .i64 2, .int .i64 2, .int .i64 T, .int .i64 Pl, .int .i64 F4, .int .i64 F5, .int .i64 F6, .int .i64 F7, .bool F8, .bool F9, .bool F10] 80)) ex2).alloc (.cells #[.int .i64 3, .int .i64 d1, .bool d2, .bool d3, .bool d4, .bool false, .int .i64 d6] 107)).heap.size = (more ((more w ex1).alloc (.cells #[.int .i64 2, .int .i64 2, .int .i64 T, .int .i64 Pl, .int .i64 F4, .int .i64 F5, .int .i64 F6, .int .i64 F7, .bool F8, .bool F9, .bool F10] 80)) ex2).heap.size + 1 := by simp
      have hl1 : (more w ex1).heap.size < ((more ((more w ex1).alloc (.cells #[.int .i64 2, .int .i64 2, .int .i64 T, .int .i64 Pl, .int .i64 F4, .int .i64 F5, .int .i64 F6, .int .i64 F7, .bool F8, .bool F9, .bool F10] 80)) ex2).alloc (.cells #[.int .i64 3, .int .i64 d1, .bool d2, .bool d3, .bool d4, .bool false, .int .i64 d6] 107)).heap.size := by simp [size_more]; omega
      generalize ((more ((more w ex1).alloc (.cells #[.int .i64 2, .int .i64 2, .int .i64 T, .int .i64 Pl, .int .i64 F4, .int .i64 F5, .int .i64 F6, .int .i64 F7, .bool F8, .bool F9, .bool F10] 80)) ex2).alloc (.cells #[.int .i64 3, .int .i64 d1, .bool d2, .bool d3, .bool d4, .bool false, .int .i64 d6] 107)) = W1 at *
      generalize (more ((more w ex1).alloc (.cells #[.int .i64 2, .int .i64 2, .int .i64 T, .int .i64 Pl, .int .i64 F4, .int .i64 F5, .int .i64 F6, .int .i64 F7, .bool F8, .bool F9, .bool F10] 80)) ex2).heap.size = db at *
      generalize (more w ex1).heap.size = fb at *
      have hl2 : db < W1.heap.size := by omega
      have HE1 := Lib.hid hE1
      have HS1 := Lib.hid hs1
      obtain ⟨b0, b1, b2, b3, b4, b5, b6, bf⟩ := hb
      clear hE1 hs1
      go_loopw [16, 70] (fun o i wr => ∃ q : Nat, q ≤ 8 ∧ i = .int .i64 q ∧ Ext W1 wr ∧ Hid (wr.ownsRow W1.heap.size 73 10 o (1 + q) ((clearS fresh).cells ++ CS (partsN asid fresh F6 ⟨2, d1, d2, d3, d4, false, d6⟩ q)))) (fun _ i _ => 8 - (intOf i).toNat)
      case atStart => exact ⟨0, by omega, rfl, (by repeat (first | exact Ext.refl _ | apply Ext.more | apply Ext.alloc | apply Ext.drew | apply Ext.drewN)), by show World.ownsRow _ _ _ _ _ _ _; exact own_lit' HS1.out.symm (Nat.le_refl _) rfl (by decide) rfl (by simp [CS, partsN, clearS, Step.cells])⟩
      case round =>
        obtain ⟨q, hq, rfl, ⟨x, rfl⟩, HO⟩ := hrel
        by_cases hlt : q < 8
        · have E := Lib.hid (show CS (partsN asid fresh F6 ⟨2, d1, d2, d3, d4, false, d6⟩ (q + 1)) = CS (partsN asid fresh F6 ⟨2, d1, d2, d3, d4, false, d6⟩ q) ++ (wr0 asid 3 fresh q (F6 + q) (encW ⟨3, d1 + q, d2, d3, d4, false, d6⟩)).cells from by rw [partsN_succ, CS_snoc]; rfl)
          have HEq := Lib.hid (fun w => HE.out q hlt w)
          generalize hEW : encW ⟨3, d1 + q, d2, d3, d4, false, d6⟩ = EW at *
          have hEW' : encW (partD ⟨2, d1, d2, d3, d4, false, d6⟩ q) = EW := hEW
          rw [hEW'] at HEq
          clear hEW hEW'
          have HEq' := Lib.hid (fun w => (show Calls Try.prog 91 #[.int .i64 3, .agg #[.int .i64 3, .int .i64 (d1 + q), .bool d2, .bool d3, .bool d4, .bool false, .int .i64 d6]] w _ from HEq.out w))
          clear HEq
          go_wp2_with fail
          refine (HEq'.out _).mono ?_
          rintro e w' ⟨⟨ex3, rfl⟩, rfl⟩
          go_wp2_with ((at_builtin; refine wpList_append_new W1 el_Step rfl _ _ rfl u16 (1 + q) _ rfl (by repeat (first | exact HO.out | apply own_more | apply own_alloc | apply own_drew | apply own_drewN)) (by repeat (first | exact Ext.refl _ | apply Ext.more | apply Ext.alloc | apply Ext.drew | apply Ext.drewN)) _ _ 1 _ rfl (by simp) rfl rfl (by omega) ?_); intro v' x' HO' keep; clear keep)
          go_roundw
          case rel => exact ⟨q + 1, by omega, by go_num, (by repeat (first | exact Ext.refl _ | apply Ext.more | apply Ext.alloc | apply Ext.drew | apply Ext.drewN)), by
            show World.ownsRow _ _ _ _ _ _ _
            rw [E.out, ← List.append_assoc]
            exact HO'.out⟩
          case measure => simp [intOf]; omega
        · obtain rfl : q = 8 := by omega
          have HSw := Lib.hid (fun w => huge_swap w asid T Pl F6 (fresh * 4096 + 3) hf0 hf1)
          go_wp2_with fail
          refine (HT.out _).mono ?_
          rintro e w' ⟨⟨ex3, rfl⟩, rfl⟩
          rw [show encW (tableD fresh) = fresh * 4096 + 3 from rfl]
          go_wp2_with fail
          refine (HSw.out _).mono ?_
          rintro e w' ⟨⟨ex4, rfl⟩, a2, c2, rfl, hO2⟩
          have HO2 := Lib.hid hO2
          clear hO2
          go_wp2_with (at_builtin; refine wpList_append_row W1 el_Step rfl _ _ rfl u16 (1 + 8) _ rfl (by repeat (first | exact HO.out | apply own_more | apply own_alloc | apply own_drew | apply own_drewN)) (by repeat (first | exact Ext.refl _ | apply Ext.more | apply Ext.alloc | apply Ext.drew | apply Ext.drewN)) _ _ 10 _ rfl (by repeat (first | exact HO2.out | apply own_more | apply own_alloc | apply own_drew | apply own_drewN)) (by omega) (CS_one _) (by omega) ?_; intro v1 x1' HO1 keep; clear keep)
          go_ret2
          refine ⟨(by repeat (first | exact HE1.out | apply Ext.more | apply Ext.alloc | apply Ext.drew | apply Ext.drewN)), ?_⟩
          rw [HV.out]
          exact stepsRet_yes rfl HO1.out (Ext.size HE1.out) rfl (by simp [splitS, CS])
    · have HV := Lib.hid (show splitR ws asid fresh (some f) = .no 7 from by unfold splitR; dsimp only; rw [if_neg hk])
      obtain ⟨F0, F1, F2, F3, F4, F5, F6, F7, F8, F9, F10⟩ := f
      dsimp only at hk
      have z2 : (F0 != 2) = true := by simpa using hk
      rw [walkV_s] at HK
      clear HR hk
      go_enter Try.func42, Try.ntmps42
      go_wp2_with fail
      refine HH.out.mono ?_
      rintro e w' ⟨rfl, hww⟩
      subst w'
      go_wp2_with fail
      refine HK.out.mono ?_
      rintro e w' ⟨⟨ex1, rfl⟩, rfl⟩
      go_wp2_with fail
      go_ret2
      rw [HV.out]
      exact ⟨(by repeat (first | exact Ext.refl _ | apply Ext.more | apply Ext.alloc | apply Ext.drew | apply Ext.drewN)), rfl⟩

/-- What the document's Split tells. -/
def RStepsRet (B : Nat) (w' : World) (r : StepsR) (e : Ending) : Prop := match r with
  | .yes s => ∃ a cap, e = .returned (.tuple #[.slice a s.length cap, .int .i64 0]) ∧ OwnS w' B (.slice a s.length cap) s
  | .no k => e = .returned (.tuple #[.slice none 0 0, .int .i64 k])
theorem rstepsRet_yes {B B' n : Nat} {w' : World} {r : StepsR} {s : List Step} {v : Value} {xs : List Value} (hr : r = .yes s) (h : w'.ownsRow B' 73 10 v n xs) (hb : B ≤ B') (hn : n = s.length) (hx : xs = (s.map Step.cells).flatten) : RStepsRet B w' r (.returned (.tuple #[v, .int .i64 0])) := by
  obtain ⟨a, cap, rfl⟩ := own_form h
  subst hn hx hr
  exact ⟨a, cap, rfl, own_low h hb⟩

end Go.Proofs.Ytapeoeakiphfpaa
