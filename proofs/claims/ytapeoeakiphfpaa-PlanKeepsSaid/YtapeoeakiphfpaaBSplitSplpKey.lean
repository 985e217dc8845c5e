import Derived.Test.YtapeoeakiphfpaaBStepsSamePart
import Derived.Test.YtapeoeakiphfpaaBCodeLawgLawhLawe
import Derived.Test.YtapeoeakiphfpaaBSemwPathrPathtWipe
import Derived.Test.YtapeoeakiphfpaaBInSamqPrunsKeeqBacp
import Derived.Test.YtapeoeakiphfpaaBRefbFoldp
import Derived.Test.YtapeoeakiphfpaaMore
import Derived.Laws.StructEq
import Derived.Maps.RangeRun
/- The contracts of huge.has, huge.Split, paviorref16.Split. -/
namespace Go.Proofs.Ytapeoeakiphfpaa
open Go.RowKit
set_option linter.unusedVariables false
set_option linter.unusedSimpArgs false
attribute [local go_sem] setCell_drewN alloc_drewN lt_moreE le_moreE lt_moreK le_moreK cell_more frozen_more set_more drew_more drewN_more

def HasP (n : Nat) (root asid page frame : Int) : Prop := 0 ≤ root ∧ root < n ∧ 0 ≤ page ∧ page < 4096 ∧ 0 ≤ frame ∧ frame < n ∧ 0 ≤ asid ∧ asid ≤ 255

set_option maxHeartbeats 1000000 in
theorem huge_has_yes (w : World) {b g n c : Nat} {ws : List Int} (hm : MemAt w b g n c ws) (root asid page frame : Int) (h : HasP n root asid page frame) :
    Calls Try.prog 88 #[.pointer (some ⟨b, 0, none⟩), .int .i64 root, .int .i64 asid, .int .i64 page, .int .i64 frame] w fun e w' => e = .returned (.bool true) ∧ w' = w := by
  have HF := Lib.hid (phys_Frames w hm)
  obtain ⟨h0, h1, h2, h3, h4, h5, h6, h7⟩ := h
  clear hm
  go_enter Try.func88, Try.ntmps88
  go_wp2_with (go_at_call 30; refine HF.out.mono ?_; rintro e w1 ⟨rfl, rfl⟩)
  go_ret
  exact ⟨rfl, rfl⟩
set_option maxHeartbeats 2000000 in
theorem huge_has_no (w : World) {b g n c : Nat} {ws : List Int} (hm : MemAt w b g n c ws) (root asid page frame : Int) (h : ¬ HasP n root asid page frame) :
    Calls Try.prog 88 #[.pointer (some ⟨b, 0, none⟩), .int .i64 root, .int .i64 asid, .int .i64 page, .int .i64 frame] w fun e w' => e = .returned (.bool false) ∧ w' = w := by
  have HF := Lib.hid (phys_Frames w hm)
  have h' : root < 0 ∨ (0 ≤ root ∧ (n : Int) ≤ root) ∨ (0 ≤ root ∧ root < n ∧ page < 0) ∨ (0 ≤ root ∧ root < n ∧ 0 ≤ page ∧ 4096 ≤ page) ∨ (0 ≤ root ∧ root < n ∧ 0 ≤ page ∧ page < 4096 ∧ frame < 0) ∨ (0 ≤ root ∧ root < n ∧ 0 ≤ page ∧ page < 4096 ∧ 0 ≤ frame ∧ (n : Int) ≤ frame) ∨ (0 ≤ root ∧ root < n ∧ 0 ≤ page ∧ page < 4096 ∧ 0 ≤ frame ∧ frame < n ∧ asid < 0) ∨ (0 ≤ root ∧ root < n ∧ 0 ≤ page ∧ page < 4096 ∧ 0 ≤ frame ∧ frame < n ∧ 0 ≤ asid ∧ 255 < asid) := by unfold HasP at h; omega
  clear hm h
  rcases h' with h | ⟨h0, h⟩ | ⟨h0, h1, h⟩ | ⟨h0, h1, h2, h⟩ | ⟨h0, h1, h2, h3, h⟩ | ⟨h0, h1, h2, h3, h4, h⟩ | ⟨h0, h1, h2, h3, h4, h5, h⟩ | ⟨h0, h1, h2, h3, h4, h5, h6, h⟩
  all_goals
    go_enter Try.func88, Try.ntmps88
    go_wp2_with (go_at_call 30; refine HF.out.mono ?_; rintro e w1 ⟨rfl, rfl⟩)
    go_ret
    exact ⟨by first | rfl | exact ret_bool (by simp; omega), rfl⟩

def wordF (ws : List Int) (f : Found) : Int := ws.getD (f.fTable.toNat * 8 + f.fPlace.toNat) 0
/-- What Split tells. -/
def splitR (ws : List Int) (asid fresh : Int) : Option Found → StepsR
  | none => .no 2
  | some f => if f.fKind = 2 then .yes (splitS asid fresh f (decD 2 (wordF ws f))) else .no 7

theorem huge_Split_no (w : World) {b g n c : Nat} {ws : List Int} (hm : MemAt w b g n c ws) (root asid page fresh : Int) (h : ¬ HasP n root asid page fresh) :
    Calls Try.prog 42 #[.pointer (some ⟨b, 0, none⟩), .int .i64 root, .int .i64 asid, .int .i64 page, .int .i64 fresh] w fun e w' => Ext w w' ∧ e = .returned (.tuple #[.slice none 0 0, errW 1]) := by
  have HH := Lib.hid (huge_has_no w hm root asid page fresh h)
  clear hm h
  go_enter Try.func42, Try.ntmps42
  go_wp2_with fail
  refine HH.out.mono ?_
  rintro e w' ⟨rfl, rfl⟩
  go_wp2_with fail
  go_ret2
  exact ⟨(by repeat (first | exact Ext.refl _ | apply Ext.more | apply Ext.alloc | apply Ext.drew | apply Ext.drewN)), rfl⟩
theorem huge_Split_nil (w : World) (root asid page fresh : Int) :
    Calls Try.prog 42 #[.pointer none, .int .i64 root, .int .i64 asid, .int .i64 page, .int .i64 fresh] w fun e w' => Ext w w' ∧ e = .returned (.tuple #[.slice none 0 0, errW 1]) := by
  have HH : Calls Try.prog 88 #[.pointer none, .int .i64 root, .int .i64 asid, .int .i64 page, .int .i64 fresh] w fun e w' => e = .returned (.bool false) ∧ w' = w := by
    go_enter Try.func88, Try.ntmps88
    go_wp2_with fail
    go_ret
    exact ⟨rfl, rfl⟩
  go_enter Try.func42, Try.ntmps42
  go_wp2_with fail
  refine HH.mono ?_
  rintro e w' ⟨rfl, rfl⟩
  go_wp2_with fail
  go_ret2
  exact ⟨(by repeat (first | exact Ext.refl _ | apply Ext.more | apply Ext.alloc | apply Ext.drew | apply Ext.drewN)), rfl⟩

set_option maxRecDepth 100000 in
set_option maxHeartbeats 4000000 in
theorem huge_Split (w : World) {b g n c : Nat} {ws : List Int} (hm : MemAt w b g n c ws) (hw : WOk ws) (root asid page fresh : Int) (h : HasP n root asid page fresh) (r : Option Found) (hr : walkAt ws n page 4 0 root = r) :
    Calls Try.prog 42 #[.pointer (some ⟨b, 0, none⟩), .int .i64 root, .int .i64 asid, .int .i64 page, .int .i64 fresh] w fun e w' => Ext w w' ∧ StepsRet w.heap.size w' (splitR ws asid fresh r) e := by
  have HH := Lib.hid (huge_has_yes w hm root asid page fresh h)
  obtain ⟨r0, r1, p0, p1, f0, f1, a0, a1⟩ := h
  have HK := Lib.hid (extC (walk_Walk w hm hw root page r0 r1 p0 p1))
  rw [hr] at HK
  have HM := Lib.hid hm
  have HW := Lib.hid hw
  have HR := Lib.hid hr
  have hle := hm.le
  clear hm hw hr
  cases r with
  | none =>
    rw [walkV_n] at HK
    go_enter Try.func42, Try.ntmps42
    go_wp2_with fail
    refine HH.out.mono ?_
    rintro e w' ⟨rfl, hww⟩
    subst w'
    go_wp2_with fail
    refine HK.out.mono ?_
    rintro e w' ⟨⟨ex1, rfl⟩, rfl⟩
    go_wp2_with fail
    go_ret2
    exact ⟨(by repeat (first | exact Ext.refl _ | apply Ext.more | apply Ext.alloc | apply Ext.drew | apply Ext.drewN)), rfl⟩
  | some f =>
    by_cases hk : f.fKind = 2
    · obtain ⟨q1, q2, q3, q4, q5, q6, d, hd, hok, hdk⟩ := walk_block HR.out hk
      have HV := Lib.hid (show splitR ws asid fresh (some f) = .yes (splitS asid fresh f d) from by unfold splitR wordF; dsimp only; rw [if_pos hk, hd])
      have hfp : f.fFirst + 7 < 4096 ∧ 0 ≤ f.fFirst := by omega
      have hXb := HW.out.getD (f.fTable.toNat * 8 + f.fPlace.toNat)
      obtain ⟨F0, F1, F2, F3, F4, F5, F6, F7, F8, F9, F10⟩ := f
      dsimp only at hk q1 q2 q3 q4 q5 q6 hd hfp hXb
      subst hk q1
      rw [walkV_s] at HK
      obtain ⟨T, rfl⟩ := Int.eq_ofNat_of_zero_le q3
      obtain ⟨Pl, rfl⟩ := Int.eq_ofNat_of_zero_le q5
      have HL := Lib.hid (fun w (hm : MemAt w b g n c ws) => phys_Load_is w hm (T : Int) (Pl : Int) _ q3 q4 q5 q6 rfl)
      generalize hX : ws.getD ((T : Int).toNat * 8 + (Pl : Int).toNat) 0 = X at *
      have HD := Lib.hid (fun w => extC (pte_Decode w 2 X (by omega) (by omega) hXb.1 hXb.2))
      rw [hd] at HD
      have HE := Lib.hid (fun (i : Nat) (hi : i < 8) w => extC (pte_Encode_yes w 3 _ (okD_part hok hdk i hi)))
      have HT := Lib.hid (fun w => extC (pte_Encode_yes w 2 _ (okD_tab (level := 2) (by omega) (by omega) f0 (show fresh < 512 by omega))))
      obtain ⟨fo, hmod, hd0, hd1⟩ := okD_block hok hdk
      obtain ⟨d0, d1, d2, d3, d4, d5, d6⟩ := d
      dsimp only at hdk fo hmod hd0 hd1
      subst hdk fo
      obtain ⟨hf1, hf0⟩ := hfp
      clear hX hd hok hXb q2 hmod
      go_enter Try.func42, Try.ntmps42
      go_wp2_with fail
      refine HH.out.mono ?_
      rintro e w' ⟨rfl, hww⟩
      subst w'
      go_wp2_with fail
      refine HK.out.mono ?_
      rintro e w' ⟨⟨ex1, rfl⟩, rfl⟩
      go_wp2_with fail
      refine (HL.out _ (by repeat (first | exact HM.out | apply MemAt.more | apply MemAt.alloc | apply MemAt.drew | apply MemAt.drewN))).mono ?_
      rintro e w' ⟨rfl, hww⟩
      subst w'
      go_wp2_with fail
      refine (HD.out _).mono ?_
      rintro e w' ⟨⟨ex2, rfl⟩, rfl⟩
      go_wp2_with fail
      have hE1 : Ext w ((more ((more w ex1).alloc (.cells #[.int .i64 2, .int .i64 2, .int .i64 T, .int .i64 Pl, .int .i64 F4, .int .i64 F5, .int .i64 F6, .int .i64 F7, .bool F8, .bool F9, .bool F10] 80)) ex2).alloc (.cells #[.int .i64 3, .int .i64 d1, .bool d2, .bool d3, .bool d4, .bool false, .int .i64 d6] 107)) := (by repeat (first | exact Ext.refl _ | apply Ext.more | apply Ext.alloc | apply Ext.drew | apply Ext.drewN))
      have e2 : ((more ((more w ex1).alloc (.cells #[.int .i64 2, .int .i64 2, .int .i64 T, .int .i64 Pl, .int .i64 F4, .int .i64 F5, .int .i64 F6, .int .i64 F7, .bool F8, .bool F9, .bool F10] 80)) ex2).alloc (.cells #[.int .i64 3, .int .i64 d1, .bool d2, .bool d3, .bool d4, .bool false, .int .i64 d6] 107)).cell? ⟨(more w ex1).heap.size, 2, none⟩ = some (.int .i64 T) := by go_simp
      have e3 : ((more ((more w ex1).alloc (.cells #[.int .i64 2, .int .i64 2, .int .i64 T, .int .i64 Pl, .int .i64 F4, .int .i64 F5, .int .i64 F6, .int .i64 F7, .bool F8, .bool F9, .bool F10] 80)) ex2).alloc (.cells #[.int .i64 3, .int .i64 d1, .bool d2, .bool d3, .bool d4, .bool false, .int .i64 d6] 107)).cell? ⟨(more w ex1).heap.size, 3, none⟩ = some (.int .i64 Pl) := by go_simp
      have e6 : ((more ((more w ex1).alloc (.cells #[.int .i64 2, .int .i64 2, .int .i64 T, .int .i64 Pl, .int .i64 F4, .int .i64 F5, .int .i64 F6, .int .i64 F7, .bool F8, .bool F9, .bool F10] 80)) ex2).alloc (.cells #[.int .i64 3, .int .i64 d1, .bool d2, .bool d3, .bool d4, .bool false, .int .i64 d6] 107)).cell? ⟨(more w ex1).heap.size, 6, none⟩ = some (.int .i64 F6) := by go_simp
      have hb := cells7 (w := ((more ((more w ex1).alloc (.cells #[.int .i64 2, .int .i64 2, .int .i64 T, .int .i64 Pl, .int .i64 F4, .int .i64 F5, .int .i64 F6, .int .i64 F7, .bool F8, .bool F9, .bool F10] 80)) ex2).alloc (.cells #[.int .i64 3, .int .i64 d1, .bool d2, .bool d3, .bool d4, .bool false, .int .i64 d6] 107))) (heap_alloc_new _ _)
      have hs1 : ((more ((more w ex1).alloc (.cells #[.int .i64 2, .int .i64 2, .int .i64 T, .int .i64 Pl, .int .i64 F4, .int .i64 F5, .int .i64 F6, .int .i64 F7, .bool F8, .bool F9, .bool F10] 80)) ex2).alloc (.cells #[.int .i64 3, .int .i64 d1, .bool d2, .bool d3, .bool d4, .bool false, .int .i64 d6] 107)).heap.size = (more ((more w ex1).alloc (.cells #[.int .i64 2, .int .i64 2, .int .i64 T, .int .i64 Pl, .int .i64 F4, .int .i64 F5, .int .i64 F6, .int .i64 F7, .bool F8, .bool F9, .bool F10] 80)) ex2).heap.size + 1 := by simp
      have hl1 : (more w ex1).heap.size < ((more ((more w ex1).alloc (.cells #[.int .i64 2, .int .i64 2, .int .i64 T, .int .i64 Pl, .int .i64 F4, .int .i64 F5, .int .i64 F6, .int .i64 F7, .bool F8, .bool F9, .bool F10] 80)) ex2).alloc (.cells #[.int .i64 3, .int .i64 d1, .bool d2, .bool d3, .bool d4, .bool false, .int .i64 d6] 107)).heap.size := by simp [size_more]; omega
      generalize ((more ((more w ex1).alloc (.cells #[.int .i64 2, .int .i64 2, .int .i64 T, .int .i64 Pl, .int .i64 F4, .int .i64 F5, .int .i64 F6, .int .i64 F7, .bool F8, .bool F9, .bool F10] 80)) ex2).alloc (.cells #[.int .i64 3, .int .i64 d1, .bool d2, .bool d3, .bool d4, .bool false, .int .i64 d6] 107)) = W1 at *
      generalize (more ((more w ex1).alloc (.cells #[.int .i64 2, .int .i64 2, .int .i64 T, .int .i64 Pl, .int .i64 F4, .int .i64 F5, .int .i64 F6, .int .i64 F7, .bool F8, .bool F9, .bool F10] 80)) ex2).heap.size = db at *
      generalize (more w ex1).heap.size = fb at *
      have hl2 : db < W1.heap.size := by omega
      have HE1 := Lib.hid hE1
      have HS1 := Lib.hid hs1
      obtain ⟨b0, b1, b2, b3, b4, b5, b6, bf⟩ := hb
      clear hE1 hs1
      go_loopw [16, 70] (fun o i wr => ∃ q : Nat, q ≤ 8 ∧ i = .int .i64 q ∧ Ext W1 wr ∧ Hid (wr.ownsRow W1.heap.size 73 10 o (1 + q) ((clearS fresh).cells ++ CS (partsN asid fresh F6 ⟨2, d1, d2, d3, d4, false, d6⟩ q)))) (fun _ i _ => 8 - (intOf i).toNat)
      case atStart => exact ⟨0, by omega, rfl, (by repeat (first | exact Ext.refl _ | apply Ext.more | apply Ext.alloc | apply Ext.drew | apply Ext.drewN)), by show World.ownsRow _ _ _ _ _ _ _; exact own_lit' HS1.out.symm (Nat.le_refl _) rfl (by decide) rfl (by simp [CS, partsN, clearS, Step.cells])⟩
      case round =>
        obtain ⟨q, hq, rfl, ⟨x, rfl⟩, HO⟩ := hrel
        by_cases hlt : q < 8
        · have E := Lib.hid (show CS (partsN asid fresh F6 ⟨2, d1, d2, d3, d4, false, d6⟩ (q + 1)) = CS (partsN asid fresh F6 ⟨2, d1, d2, d3, d4, false, d6⟩ q) ++ (wr0 asid 3 fresh q (F6 + q) (encW ⟨3, d1 + q, d2, d3, d4, false, d6⟩)).cells from by rw [partsN_succ, CS_snoc]; rfl)
          have HEq := Lib.hid (fun w => HE.out q hlt w)
          generalize hEW : encW ⟨3, d1 + q, d2, d3, d4, false, d6⟩ = EW at *
          have hEW' : encW (partD ⟨2, d1, d2, d3, d4, false, d6⟩ q) = EW := hEW
          rw [hEW'] at HEq
          clear hEW hEW'
          have HEq' := Lib.hid (fun w => (show Calls Try.prog 91 #[.int .i64 3, .agg #[.int .i64 3, .int .i64 (d1 + q), .bool d2, .bool d3, .bool d4, .bool false, .int .i64 d6]] w _ from HEq.out w))
          clear HEq
          go_wp2_with fail
          refine (HEq'.out _).mono ?_
          rintro e w' ⟨⟨ex3, rfl⟩, rfl⟩
          go_wp2_with ((at_builtin; refine wpList_append_new W1 el_Step rfl _ _ rfl u16 (1 + q) _ rfl (by repeat (first | exact HO.out | apply own_more | apply own_alloc | apply own_drew | apply own_drewN)) (by repeat (first | exact Ext.refl _ | apply Ext.more | apply Ext.alloc | apply Ext.drew | apply Ext.drewN)) _ _ 1 _ rfl (by simp) rfl rfl (by omega) ?_); intro v' x' HO' keep; clear keep)
          go_roundw
          case rel => exact ⟨q + 1, by omega, by go_num, (by repeat (first | exact Ext.refl _ | apply Ext.more | apply Ext.alloc | apply Ext.drew | apply Ext.drewN)), by
            show World.ownsRow _ _ _ _ _ _ _
            rw [E.out, ← List.append_assoc]
            exact HO'.out⟩
          case measure => simp [intOf]; omega
        · obtain rfl : q = 8 := by omega
          have HSw := Lib.hid (fun w => huge_swap w asid T Pl F6 (fresh * 4096 + 3) hf0 hf1)
          go_wp2_with fail
          refine (HT.out _).mono ?_
          rintro e w' ⟨⟨ex3, rfl⟩, rfl⟩
          rw [show encW (tableD fresh) = fresh * 4096 + 3 from rfl]
          go_wp2_with fail
          refine (HSw.out _).mono ?_
          rintro e w' ⟨⟨ex4, rfl⟩, a2, c2, rfl, hO2⟩
          have HO2 := Lib.hid hO2
          clear hO2
          go_wp2_with (at_builtin; refine wpList_append_row W1 el_Step rfl _ _ rfl u16 (1 + 8) _ rfl (by repeat (first | exact HO.out | apply own_more | apply own_alloc | apply own_drew | apply own_drewN)) (by repeat (first | exact Ext.refl _ | apply Ext.more | apply Ext.alloc | apply Ext.drew | apply Ext.drewN)) _ _ 10 _ rfl (by repeat (first | exact HO2.out | apply own_more | apply own_alloc | apply own_drew | apply own_drewN)) (by omega) (CS_one _) (by omega) ?_; intro v1 x1' HO1 keep; clear keep)
          go_ret2
          refine ⟨(by repeat (first | exact HE1.out | apply Ext.more | apply Ext.alloc | apply Ext.drew | apply Ext.drewN)), ?_⟩
          rw [HV.out]
          exact stepsRet_yes rfl HO1.out (Ext.size HE1.out) rfl (by simp [splitS, CS])
    · have HV := Lib.hid (show splitR ws asid fresh (some f) = .no 7 from by unfold splitR; dsimp only; rw [if_neg hk])
      obtain ⟨F0, F1, F2, F3, F4, F5, F6, F7, F8, F9, F10⟩ := f
      dsimp only at hk
      have z2 : (F0 != 2) = true := by simpa using hk
      rw [walkV_s] at HK
      clear HR hk
      go_enter Try.func42, Try.ntmps42
      go_wp2_with fail
      refine HH.out.mono ?_
      rintro e w' ⟨rfl, hww⟩
      subst w'
      go_wp2_with fail
      refine HK.out.mono ?_
      rintro e w' ⟨⟨ex1, rfl⟩, rfl⟩
      go_wp2_with fail
      go_ret2
      rw [HV.out]
      exact ⟨(by repeat (first | exact Ext.refl _ | apply Ext.more | apply Ext.alloc | apply Ext.drew | apply Ext.drewN)), rfl⟩

/-- What the document's Split tells. -/
def RStepsRet (B : Nat) (w' : World) (r : StepsR) (e : Ending) : Prop := match r with
  | .yes s => ∃ a cap, e = .returned (.tuple #[.slice a s.length cap, .int .i64 0]) ∧ OwnS w' B (.slice a s.length cap) s
  | .no k => e = .returned (.tuple #[.slice none 0 0, .int .i64 k])
theorem rstepsRet_yes {B B' n : Nat} {w' : World} {r : StepsR} {s : List Step} {v : Value} {xs : List Value} (hr : r = .yes s) (h : w'.ownsRow B' 73 10 v n xs) (hb : B ≤ B') (hn : n = s.length) (hx : xs = (s.map Step.cells).flatten) : RStepsRet B w' r (.returned (.tuple #[v, .int .i64 0])) := by
  obtain ⟨a, cap, rfl⟩ := own_form h
  subst hn hx hr
  exact ⟨a, cap, rfl, own_low h hb⟩

end Go.Proofs.Ytapeoeakiphfpaa

/- Plain laws behind HugeParts: what walks find behind the steps that part a block. -/
namespace Go.Proofs.Ytapeoeakiphfpaa
open Go.RowKit
set_option linter.unusedVariables false
set_option linter.unusedSimpArgs false

/-- A walk comes by the table where it ends. -/
theorem walk_sees {ws : List Int} {n p : Int} : ∀ (k : Nat) (lv tb : Int) (f : Found), walkAt ws n p k lv tb = some f → Sees ws n p k lv tb f.fLevel f.fTable := by
  intro k
  induction k with
  | zero => intro lv tb f h; simp [walkAt] at h
  | succ k ih =>
    intro lv tb f h
    by_cases ht : 0 ≤ tb ∧ tb < n
    · rw [walk_step ht rfl] at h
      refine sees_succ.2 ⟨ht, ?_⟩
      split at h
      · rename_i hk
        exact .inr ⟨hk, ih _ _ _ h⟩
      · left
        rw [← Option.some.inj h]
        exact ⟨(foundD_parts _ _ _ _ _).1, (foundD_parts _ _ _ _ _).2.1⟩
    · unfold walkAt at h
      rw [if_neg ht] at h
      cases h
/-- Where all tables are there, each walk ends. -/
theorem tabs_walk {ws : List Int} {n : Nat} {page : Int} : ∀ (k : Nat) (lv tb : Int) (r : List Int), 0 ≤ lv → lv + (k + 1) = 4 → tabsAt ws n (k + 1) lv tb = some r → ∃ z, walkAt ws n page (k + 1) lv tb = some z := by
  intro k
  induction k with
  | zero =>
    intro lv tb r l0 l1 h
    obtain ⟨ht, f, rfl, hf⟩ := tabs_parts h
    rw [walk_step ht rfl]
    split
    · rename_i h1
      have := hf _ (placeN_nat lv page) h1
      simp [tabsAt] at this
    · exact ⟨_, rfl⟩
  | succ k ih =>
    intro lv tb r l0 l1 h
    obtain ⟨ht, f, rfl, hf⟩ := tabs_parts h
    rw [walk_step ht rfl]
    split
    · rename_i h1
      exact ih _ _ _ (by omega) (by omega) (hf _ (placeN_nat lv page) h1)
    · exact ⟨_, rfl⟩
theorem place0 (p : Int) : placeN 0 p = p / 512 % 8 := rfl
theorem place1 (p : Int) : placeN 1 p = p / 64 % 8 := rfl
theorem place2 (p : Int) : placeN 2 p = p / 8 % 8 := rfl
theorem place3 (p : Int) : placeN 3 p = p / 1 % 8 := rfl
/-- Pages whose places are the same down to a level. -/
theorem same_block {p q : Int} (p0 : 0 ≤ p) (p1 : p < 4096) (q0 : 0 ≤ q) (q1 : q < 4096) : (∀ m : Int, 0 ≤ m → m ≤ 2 → placeN m p = placeN m q) ↔ p / 8 = q / 8 := by
  constructor
  · intro h
    have h0 := h 0 (by omega) (by omega)
    have h1 := h 1 (by omega) (by omega)
    have h2 := h 2 (by omega) (by omega)
    rw [place0, place0] at h0
    rw [place1, place1] at h1
    rw [place2, place2] at h2
    omega
  · intro h m m0 m2
    have hm : m = 0 ∨ m = 1 ∨ m = 2 := by omega
    rcases hm with rfl | rfl | rfl
    · rw [place0, place0]; omega
    · rw [place1, place1]; omega
    · rw [place2, place2]; omega

end Go.Proofs.Ytapeoeakiphfpaa

/- Maps keyed by a struct of two numbers: look-up, store, delete, by the list of entries. -/
namespace Go.Proofs.Ytapeoeakiphfpaa
open Go.RowKit
open Go.ChangeMaps (setBlock)
set_option linter.unusedVariables false
set_option linter.unusedSimpArgs false

/-- A struct of two numbers, as a key. -/
abbrev key2 (a b : Int) : Value := .agg #[.int .i64 a, .int .i64 b]
/-- What a map keyed by such structs wants of its key's type. -/
structure Key2 (P : Program) (k : TypeId) : Prop where
  check : ∀ (w : World) (em : Bool) (a b : Int), (Instr.checkKey em 10000 k (key2 a b)).run P w = .ok () w
  eq : ∀ (w : World) (a b c d : Int), (Op.equal k (key2 a b) (key2 c d)).run P w = .ok (a == c && b == d) w
  und : ∃ fs, P.underlying k = some (.struct fs)
theorem key2_stays {P : Program} (w : World) (a b : Int) : (Instr.keyThatStays (key2 a b) (key2 a b)).run P w = .ok (key2 a b) w := by
  have h : Instr.sameBits 10000 (key2 a b) (key2 a b) = true := by
    show Instr.sameBits (9999 + 1) (key2 a b) (key2 a b) = true
    unfold Instr.sameBits
    simp [Instr.sameBits]
  unfold Instr.keyThatStays
  rw [if_pos h]
  rfl
/-- An entry of such a map. -/
structure KE where
  a : Int
  b : Int
  val : Value
  born : Nat
def KE.ent (e : KE) : MapEntry := ⟨key2 e.a e.b, e.val, e.born⟩
def KE.is (a b : Int) (e : KE) : Bool := a == e.a && b == e.b
def entsK (l : List KE) : Array MapEntry := (l.map KE.ent).toArray
/-- Where a key stands among entries. -/
def findK (a b : Int) (l : List KE) : Option Nat := l.findIdx? (KE.is a b)
def getK (a b : Int) (l : List KE) : Option Value := (findK a b l).bind fun j => (l[j]?).map KE.val
def setK (a b : Int) (v : Value) (clock : Nat) (l : List KE) : List KE := match findK a b l with
  | some j => l.modify j fun e => { e with val := v }
  | none => l ++ [⟨a, b, v, clock⟩]
def clockK (a b : Int) (clock : Nat) (l : List KE) : Nat := match findK a b l with
  | some _ => clock
  | none => clock + 1
def delK (a b : Int) (l : List KE) : List KE := match findK a b l with
  | some j => l.eraseIdx j
  | none => l
theorem findK_cons (a b : Int) (e : KE) (l : List KE) : findK a b (e :: l) = if KE.is a b e then some 0 else (findK a b l).map (· + 1) := by
  unfold findK; rw [List.findIdx?_cons]
theorem findK_lt {a b : Int} {l : List KE} {j : Nat} (h : findK a b l = some j) : ∃ (hj : j < l.length), l[j].a = a ∧ l[j].b = b := by
  obtain ⟨hj, h1, _⟩ := List.findIdx?_eq_some_iff_getElem.1 h
  refine ⟨hj, ?_⟩
  unfold KE.is at h1
  simp at h1
  exact ⟨h1.1.symm, h1.2.symm⟩
section
variable {P : Program} {k : TypeId}
theorem find_asking (K : Key2 P k) (w : World) (a b : Int) : ∀ (l : List KE) (i : Nat), (Instr.findAsking k (key2 a b) (l.map KE.ent) i).run P w = .ok ((findK a b l).bind fun j => (l[j]?).map fun e => (i + j, e.val)) w := by
  intro l
  induction l with
  | nil => intro i; rfl
  | cons e l ih =>
    intro i
    rw [List.map_cons]
    unfold Instr.findAsking
    rw [Sem.run_bind, show e.ent.key = key2 e.a e.b from rfl, K.eq w a b e.a e.b, Result.andThen_ok, findK_cons]
    unfold KE.is
    cases hb : (a == e.a && b == e.b) with
    | true => rfl
    | false =>
      simp only [Bool.false_eq_true, if_false]
      rw [ih (i + 1)]
      cases findK a b l with
      | none => rfl
      | some j => simp [Nat.add_assoc, Nat.add_comm 1 j]
theorem find_key (K : Key2 P k) (w : World) (a b : Int) (l : List KE) : (Instr.findKey k (key2 a b) (entsK l).toList).run P w = .ok ((findK a b l).bind fun j => (l[j]?).map fun e => (j, e.val)) w := by
  obtain ⟨fs, hu⟩ := K.und
  unfold Instr.findKey entsK
  rw [Sem.run_bind, run_underlying hu, Result.andThen_ok]
  cases l with
  | nil => rfl
  | cons e l =>
    have hn : Instr.findNow (.struct fs) (key2 a b) ((e :: l).map KE.ent) 0 = none := by
      rw [List.map_cons]; unfold Instr.findNow Instr.sameNow; rfl
    show ((match Instr.findNow (.struct fs) (key2 a b) ((e :: l).map KE.ent) 0 with
      | some r => pure r
      | none => Instr.findAsking k (key2 a b) ((e :: l).map KE.ent)) : Sem _).run P w = _
    rw [hn]
    have := find_asking K w a b (e :: l) 0
    simp only [Nat.zero_add] at this
    exact this
variable {t e : TypeId} (w : World) (mb : Nat) (l : List KE) (clock : Nat)
theorem run_set {o : Obj} (hm : w.heap[mb]? = some (.map (entsK l) clock)) : (setObj mb o).run P w = .ok () (setBlock w mb o) := by simp [setObj, Sem.run, hm, setBlock]
/-- m[key] = value. -/
theorem run_update2 (K : Key2 P k) (ht : P.underlying t = some (.map k e)) (hm : w.heap[mb]? = some (.map (entsK l) clock)) (a b : Int) (v : Value) :
    (Instr.mapUpdate t (.map (some mb)) (key2 a b) v).run P w = .ok () (setBlock w mb (.map (entsK (setK a b v clock l)) (clockK a b clock l))) := by
  have hset : ∀ o : Obj, (setObj mb o).run P w = .ok () (setBlock w mb o) := fun o => run_set w mb l clock hm
  unfold Instr.mapUpdate
  simp only [Sem.run_bind, run_underlying ht, Result.andThen_ok]
  simp only [getObj, Sem.run_bind, Sem.run, hm, Result.andThen_ok, K.check]
  rw [find_key K w a b l]
  unfold setK clockK
  cases hj : findK a b l with
  | none =>
    simp only [Option.bind_none, Result.andThen_ok]
    rw [hset]
    congr 3
    simp [entsK, KE.ent]
  | some j =>
    obtain ⟨hlt, h1, h2⟩ := findK_lt hj
    have hc : l[j]? = some l[j] := List.getElem?_eq_getElem hlt
    simp only [Option.bind_some, hc, Option.map_some, Result.andThen_ok, Sem.run_bind]
    have hc' : (entsK l)[j]? = some l[j].ent := by simp [entsK, hc]
    have hkey : (((entsK l)[j]?).map (·.key)).getD (key2 a b) = key2 a b := by rw [hc']; show key2 l[j].a l[j].b = _; rw [h1, h2]
    rw [hkey, key2_stays, Result.andThen_ok, hset]
    congr 3
    apply Array.ext'
    unfold entsK
    rw [Array.toList_modify]
    apply List.ext_getElem?
    intro i
    simp only [List.getElem?_modify, List.getElem?_map]
    by_cases hi : j = i
    · subst hi
      simp [hc, KE.ent, h1, h2]
    · simp [hi]
/-- delete(m, key). -/
theorem run_delete2 (K : Key2 P k) (ht : P.underlying t = some (.map k e)) (hm : w.heap[mb]? = some (.map (entsK l) clock)) (a b : Int) (ty : TypeId) :
    (Builtin.delete_ #[t, k] ty #[.map (some mb), key2 a b]).run P w = .ok (.tuple #[]) (setBlock w mb (.map (entsK (delK a b l)) clock)) := by
  have hset : ∀ o : Obj, (setObj mb o).run P w = .ok () (setBlock w mb o) := fun o => run_set w mb l clock hm
  unfold Builtin.delete_
  simp only [List.getElem?_toArray, List.getElem?_cons_zero, List.getElem?_cons_succ, Sem.run_bind, run_underlying ht, Result.andThen_ok]
  simp only [getObj, Sem.run_bind, Sem.run, hm, Result.andThen_ok, K.check]
  rw [find_key K w a b l]
  unfold delK
  cases hj : findK a b l with
  | none =>
    simp only [Option.bind_none, Result.andThen_ok, Sem.run_bind]
    rw [hset]
    rfl
  | some j =>
    obtain ⟨hlt, h1, h2⟩ := findK_lt hj
    have hc : l[j]? = some l[j] := List.getElem?_eq_getElem hlt
    simp only [Option.bind_some, hc, Option.map_some, Result.andThen_ok, Sem.run_bind]
    rw [hset]
    simp [entsK, Result.andThen, Array.eraseIdxIfInBounds, hlt, Go.ChangeMaps.map_eraseIdx]
/-- v, ok := m[key]. -/
theorem run_lookup2 (K : Key2 P k) (ht : P.underlying t = some (.map k e)) (hm : w.heap[mb]? = some (.map (entsK l) clock)) (z : Value) (hz : (zeroValue e).run P w = .ok z w) (a b : Int) :
    (Instr.lookup t (.map (some mb)) (key2 a b) true).run P w = .ok (.tuple #[(getK a b l).getD z, .bool (getK a b l).isSome]) w := by
  unfold Instr.lookup
  simp only [Sem.run_bind, run_underlying ht, Result.andThen_ok]
  simp only [getObj, Sem.run_bind, Sem.run, hm, Result.andThen_ok, K.check]
  rw [show (Sem.run P (pure (entsK l) : Sem (Array MapEntry)) w) = .ok (entsK l) w from rfl, Result.andThen_ok, find_key K w a b l]
  unfold getK
  cases hj : findK a b l with
  | none =>
    simp only [Option.bind_none, Result.andThen_ok, hz]
    simp [Result.andThen, hz]
  | some j =>
    obtain ⟨hlt, h1, h2⟩ := findK_lt hj
    have hc : l[j]? = some l[j] := List.getElem?_eq_getElem hlt
    simp [hc, Result.andThen]
end

end Go.Proofs.Ytapeoeakiphfpaa
