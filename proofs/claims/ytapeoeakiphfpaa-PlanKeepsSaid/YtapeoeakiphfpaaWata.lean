import Derived.Test.YtapeoeakiphfpaaBSafeSafl
import Derived.Test.YtapeoeakiphfpaaBCopyLawaLawb
/- The contract of paviorlaw16.watched. -/
namespace Go.Proofs.Ytapeoeakiphfpaa
open Go.RowKit
set_option linter.unusedVariables false
set_option linter.unusedSimpArgs false
attribute [local go_sem] setCell_drewN alloc_drewN lt_moreE le_moreE lt_moreK le_moreK cell_more frozen_more set_more drew_more drewN_more

theorem own_one (w : World) (s : Step) : OwnS (w.alloc (.cells s.cells.toArray 73)) w.heap.size (.slice (some ⟨w.heap.size, 0, none⟩) [s].length 1) [s] :=
  own_lit' rfl (Nat.le_refl _) rfl (by simp) rfl rfl
/-- One step is done. -/
theorem ref12_Do1 (W W5 : World) (hE : Ext W W5) {h hc n : Nat} {gb gc : Nat → Nat} {us : List Int} (hr : RefAt W5 h hc n gb gc us) (hh : W.heap.size ≤ h) (hgb : ∀ i, i < n → W.heap.size ≤ gb i) (s : Step) :
    Calls Try.prog 37 #[.slice (some ⟨h, 0, none⟩) n hc, .slice (some ⟨W5.heap.size, 0, none⟩) 1 1] (W5.alloc (.cells #[.int .i64 s.fKind, .int .i64 s.fAsid, .int .i64 s.fLevel, .int .i64 s.fTable, .int .i64 s.fPlace, .int .i64 s.fFirst, .int .u64 s.fValue, .int .i64 s.fTo, .int .i64 s.fFrom, .int .i64 s.fI] 73))
      fun e w' => e = .returned (.tuple #[]) ∧ Ext W w' ∧ KeepW W5 w' ∧ ∃ gb gc, RefAt w' h hc n gb gc (stepW n us s) ∧ ∀ i, i < n → W.heap.size ≤ gb i := by
  have h1 : OwnS (W5.alloc (.cells #[.int .i64 s.fKind, .int .i64 s.fAsid, .int .i64 s.fLevel, .int .i64 s.fTable, .int .i64 s.fPlace, .int .i64 s.fFirst, .int .u64 s.fValue, .int .i64 s.fTo, .int .i64 s.fFrom, .int .i64 s.fI] 73)) W5.heap.size (.slice (some ⟨W5.heap.size, 0, none⟩) [s].length 1) [s] := own_one W5 s
  have h2 := ref12_Do W _ (hE.alloc _) (hr.alloc _) hh hgb h1 (by simp)
  exact h2.mono fun e w' ⟨h3, h4, h5, gb', gc', h6, h7⟩ => ⟨h3, h4, (KeepW.ext ((Ext.refl W5).alloc _)).trans h5, gb', gc', h6, h7⟩

set_option maxRecDepth 100000 in
set_option maxHeartbeats 8000000 in
theorem law16_watched (w : World) {h hc n : Nat} {gb0 gc0 : Nat → Nat} {ws : List Int} (hr : RefAt w h hc n gb0 gc0 ws) (hw : WOk ws) (n1 : 1 ≤ n) (n2 : n ≤ 512) {B cap : Nat} {a : Option Addr} {l : List Step} (HO0 : OwnS w B (.slice a l.length cap) l) (hl : l.length ≤ 100000) (hs : Safe n ws [] l) :
    Calls Try.prog 44 #[.slice (some ⟨h, 0, none⟩) n hc, .slice a l.length cap] w fun e w' => Ext w w' ∧ e = .returned (.bool true) := by
  have HR := Lib.hid hr
  have HWs := Lib.hid hw
  have HS := Lib.hid hs
  have HO := Lib.hid HO0
  have hcap := own_cap HO0
  have hcap1 := hcap.2.1
  clear hr hw hs HO0 hcap
  go_enter Try.func44, Try.ntmps44
  go_wp2_with fail
  refine (watch_New w w (Ext.refl w)).mono ?_
  rintro e w1 ⟨hE1, _, wb, mb, rfl, hw1⟩
  have HE1 := Lib.hid hE1
  have HW1 := Lib.hid hw1
  clear hw1 hE1
  go_wp2_with fail
  refine (ref12_Copy _ (HR.out.kept0 HE1.out.grow) n1 n2).mono ?_
  rintro e w2 ⟨hE2, mh, mc, gb, gc, rfl, hr2, hmh, hgb⟩
  have HW2 := Lib.hid (HW1.out.ext hE2)
  have HE2 := Lib.hid (HE1.out.trans hE2)
  have HR2 := Lib.hid hr2
  have hmw : w.heap.size ≤ mh := Nat.le_trans HE1.out.size hmh
  have HGB := Lib.hid (show ∀ i, i < n → w.heap.size ≤ gb i from fun i hi => Nat.le_trans HE1.out.size (hgb i hi))
  clear hE2 hr2 hmh hgb HW1 HE1
  go_wp2_with fail
  generalize hBw : w.heap.size = Bw at *
  have HBw := Lib.hid hBw
  clear hBw
  go_loopw [7, 8, 9] (fun i _ _ wr => ∃ k : Nat, k ≤ l.length ∧ i = .int .i64 k ∧ Ext w wr ∧ ∃ (gs : List Gap) (clock : Nat) (vs : List Int) (gb gc : Nat → Nat), Hid (WatchAt wr Bw wb mb gs clock false) ∧ Hid (Safe n vs (gs.map Gap.gc) (l.drop k)) ∧ Hid (RefAt wr mh mc n gb gc vs) ∧ Hid (∀ i, i < n → Bw ≤ gb i) ∧ WOk vs) (fun i _ _ _ => l.length - (intOf i).toNat)
  case atStart => exact ⟨0, Nat.zero_le _, rfl, HE2.out, [], 0, ws, gb, gc, HW2, HS, HR2, HGB, HWs.out⟩
  case round =>
    obtain ⟨k, hk, rfl, hEr, gs, clock, vs, gb, gc, HWr, HSr, HRr, HGB, hwv⟩ := hrel
    have HEr := Lib.hid hEr
    have HWv := Lib.hid hwv
    clear hEr hwv HW2 HR2 HE2
    by_cases hlt : k < l.length
    · have hz : l[k]? = some l[k] := List.getElem?_eq_getElem hlt
      have hdr := HSr.out
      rw [List.drop_eq_getElem_cons hlt] at hdr
      generalize l[k] = s at *
      have HSd := Lib.hid hdr
      have HOr := own_ext HO.out HEr.out
      obtain ⟨g, rfl, _, hgs, _, hcl, _⟩ := own_at HOr (by omega)
      obtain ⟨x0, x1, x2, x3, x4, x5, x6, x7, x8, x9⟩ := step_at hcl k s hz
      obtain ⟨kd, asd, lv, tb, pl, fi, va, to', fr', ii⟩ := s
      dsimp only at *
      have HB4 := Lib.hid (heap_alloc_new wr (.cells #[.int .i64 kd, .int .i64 asd, .int .i64 lv, .int .i64 tb, .int .i64 pl, .int .i64 fi, .int .u64 va, .int .i64 to', .int .i64 fr', .int .i64 ii] 73))
      have HW4 := Lib.hid (HWr.out.ext ((Ext.refl wr).alloc (.cells #[.int .i64 kd, .int .i64 asd, .int .i64 lv, .int .i64 tb, .int .i64 pl, .int .i64 fi, .int .u64 va, .int .i64 to', .int .i64 fr', .int .i64 ii] 73)))
      have HE4 := Lib.hid (HEr.out.alloc (.cells #[.int .i64 kd, .int .i64 asd, .int .i64 lv, .int .i64 tb, .int .i64 pl, .int .i64 fi, .int .u64 va, .int .i64 to', .int .i64 fr', .int .i64 ii] 73))
      have HR4 := Lib.hid (HRr.out.alloc (.cells #[.int .i64 kd, .int .i64 asd, .int .i64 lv, .int .i64 tb, .int .i64 pl, .int .i64 fi, .int .u64 va, .int .i64 to', .int .i64 fr', .int .i64 ii] 73))
      have hB4 : Bw ≤ (wr.alloc (.cells #[.int .i64 kd, .int .i64 asd, .int .i64 lv, .int .i64 tb, .int .i64 pl, .int .i64 fi, .int .u64 va, .int .i64 to', .int .i64 fr', .int .i64 ii] 73)).heap.size := by rw [← HBw.out]; exact HE4.out.size
      have hBWw : w.heap.size ≤ Bw := by rw [HBw.out]; exact Nat.le_refl _
      clear hcl hz hdr HOr HWr HEr HRr HSr
      rcases safe_cases HSd.out with ⟨hk1, hso, htn, L, hL, hm, h⟩ | ⟨hk1, p0, p1, h⟩ | ⟨hk1, hso, h⟩ | ⟨hk1, h⟩
      · dsimp only at hk1 hL htn hm h
        subst hk1 hL
        rcases h with ⟨ho, hn, hG, h⟩ | ⟨ho, hn, hG, h⟩
        · have HSn := Lib.hid h
          clear h HSd
          have HHas := Lib.hid (hasB_of (n := n) ⟨hm.t0, htn, hm.p0, hm.p1⟩)
          have hm' := hm
          obtain ⟨T, rfl⟩ := Int.eq_ofNat_of_zero_le hm.t0
          obtain ⟨P, rfl⟩ := Int.eq_ofNat_of_zero_le hm.p0
          have hTn : T < n := by omega
          have hP8 : P < 8 := by have := hm.p1; omega
          have hP8' : (P : Int) < 8 := by omega
          have hT8' : (T : Int) < n := by omega
          rw [Int.toNat_natCast, Int.toNat_natCast] at ho
          have HMay := Lib.hid hm
          have HO1 := Lib.hid ho
          have HN1 := Lib.hid hn
          have HG1 := Lib.hid hG
          have hold := HWv.out.getD (T * 8 + P)
          have HOld := Lib.hid hold
          have HSo := Lib.hid hso
          clear hm hm' ho hn hG hold
          go_wp2_with (go_at_call 21; refine (ref03_HasB _ _ _ _ _ _ _ HHas.out).mono ?_; rintro e w' ⟨rfl, hww⟩; rw [hww]; clear hww w')
          obtain ⟨c0, c1, c2, c3, c4, c5, c6, c7, c8, c9, cf⟩ := cells10 HB4.out
          have y0 := HR4.out.hcell T hTn
          have y1 := HR4.out.cell T P hTn hP8
          have hccT := HR4.out.cc T hTn
          have hncT := HR4.out.nc
          generalize (wr.alloc (.cells #[.int .i64 1, .int .i64 asd, .int .i64 L, .int .i64 T, .int .i64 P, .int .i64 fi, .int .u64 va, .int .i64 to', .int .i64 fr', .int .i64 ii] 73)) = W4 at *
          generalize wr.heap.size = xb at *
          generalize hX : vs.getD (T * 8 + P) 0 = X at *
          refine wp_region_still_tail 22 (by kernel_rfl) (by kernel_rfl) ?_
          simp only [List.take_succ_cons, List.take_zero, List.drop_succ_cons, List.drop_zero]
          repeat still_step
          refine wpStill_nil ?_
          go_wp2_with fail
          clear y0 y1 c0 c1 c2 c3 c4 c5 c6 c7 c8 c9 cf
          refine (watch_close w _ HE4.out.drew (HW4.out.ext ((Ext.refl W4).drew)) hBWw hB4 HMay.out X va HOld.out.1 HOld.out.2 HSo.out.1 HSo.out.2 HO1.out HN1.out (fun g hg => HG1.out g.gc (List.mem_map_of_mem hg))).mono ?_
          rintro e W5 ⟨rfl, hE5, hK5, tb5, bo5, hW5⟩
          have HSf := Lib.hid (show Hid (Safe n (stepW n vs ⟨1, asd, L, T, P, fi, va, to', fr', ii⟩) ((gs ++ [(⟨(T : Int), (P : Int), asd, L, fi, List.replicate (spanL L).toNat false, X, tb5, bo5⟩ : Gap)]).map Gap.gc) (l.drop (k + 1))) from by rw [List.map_append]; exact HSn.out)
          have HW5 := Lib.hid hW5
          have HE5 := Lib.hid hE5
          have HR5 := Lib.hid (RefAt.keepG (by repeat (first | exact HR4.out | apply RefAt.more | apply RefAt.alloc | apply RefAt.drew | apply RefAt.drewN)) hK5)
          have HB5 := Lib.hid (hK5 _ _ (box_drew HB4.out) (notG_of (by decide) (by decide)))
          have hso := HSo.out
          clear hW5 hE5 hK5 HW4 HE4 HR4 HB4
          obtain ⟨c0, c1, c2, c3, c4, c5, c6, c7, c8, c9, cf⟩ := cells10 HB5.out
          go_wp2_with fail
          have HDo := ref12_Do1 w W5 HE5.out HR5.out (by rw [HBw.out]; exact hmw) (fun i hi => by rw [HBw.out]; exact HGB.out i hi) ⟨1, asd, L, T, P, fi, va, to', fr', ii⟩
          dsimp only at HDo
          with_reducible refine HDo.mono ?_
          clear HDo
          rintro e w9 ⟨rfl, hE9, hK9, gb9, gc9, hr9, hgb9⟩
          have HW9 := Lib.hid (HW5.out.keepW hK9)
          have HE9 := Lib.hid hE9
          have HR9 := Lib.hid (show RefAt w9 mh mc n gb9 gc9 (stepW n vs ⟨1, asd, L, T, P, fi, va, to', fr', ii⟩) from hr9)
          have HGB9 := Lib.hid (show ∀ i, i < n → Bw ≤ gb9 i from fun i hi => by rw [← HBw.out]; exact hgb9 i hi)
          clear hE9 hK9 hr9 hgb9
          go_wp2_with fail
          go_roundw
          case rel => exact ⟨k + 1, by omega, by go_num, HE9.out, _, _, _, _, _, HW9, HSf.out, HR9, HGB9, WOk_stepW HWv.out hso⟩
          case measure => simp [intOf]; omega
        · have HSn := Lib.hid h
          clear h HSd
          have HHas := Lib.hid (hasB_of (n := n) ⟨hm.t0, htn, hm.p0, hm.p1⟩)
          have hm' := hm
          obtain ⟨T, rfl⟩ := Int.eq_ofNat_of_zero_le hm.t0
          obtain ⟨P, rfl⟩ := Int.eq_ofNat_of_zero_le hm.p0
          have hTn : T < n := by omega
          have hP8 : P < 8 := by have := hm.p1; omega
          have hP8' : (P : Int) < 8 := by omega
          have hT8' : (T : Int) < n := by omega
          rw [Int.toNat_natCast, Int.toNat_natCast] at ho
          have HMay := Lib.hid hm
          have HO1 := Lib.hid ho
          have HN1 := Lib.hid hn
          have HG1 := Lib.hid hG
          have hold := HWv.out.getD (T * 8 + P)
          have HOld := Lib.hid hold
          have HSo := Lib.hid hso
          clear hm hm' ho hn hG hold
          go_wp2_with (go_at_call 21; refine (ref03_HasB _ _ _ _ _ _ _ HHas.out).mono ?_; rintro e w' ⟨rfl, hww⟩; rw [hww]; clear hww w')
          obtain ⟨c0, c1, c2, c3, c4, c5, c6, c7, c8, c9, cf⟩ := cells10 HB4.out
          have y0 := HR4.out.hcell T hTn
          have y1 := HR4.out.cell T P hTn hP8
          have hccT := HR4.out.cc T hTn
          have hncT := HR4.out.nc
          generalize (wr.alloc (.cells #[.int .i64 1, .int .i64 asd, .int .i64 L, .int .i64 T, .int .i64 P, .int .i64 fi, .int .u64 va, .int .i64 to', .int .i64 fr', .int .i64 ii] 73)) = W4 at *
          generalize wr.heap.size = xb at *
          generalize hX : vs.getD (T * 8 + P) 0 = X at *
          refine wp_region_still_tail 22 (by kernel_rfl) (by kernel_rfl) ?_
          simp only [List.take_succ_cons, List.take_zero, List.drop_succ_cons, List.drop_zero]
          repeat still_step
          refine wpStill_nil ?_
          go_wp2_with fail
          clear y0 y1 c0 c1 c2 c3 c4 c5 c6 c7 c8 c9 cf
          refine (watch_open w _ HE4.out.drew (HW4.out.ext ((Ext.refl W4).drew)) hBWw hB4 HMay.out X va HOld.out.1 HOld.out.2 HSo.out.1 HSo.out.2 HO1.out HN1.out (fun g hg hk => HG1.out g.gc (List.mem_map_of_mem hg) hk)).mono ?_
          rintro e W5 ⟨rfl, hE5, hK5, hW5⟩
          have HSf := Lib.hid (show Hid (Safe n (stepW n vs ⟨1, asd, L, T, P, fi, va, to', fr', ii⟩) ((gs.filter fun g => !decide (g.t = (T : Int) ∧ g.p = (P : Int))).map Gap.gc) (l.drop (k + 1))) from by rw [key_gc]; exact HSn.out)
          have HW5 := Lib.hid hW5
          have HE5 := Lib.hid hE5
          have HR5 := Lib.hid (RefAt.keepG (by repeat (first | exact HR4.out | apply RefAt.more | apply RefAt.alloc | apply RefAt.drew | apply RefAt.drewN)) hK5)
          have HB5 := Lib.hid (hK5 _ _ (box_drew HB4.out) (notG_of (by decide) (by decide)))
          have hso := HSo.out
          clear hW5 hE5 hK5 HW4 HE4 HR4 HB4
          obtain ⟨c0, c1, c2, c3, c4, c5, c6, c7, c8, c9, cf⟩ := cells10 HB5.out
          go_wp2_with fail
          have HDo := ref12_Do1 w W5 HE5.out HR5.out (by rw [HBw.out]; exact hmw) (fun i hi => by rw [HBw.out]; exact HGB.out i hi) ⟨1, asd, L, T, P, fi, va, to', fr', ii⟩
          dsimp only at HDo
          with_reducible refine HDo.mono ?_
          clear HDo
          rintro e w9 ⟨rfl, hE9, hK9, gb9, gc9, hr9, hgb9⟩
          have HW9 := Lib.hid (HW5.out.keepW hK9)
          have HE9 := Lib.hid hE9
          have HR9 := Lib.hid (show RefAt w9 mh mc n gb9 gc9 (stepW n vs ⟨1, asd, L, T, P, fi, va, to', fr', ii⟩) from hr9)
          have HGB9 := Lib.hid (show ∀ i, i < n → Bw ≤ gb9 i from fun i hi => by rw [← HBw.out]; exact hgb9 i hi)
          clear hE9 hK9 hr9 hgb9
          go_wp2_with fail
          go_roundw
          case rel => exact ⟨k + 1, by omega, by go_num, HE9.out, _, _, _, _, _, HW9, HSf.out, HR9, HGB9, WOk_stepW HWv.out hso⟩
          case measure => simp [intOf]; omega
      · dsimp only at hk1 p0 p1 h
        subst hk1
        have HSn := Lib.hid h
        clear h HSd
        go_wp2_with fail
        refine (watch_Told w _ HE4.out HW4.out hBWw asd fi p0 p1).mono ?_
        rintro e W5 ⟨rfl, hE5, hK5, hW5⟩
        have HSf := Lib.hid (show Hid (Safe n (stepW n vs ⟨2, asd, lv, tb, pl, fi, va, to', fr', ii⟩) ((gs.map (tellIf asd fi)).map Gap.gc) (l.drop (k + 1))) from by rw [tell_gc]; exact HSn.out)
        have HW5 := Lib.hid hW5
        have HE5 := Lib.hid hE5
        have HR5 := Lib.hid (HR4.out.keepG hK5)
        have HB5 := Lib.hid (hK5 _ _ HB4.out (notG_of (by decide) (by decide)))
        clear hW5 hE5 hK5 HW4 HE4 HR4 HB4
        obtain ⟨c0, c1, c2, c3, c4, c5, c6, c7, c8, c9, cf⟩ := cells10 HB5.out
        go_wp2_with fail
        have HDo := ref12_Do1 w W5 HE5.out HR5.out (by rw [HBw.out]; exact hmw) (fun i hi => by rw [HBw.out]; exact HGB.out i hi) ⟨2, asd, lv, tb, pl, fi, va, to', fr', ii⟩
        dsimp only at HDo
        with_reducible refine HDo.mono ?_
        clear HDo
        rintro e w9 ⟨rfl, hE9, hK9, gb9, gc9, hr9, hgb9⟩
        have HW9 := Lib.hid (HW5.out.keepW hK9)
        have HE9 := Lib.hid hE9
        have HR9 := Lib.hid (show RefAt w9 mh mc n gb9 gc9 (stepW n vs ⟨2, asd, lv, tb, pl, fi, va, to', fr', ii⟩) from hr9)
        have HGB9 := Lib.hid (show ∀ i, i < n → Bw ≤ gb9 i from fun i hi => by rw [← HBw.out]; exact hgb9 i hi)
        clear hE9 hK9 hr9 hgb9
        go_wp2_with fail
        go_roundw
        case rel => exact ⟨k + 1, by omega, by go_num, HE9.out, _, _, _, _, _, HW9, HSf.out, HR9, HGB9, by rw [stepW_none (by show (2 : Int) ≠ 1; omega) (by show (2 : Int) ≠ 4; omega) (by show (2 : Int) ≠ 5; omega)]; exact HWv.out⟩
        case measure => simp [intOf]; omega
      · dsimp only at hk1 h
        have HSn := Lib.hid h
        clear h HSd
        rcases hk1 with rfl | rfl
        · have HSo := Lib.hid hso
          clear hso
          have HSf := HSn
          have HW5 := HW4
          have HE5 := HE4
          have HR5 := HR4
          have HB5 := HB4
          have hso := HSo.out
          clear HW4 HE4 HR4 HB4
          go_wp2_with fail
          have hsz : (wr.alloc (.cells #[.int .i64 4, .int .i64 asd, .int .i64 lv, .int .i64 tb, .int .i64 pl, .int .i64 fi, .int .u64 va, .int .i64 to', .int .i64 fr', .int .i64 ii] 73)).heap.size = wr.heap.size + 1 := by simp
          generalize (wr.alloc (.cells #[.int .i64 4, .int .i64 asd, .int .i64 lv, .int .i64 tb, .int .i64 pl, .int .i64 fi, .int .u64 va, .int .i64 to', .int .i64 fr', .int .i64 ii] 73)) = W5 at *
          generalize wr.heap.size = xb at *
          have HDo := ref12_Do1 w W5 HE5.out HR5.out (by rw [HBw.out]; exact hmw) (fun i hi => by rw [HBw.out]; exact HGB.out i hi) ⟨4, asd, lv, tb, pl, fi, va, to', fr', ii⟩
          dsimp only at HDo
          rw [hsz] at HDo
          clear hsz
          with_reducible refine HDo.mono ?_
          clear HDo
          rintro e w9 ⟨rfl, hE9, hK9, gb9, gc9, hr9, hgb9⟩
          have HW9 := Lib.hid (HW5.out.keepW hK9)
          have HE9 := Lib.hid hE9
          have HR9 := Lib.hid (show RefAt w9 mh mc n gb9 gc9 (stepW n vs ⟨4, asd, lv, tb, pl, fi, va, to', fr', ii⟩) from hr9)
          have HGB9 := Lib.hid (show ∀ i, i < n → Bw ≤ gb9 i from fun i hi => by rw [← HBw.out]; exact hgb9 i hi)
          clear hE9 hK9 hr9 hgb9
          go_wp2_with fail
          go_roundw
          case rel => exact ⟨k + 1, by omega, by go_num, HE9.out, _, _, _, _, _, HW9, HSf.out, HR9, HGB9, WOk_stepW HWv.out hso⟩
          case measure => simp [intOf]; omega
        · have HSo := Lib.hid hso
          clear hso
          have HSf := HSn
          have HW5 := HW4
          have HE5 := HE4
          have HR5 := HR4
          have HB5 := HB4
          have hso := HSo.out
          clear HW4 HE4 HR4 HB4
          go_wp2_with fail
          have hsz : (wr.alloc (.cells #[.int .i64 5, .int .i64 asd, .int .i64 lv, .int .i64 tb, .int .i64 pl, .int .i64 fi, .int .u64 va, .int .i64 to', .int .i64 fr', .int .i64 ii] 73)).heap.size = wr.heap.size + 1 := by simp
          generalize (wr.alloc (.cells #[.int .i64 5, .int .i64 asd, .int .i64 lv, .int .i64 tb, .int .i64 pl, .int .i64 fi, .int .u64 va, .int .i64 to', .int .i64 fr', .int .i64 ii] 73)) = W5 at *
          generalize wr.heap.size = xb at *
          have HDo := ref12_Do1 w W5 HE5.out HR5.out (by rw [HBw.out]; exact hmw) (fun i hi => by rw [HBw.out]; exact HGB.out i hi) ⟨5, asd, lv, tb, pl, fi, va, to', fr', ii⟩
          dsimp only at HDo
          rw [hsz] at HDo
          clear hsz
          with_reducible refine HDo.mono ?_
          clear HDo
          rintro e w9 ⟨rfl, hE9, hK9, gb9, gc9, hr9, hgb9⟩
          have HW9 := Lib.hid (HW5.out.keepW hK9)
          have HE9 := Lib.hid hE9
          have HR9 := Lib.hid (show RefAt w9 mh mc n gb9 gc9 (stepW n vs ⟨5, asd, lv, tb, pl, fi, va, to', fr', ii⟩) from hr9)
          have HGB9 := Lib.hid (show ∀ i, i < n → Bw ≤ gb9 i from fun i hi => by rw [← HBw.out]; exact hgb9 i hi)
          clear hE9 hK9 hr9 hgb9
          go_wp2_with fail
          go_roundw
          case rel => exact ⟨k + 1, by omega, by go_num, HE9.out, _, _, _, _, _, HW9, HSf.out, HR9, HGB9, WOk_stepW HWv.out hso⟩
          case measure => simp [intOf]; omega
      · dsimp only at hk1 h
        subst hk1
        have HSn := Lib.hid h
        clear h HSd
        go_wp2_with fail
        refine (watch_Forget w _ HE4.out HW4.out hBWw tb).mono ?_
        rintro e W5 ⟨rfl, hE5, hK5, hW5⟩
        have HSf := Lib.hid (show Hid (Safe n (stepW n vs ⟨6, asd, lv, tb, pl, fi, va, to', fr', ii⟩) ((gs.filter (keptT tb 8)).map Gap.gc) (l.drop (k + 1))) from by rw [kept_gc]; exact HSn.out)
        have HW5 := Lib.hid hW5
        have HE5 := Lib.hid hE5
        have HR5 := Lib.hid (HR4.out.keepG hK5)
        have HB5 := Lib.hid (hK5 _ _ HB4.out (notG_of (by decide) (by decide)))
        clear hW5 hE5 hK5 HW4 HE4 HR4 HB4
        obtain ⟨c0, c1, c2, c3, c4, c5, c6, c7, c8, c9, cf⟩ := cells10 HB5.out
        go_wp2_with fail
        have HDo := ref12_Do1 w W5 HE5.out HR5.out (by rw [HBw.out]; exact hmw) (fun i hi => by rw [HBw.out]; exact HGB.out i hi) ⟨6, asd, lv, tb, pl, fi, va, to', fr', ii⟩
        dsimp only at HDo
        with_reducible refine HDo.mono ?_
        clear HDo
        rintro e w9 ⟨rfl, hE9, hK9, gb9, gc9, hr9, hgb9⟩
        have HW9 := Lib.hid (HW5.out.keepW hK9)
        have HE9 := Lib.hid hE9
        have HR9 := Lib.hid (show RefAt w9 mh mc n gb9 gc9 (stepW n vs ⟨6, asd, lv, tb, pl, fi, va, to', fr', ii⟩) from hr9)
        have HGB9 := Lib.hid (show ∀ i, i < n → Bw ≤ gb9 i from fun i hi => by rw [← HBw.out]; exact hgb9 i hi)
        clear hE9 hK9 hr9 hgb9
        go_wp2_with fail
        go_roundw
        case rel => exact ⟨k + 1, by omega, by go_num, HE9.out, _, _, _, _, _, HW9, HSf.out, HR9, HGB9, by rw [stepW_none (by show (6 : Int) ≠ 1; omega) (by show (6 : Int) ≠ 4; omega) (by show (6 : Int) ≠ 5; omega)]; exact HWv.out⟩
        case measure => simp [intOf]; omega
    · obtain rfl : k = l.length := by omega
      have HBr := Lib.hid (watch_Broken wr HWr.out)
      clear hlt
      go_wp2_with fail
      refine HBr.out.mono ?_
      rintro e w' ⟨rfl, rfl⟩
      go_wp2_with fail
      go_ret
      exact ⟨HEr.out, rfl⟩

end Go.Proofs.Ytapeoeakiphfpaa
