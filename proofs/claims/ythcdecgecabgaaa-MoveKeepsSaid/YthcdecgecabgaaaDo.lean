import Derived.Test.YthcdecgecabgaaaBCopyLawaLawb
import Derived.Test.YthcdecgecabgaaaBSemSemt
import Derived.Test.YthcdecgecabgaaaBStepsSamePart
import Derived.Test.YthcdecgecabgaaaWipe
import Derived.Deep.RegionHeld3
import Derived.BigRegion
/- The contract of the document's answer paviorref12.Do: steps are done to words. -/
namespace Go.Proofs.Ythcdecgecabgaaa
open Go.RowKit
set_option linter.unusedVariables false
set_option linter.unusedSimpArgs false
attribute [local go_sem] setCell_drewN alloc_drewN lt_moreE le_moreE lt_moreK le_moreK cell_more frozen_more set_more drew_more drewN_more

theorem clearW_take (ws : List Int) (f : Nat) (h : f * 8 + 8 ≤ ws.length) : clearW ws f = ws.take (f * 8) ++ List.replicate 8 0 ++ ws.drop (f * 8 + 8) := by
  refine ext_getD _ _ (by rw [clearW_len]; simp; omega) fun j hj => ?_
  rw [clearW_len] at hj
  by_cases h1 : j < f * 8
  · rw [clearW_off _ _ _ (.inl h1), List.getD_eq_getElem?_getD, List.getD_eq_getElem?_getD, List.append_assoc, List.getElem?_append_left (by simp; omega), List.getElem?_take, if_pos h1]
  · by_cases h2 : f * 8 + 8 ≤ j
    · rw [clearW_off _ _ _ (.inr h2), List.getD_eq_getElem?_getD, List.getD_eq_getElem?_getD, List.getElem?_append_right (by simp; omega), List.getElem?_drop]
      congr 2
      simp
      omega
    · obtain ⟨i, rfl⟩ : ∃ i, j = f * 8 + i := ⟨j - f * 8, by omega⟩
      rw [clearW_at _ _ _ (by omega) h, List.getD_eq_getElem?_getD, List.getElem?_append_left (by simp; omega), List.getElem?_append_right (by simp; omega), List.getElem?_replicate, if_pos (by simp; omega)]
      rfl
/-- A block that holds no words of the document's memory, and no rows of it. -/
def NotW (ob : Obj) : Prop := ∀ cs fr, ob ≠ .cells cs 44 fr ∧ ob ≠ .cells cs 49 fr
/-- All blocks but those of words are kept. -/
def KeepW (w w' : World) : Prop := ∀ (k : Nat) (ob : Obj), w.heap[k]? = some ob → NotW ob → w'.heap[k]? = some ob
theorem notW_of {cs : Array Value} {T : TypeId} {fr : Nat × Nat} (h1 : T ≠ 44) (h2 : T ≠ 49) : NotW (.cells cs T fr) := fun cs' fr' => ⟨fun e => by injection e with _ e; exact h1 e, fun e => by injection e with _ e; exact h2 e⟩
theorem KeepW.refl (w : World) : KeepW w w := fun _ _ h _ => h
theorem KeepW.trans {a b c : World} (h : KeepW a b) (k : KeepW b c) : KeepW a c := fun q ob hq hn => k q ob (h q ob hq hn) hn
theorem KeepW.ext {w w' : World} (h : Ext w w') : KeepW w w' := fun k ob hk _ => (h.grow.block k (Array.getElem?_eq_some_iff.1 hk).1 (by simp)).trans hk
theorem KeepW.set {w : World} {g : Nat} {cs : Array Value} {fr : Nat × Nat} {T : TypeId} (h : w.heap[g]? = some (.cells cs T fr)) (hT : T = 44 ∨ T = 49) (j : Nat) (v : Value) : KeepW w (w.setCell ⟨g, j, none⟩ v) := by
  intro k ob hk hn
  have hkg : k ≠ g := by
    rintro rfl
    rw [h] at hk
    cases hk
    rcases hT with rfl | rfl
    · exact (hn _ _).1 rfl
    · exact (hn _ _).2 rfl
  rw [heap_setCell_other _ _ _ _ hkg]
  exact hk
theorem KeepW.put {w : World} {h hc n : Nat} {gb gc : Nat → Nat} {us : List Int} (r : RefAt w h hc n gb gc us) (i j : Nat) (hi : i < n) (v : Value) : KeepW w (w.setCell ⟨gb i, j, none⟩ v) := by
  obtain ⟨cur, h1, _⟩ := r.row i hi
  exact KeepW.set h1 (.inl rfl) j v
theorem KeepW.head {w : World} {h hc n : Nat} {gb gc : Nat → Nat} {us : List Int} (r : RefAt w h hc n gb gc us) (j : Nat) (v : Value) : KeepW w (w.setCell ⟨h, j, none⟩ v) := by
  obtain ⟨cur, h1, _⟩ := r.head
  exact KeepW.set h1 (.inr rfl) j v
theorem own_keepW {w w' : World} {B sz n : Nat} {T : TypeId} {v : Value} {xs : List Value} (k : KeepW w w') (h : w.ownsRow B T sz v n xs) (h1 : T ≠ 44) (h2 : T ≠ 49) : w'.ownsRow B T sz v n xs := by
  refine ⟨h.1, h.2.imp id fun ⟨g, cap, cur, a, b, c, d⟩ => ⟨g, cap, cur, a, b, k g _ c (notW_of h1 h2), d⟩⟩
theorem ref03_HasB (w : World) (a : Option Addr) (n hc : Nat) (f i : Int) (r : Bool) (h : hasB n f i = r) :
    Calls Try.prog 19 #[.slice a n hc, .int .i64 f, .int .i64 i] w fun e w' => e = .returned (.bool r) ∧ w' = w :=
  (ref03_Has w a n hc f i).mono fun e w' ⟨h1, h2⟩ => ⟨h1.trans (by rw [← h]; rfl), h2⟩
theorem hasB_yes {n : Nat} {f i : Int} (h : hasB n f i = true) : 0 ≤ f ∧ f < n ∧ 0 ≤ i ∧ i < 8 := of_decide_eq_true h
theorem hasB_no {n : Nat} {f i : Int} (h : ¬ (0 ≤ f ∧ f < n ∧ 0 ≤ i ∧ i < 8)) : hasB n f i = false := decide_eq_false h
theorem hasB_of {n : Nat} {f i : Int} (h : 0 ≤ f ∧ f < n ∧ 0 ≤ i ∧ i < 8) : hasB n f i = true := decide_eq_true h
/-- A document's memory of a call's own. -/
def DoRel (W w0 wr : World) (h hc n : Nat) (us : List Int) : Prop := Ext W wr ∧ KeepW w0 wr ∧ ∃ gb gc, RefAt wr h hc n gb gc us ∧ ∀ i, i < n → W.heap.size ≤ gb i
section
variable {W w0 wr : World} {h hc n : Nat} {us : List Int} {gb gc : Nat → Nat}
theorem DoRel.put (hE : Ext W wr) (hk : KeepW w0 wr) (r : RefAt wr h hc n gb gc us) (hg : ∀ i, i < n → W.heap.size ≤ gb i) (i j : Nat) (x : Int) (hi : i < n) (hj : j < 8) :
    DoRel W w0 (wr.setCell ⟨gb i, j, none⟩ (.int .u64 x)) h hc n (us.set (i * 8 + j) x) :=
  ⟨ext_set hE (hg i hi) _ _, hk.trans (KeepW.put r i j hi _), gb, gc, r.put i j x hi hj, hg⟩
theorem DoRel.new (hE : Ext W wr) (hk : KeepW w0 wr) (r : RefAt wr h hc n gb gc us) (hg : ∀ i, i < n → W.heap.size ≤ gb i) (hh : W.heap.size ≤ h) (i : Nat) (hi : i < n) :
    DoRel W w0 ((wr.setCell ⟨h, i, none⟩ (.slice (some ⟨wr.heap.size, 0, none⟩) 8 8)).alloc (.cells zeros8 44)) h hc n (clearW us i) := by
  rw [← World.setCell_alloc_past (w := wr) (.cells zeros8 44) h i _ r.lth]
  have hl := r.len
  have hsz := hE.size
  have ra := r.alloc (.cells zeros8 44)
  have hr := ra.row_new i wr.heap.size 8 (List.replicate 8 0) hi (by simp) (Nat.le_refl _) _ (heap_alloc_new wr _) (by
    intro j hj
    rw [getD_rep0]
    match j, hj with
    | 0, _ => rfl
    | 1, _ => rfl
    | 2, _ => rfl
    | 3, _ => rfl
    | 4, _ => rfl
    | 5, _ => rfl
    | 6, _ => rfl
    | 7, _ => rfl) (fun q hq e => by have := r.ltg q hq; omega)
  rw [← clearW_take us i (by omega)] at hr
  refine ⟨ext_set (hE.alloc _) hh _ _, hk.trans ((KeepW.ext ((Ext.refl wr).alloc _)).trans (KeepW.head ra i _)), _, _, hr, fun j hj => ?_⟩
  show W.heap.size ≤ if j = i then wr.heap.size else gb j
  split
  · exact hsz
  · exact hg j hj
theorem DoRel.drew (hd : DoRel W w0 wr h hc n us) : DoRel W w0 wr.drew h hc n us := by
  obtain ⟨a, b, gb, gc, r, g⟩ := hd
  exact ⟨a.drew, b.trans (KeepW.ext ((Ext.refl _).drew)), gb, gc, r.drew, g⟩
end
/-- The next step. -/
theorem do_next {n k : Nat} {l : List Step} {us vs : List Int} {s : Step} (HS : (l.take (k + 1)).foldl (stepW n) us = stepW n vs s) : doW n us (l.take (k + 1)) = stepW n vs s := HS

set_option maxRecDepth 100000 in
set_option maxHeartbeats 8000000 in
theorem ref12_Do (W w : World) (hE : Ext W w) {h hc n : Nat} {gb gc : Nat → Nat} {us : List Int} (hr : RefAt w h hc n gb gc us) (hh : W.heap.size ≤ h) (hgb : ∀ i, i < n → W.heap.size ≤ gb i)
    {B cap : Nat} {a : Option Addr} {l : List Step} (HO0 : OwnS w B (.slice a l.length cap) l) (hl : l.length ≤ 1000000) :
    Calls Try.prog 22 #[.slice (some ⟨h, 0, none⟩) n hc, .slice a l.length cap] w fun e w' => e = .returned (.tuple #[]) ∧ DoRel W w w' h hc n (doW n us l) := by
  have HR := Lib.hid (show DoRel W w w h hc n us from ⟨hE, KeepW.refl _, gb, gc, hr, hgb⟩)
  have HO := Lib.hid HO0
  have HH := Lib.hid hh
  have hcap := own_cap HO0
  have hcap1 := hcap.2.1
  clear hE hr hh hgb HO0 hcap gb gc
  go_enter Try.func22, Try.ntmps22
  go_wp2_with fail
  go_loopw [4] (fun i wr => ∃ k : Nat, k ≤ l.length ∧ i = .int .i64 k ∧ Hid (DoRel W w wr h hc n (doW n us (l.take k)))) (fun i _ => l.length - (intOf i).toNat)
  case atStart => exact ⟨0, Nat.zero_le _, rfl, HR⟩
  case round =>
    obtain ⟨k, hk, rfl, HD⟩ := hrel
    by_cases hlt : k < l.length
    · have HS := Lib.hid (show doW n us (l.take (k + 1)) = stepW n (doW n us (l.take k)) l[k] from foldl_take_succ (stepW n) us l k hlt)
      have hz : l[k]? = some l[k] := List.getElem?_eq_getElem hlt
      generalize l[k] = s at *
      obtain ⟨hE, hK, gb, gc, hr, hgb⟩ := HD.out
      have HOr := own_keepW hK HO.out (by decide) (by decide)
      obtain ⟨g, rfl, _, hgs, _, hcl, _⟩ := own_at HOr (by omega)
      obtain ⟨x0, x1, x2, x3, x4, x5, x6, x7, x8, x9⟩ := step_at hcl k s hz
      have HE4 := Lib.hid (hE.alloc (.cells #[.int .i64 s.fKind, .int .i64 s.fAsid, .int .i64 s.fLevel, .int .i64 s.fTable, .int .i64 s.fPlace, .int .i64 s.fFirst, .int .u64 s.fValue, .int .i64 s.fTo, .int .i64 s.fFrom, .int .i64 s.fI] 46))
      have HK4 := Lib.hid (hK.trans (KeepW.ext ((Ext.refl wr).alloc (.cells #[.int .i64 s.fKind, .int .i64 s.fAsid, .int .i64 s.fLevel, .int .i64 s.fTable, .int .i64 s.fPlace, .int .i64 s.fFirst, .int .u64 s.fValue, .int .i64 s.fTo, .int .i64 s.fFrom, .int .i64 s.fI] 46))))
      have HR4 := Lib.hid (hr.alloc (.cells #[.int .i64 s.fKind, .int .i64 s.fAsid, .int .i64 s.fLevel, .int .i64 s.fTable, .int .i64 s.fPlace, .int .i64 s.fFirst, .int .u64 s.fValue, .int .i64 s.fTo, .int .i64 s.fFrom, .int .i64 s.fI] 46))
      have HG := Lib.hid hgb
      have hB4 := cells10 (heap_alloc_new wr (.cells #[.int .i64 s.fKind, .int .i64 s.fAsid, .int .i64 s.fLevel, .int .i64 s.fTable, .int .i64 s.fPlace, .int .i64 s.fFirst, .int .u64 s.fValue, .int .i64 s.fTo, .int .i64 s.fFrom, .int .i64 s.fI] 46))
      have HB4 := Lib.hid hB4
      have HSz := Lib.hid (show wr.heap.size < (wr.alloc (.cells #[.int .i64 s.fKind, .int .i64 s.fAsid, .int .i64 s.fLevel, .int .i64 s.fTable, .int .i64 s.fPlace, .int .i64 s.fFirst, .int .u64 s.fValue, .int .i64 s.fTo, .int .i64 s.fFrom, .int .i64 s.fI] 46)).heap.size by simp)
      have HLt := Lib.hid (show ∀ i, i < n → gb i < wr.heap.size from hr.ltg)
      have HLh := Lib.hid hr.lth
      obtain ⟨kd, asd, lv, tb, pl, fi, va, tt, fr, ii⟩ := s
      dsimp only at *
      clear hcl hz hE hK hgb hr HOr HD HR hB4
      generalize hvs : doW n us (l.take k) = vs at *
      clear hvs
      have hlen := HR4.out.len
      have hkd : kd = 1 ∨ kd = 4 ∨ kd = 5 ∨ (kd ≠ 1 ∧ kd ≠ 4 ∧ kd ≠ 5) := by omega
      have z2 := HLh.out
      have z0 := HSz.out
      have hnc := HR4.out.nc
      rcases hkd with rfl | rfl | rfl | ⟨k1, k4, k5⟩
      · by_cases hb : 0 ≤ tb ∧ tb < n ∧ 0 ≤ pl ∧ pl < 8
        · obtain ⟨b1, b2, b3, b4⟩ := hb
          obtain ⟨T, rfl⟩ := Int.eq_ofNat_of_zero_le b1
          obtain ⟨P, rfl⟩ := Int.eq_ofNat_of_zero_le b3
          have HHas := Lib.hid (hasB_of (n := n) ⟨b1, b2, b3, b4⟩)
          have HV := Lib.hid (show stepW n vs ⟨1, asd, lv, T, P, fi, va, tt, fr, ii⟩ = vs.set (T * 8 + P) va from stepW_write rfl ⟨b1, b2, b3, b4⟩)
          have hTn : T < n := by omega
          have hP8 : P < 8 := by omega
          have hcc := HR4.out.cc T hTn
          have z1 := HLt.out T hTn
          go_wp2_with (go_at_call 19; first | ((with_reducible refine (ref03_HasB _ _ _ _ _ _ _ HHas.out).mono ?_); rintro e w' ⟨rfl, rfl⟩))
          obtain ⟨q0, q1, q2, q3, q4, q5, q6, q7, q8, q9, qf⟩ := HB4.out
          have y0 := HR4.out.hcell T hTn
          have y1 := HR4.out.cell T P hTn hP8
          have y2 := HR4.out.free T P hTn
          generalize (wr.alloc (.cells #[.int .i64 1, .int .i64 asd, .int .i64 lv, .int .i64 T, .int .i64 P, .int .i64 fi, .int .u64 va, .int .i64 tt, .int .i64 fr, .int .i64 ii] 46)) = W4 at *
          generalize wr.heap.size = xb at *
          have z3 : gb T < W4.heap.size := by omega
          have z4 : h < W4.heap.size := by omega
          have z6 : (gb T = xb) = False := by simp; omega
          have z7 : (xb = gb T) = False := by simp; omega
          clear HB4
          go_region
          all_goals
            go_wp2_with fail
            go_roundw
            case rel => exact ⟨k + 1, by omega, by go_num, show DoRel _ _ _ _ _ _ _ from by rw [HS.out, HV.out]; exact (DoRel.put HE4.out HK4.out HR4.out HG.out T P va hTn hP8).drew⟩
            case measure => simp [intOf]; omega
        · have HHas := Lib.hid (hasB_no hb)
          have HV := Lib.hid (show stepW n vs ⟨1, asd, lv, tb, pl, fi, va, tt, fr, ii⟩ = vs from by unfold stepW; rw [if_pos rfl, if_neg (by rw [hasB_no hb]; simp)])
          clear hb HB4
          go_wp2_with (go_at_call 19; first | ((with_reducible refine (ref03_HasB _ _ _ _ _ _ _ HHas.out).mono ?_); rintro e w' ⟨rfl, rfl⟩))
          go_roundw
          case rel => exact ⟨k + 1, by omega, by go_num, show DoRel _ _ _ _ _ _ _ from by rw [HS.out, HV.out]; exact ⟨HE4.out, HK4.out, gb, gc, HR4.out, HG.out⟩⟩
          case measure => simp [intOf]; omega
      · by_cases hb : 0 ≤ tt ∧ tt < n ∧ (0 : Int) ≤ 0 ∧ (0 : Int) < 8
        · obtain ⟨b1, b2, b3, b4⟩ := hb
          obtain ⟨T, rfl⟩ := Int.eq_ofNat_of_zero_le b1
          have HHas := Lib.hid (hasB_of (n := n) ⟨b1, b2, b3, b4⟩)
          have HV := Lib.hid (show stepW n vs ⟨4, asd, lv, tb, pl, fi, va, T, fr, ii⟩ = clearW vs T from by unfold stepW; rw [if_neg (show ¬ (4 : Int) = 1 by omega), if_pos rfl, if_pos (hasB_of (n := n) ⟨b1, b2, b3, b4⟩)]; rfl)
          have hTn : T < n := by omega
          have z1 := HLt.out T hTn
          go_wp2_with (go_at_call 19; first | ((with_reducible refine (ref03_HasB _ _ _ _ _ _ _ HHas.out).mono ?_); rintro e w' ⟨rfl, rfl⟩))
          obtain ⟨q0, q1, q2, q3, q4, q5, q6, q7, q8, q9, qf⟩ := HB4.out
          have y0 := HR4.out.hcell T hTn
          have y2 := HR4.out.hfree T
          have hmk := fun w => make8 w
          generalize (wr.alloc (.cells #[.int .i64 4, .int .i64 asd, .int .i64 lv, .int .i64 tb, .int .i64 pl, .int .i64 fi, .int .u64 va, .int .i64 T, .int .i64 fr, .int .i64 ii] 46)) = W4 at *
          generalize wr.heap.size = xb at *
          have z4 : h < W4.heap.size := by omega
          have z6 : (h = xb) = False := by simp; omega
          have z7 : (xb = h) = False := by simp; omega
          have z8 : (h = W4.heap.size) = False := by simp; omega
          have z9 : (W4.heap.size = h) = False := by simp; omega
          obtain ⟨p1, p2, p3⟩ := lt_facts z4
          obtain ⟨p4, p5, p6⟩ := lt_facts z0
          clear HB4
          go_region
          all_goals
            go_wp2_with fail
            go_roundw
            case rel => exact ⟨k + 1, by omega, by go_num, show DoRel _ _ _ _ _ _ _ from by rw [HS.out, HV.out]; exact (DoRel.new HE4.out HK4.out HR4.out HG.out HH.out T hTn).drew⟩
            case measure => simp [intOf]; omega
        · have HHas := Lib.hid (hasB_no hb)
          have HV := Lib.hid (show stepW n vs ⟨4, asd, lv, tb, pl, fi, va, tt, fr, ii⟩ = vs from by unfold stepW; rw [if_neg (show ¬ (4 : Int) = 1 by omega), if_pos rfl, if_neg (by rw [hasB_no hb]; simp)])
          clear hb HB4
          go_wp2_with (go_at_call 19; first | ((with_reducible refine (ref03_HasB _ _ _ _ _ _ _ HHas.out).mono ?_); rintro e w' ⟨rfl, rfl⟩))
          go_roundw
          case rel => exact ⟨k + 1, by omega, by go_num, show DoRel _ _ _ _ _ _ _ from by rw [HS.out, HV.out]; exact ⟨HE4.out, HK4.out, gb, gc, HR4.out, HG.out⟩⟩
          case measure => simp [intOf]; omega
      · by_cases hb : 0 ≤ tt ∧ tt < n ∧ 0 ≤ ii ∧ ii < 8
        · by_cases hb2 : 0 ≤ fr ∧ fr < n ∧ 0 ≤ ii ∧ ii < 8
          · obtain ⟨b1, b2, b3, b4⟩ := hb
            obtain ⟨c1, c2, _, _⟩ := hb2
            obtain ⟨T, rfl⟩ := Int.eq_ofNat_of_zero_le b1
            obtain ⟨F, rfl⟩ := Int.eq_ofNat_of_zero_le c1
            obtain ⟨P, rfl⟩ := Int.eq_ofNat_of_zero_le b3
            have HHas := Lib.hid (hasB_of (n := n) ⟨b1, b2, b3, b4⟩)
            have HHas2 := Lib.hid (hasB_of (n := n) ⟨c1, c2, b3, b4⟩)
            have HV := Lib.hid (show stepW n vs ⟨5, asd, lv, tb, pl, fi, va, T, F, P⟩ = vs.set (T * 8 + P) (vs.getD (F * 8 + P) 0) from by unfold stepW; rw [if_neg (show ¬ (5 : Int) = 1 by omega), if_neg (show ¬ (5 : Int) = 4 by omega), if_pos rfl, if_pos (by rw [hasB_of (n := n) ⟨b1, b2, b3, b4⟩, hasB_of (n := n) ⟨c1, c2, b3, b4⟩]; rfl)]; rfl)
            have hTn : T < n := by omega
            have hFn : F < n := by omega
            have hP8 : P < 8 := by omega
            have hcc := HR4.out.cc T hTn
            have hcc2 := HR4.out.cc F hFn
            have z1 := HLt.out T hTn
            have z1' := HLt.out F hFn
            go_wp2_with (go_at_call 19; first | ((with_reducible refine (ref03_HasB _ _ _ _ _ _ _ HHas.out).mono ?_); rintro e w' ⟨rfl, rfl⟩) | ((with_reducible refine (ref03_HasB _ _ _ _ _ _ _ HHas2.out).mono ?_); rintro e w' ⟨rfl, rfl⟩))
            obtain ⟨q0, q1, q2, q3, q4, q5, q6, q7, q8, q9, qf⟩ := HB4.out
            have y0 := HR4.out.hcell T hTn
            have y1 := HR4.out.cell T P hTn hP8
            have y2 := HR4.out.free T P hTn
            have y3 := HR4.out.hcell F hFn
            have y4 := HR4.out.cell F P hFn hP8
            generalize (wr.alloc (.cells #[.int .i64 5, .int .i64 asd, .int .i64 lv, .int .i64 tb, .int .i64 pl, .int .i64 fi, .int .u64 va, .int .i64 T, .int .i64 F, .int .i64 P] 46)) = W4 at *
            generalize wr.heap.size = xb at *
            have z3 : gb T < W4.heap.size := by omega
            have z4 : h < W4.heap.size := by omega
            have z6 : (gb T = xb) = False := by simp; omega
            have z7 : (xb = gb T) = False := by simp; omega
            generalize vs.getD (F * 8 + P) 0 = X at *
            clear HB4
            go_region
            all_goals
              go_wp2_with fail
              go_roundw
              case rel => exact ⟨k + 1, by omega, by go_num, show DoRel _ _ _ _ _ _ _ from by rw [HS.out, HV.out]; exact (DoRel.put HE4.out HK4.out HR4.out HG.out T P X hTn hP8).drew⟩
              case measure => simp [intOf]; omega
          · have HHas := Lib.hid (hasB_of hb)
            have HHas2 := Lib.hid (hasB_no hb2)
            have HV := Lib.hid (show stepW n vs ⟨5, asd, lv, tb, pl, fi, va, tt, fr, ii⟩ = vs from by unfold stepW; rw [if_neg (show ¬ (5 : Int) = 1 by omega), if_neg (show ¬ (5 : Int) = 4 by omega), if_pos rfl, if_neg (by rw [hasB_no hb2]; simp)])
            clear hb hb2 HB4
            go_wp2_with (go_at_call 19; first | ((with_reducible refine (ref03_HasB _ _ _ _ _ _ _ HHas2.out).mono ?_); rintro e w' ⟨rfl, rfl⟩) | ((with_reducible refine (ref03_HasB _ _ _ _ _ _ _ HHas.out).mono ?_); rintro e w' ⟨rfl, rfl⟩))
            go_roundw
            case rel => exact ⟨k + 1, by omega, by go_num, show DoRel _ _ _ _ _ _ _ from by rw [HS.out, HV.out]; exact ⟨HE4.out, HK4.out, gb, gc, HR4.out, HG.out⟩⟩
            case measure => simp [intOf]; omega
        · have HHas := Lib.hid (hasB_no hb)
          have HV := Lib.hid (show stepW n vs ⟨5, asd, lv, tb, pl, fi, va, tt, fr, ii⟩ = vs from by unfold stepW; rw [if_neg (show ¬ (5 : Int) = 1 by omega), if_neg (show ¬ (5 : Int) = 4 by omega), if_pos rfl, if_neg (by rw [hasB_no hb]; simp)])
          clear hb HB4
          go_wp2_with (go_at_call 19; first | ((with_reducible refine (ref03_HasB _ _ _ _ _ _ _ HHas.out).mono ?_); rintro e w' ⟨rfl, rfl⟩))
          go_roundw
          case rel => exact ⟨k + 1, by omega, by go_num, show DoRel _ _ _ _ _ _ _ from by rw [HS.out, HV.out]; exact ⟨HE4.out, HK4.out, gb, gc, HR4.out, HG.out⟩⟩
          case measure => simp [intOf]; omega
      · have e1 : (kd == 1) = false := by simpa using k1
        have e4 : (kd == 4) = false := by simpa using k4
        have e5 : (kd == 5) = false := by simpa using k5
        have HV := Lib.hid (show stepW n vs ⟨kd, asd, lv, tb, pl, fi, va, tt, fr, ii⟩ = vs from by unfold stepW; rw [if_neg k1, if_neg k4, if_neg k5])
        clear k1 k4 k5 HB4
        go_wp2_with fail
        go_roundw
        case rel => exact ⟨k + 1, by omega, by go_num, show DoRel _ _ _ _ _ _ _ from by rw [HS.out, HV.out]; exact ⟨HE4.out, HK4.out, gb, gc, HR4.out, HG.out⟩⟩
        case measure => simp [intOf]; omega
    · have : k = l.length := by omega
      subst this
      rw [List.take_of_length_le (Nat.le_refl _)] at HD
      go_wp2_with fail
      go_end0
      exact ⟨rfl, HD.out⟩

end Go.Proofs.Ythcdecgecabgaaa
