import Derived.Test.YtapeoeakiphfpaaBFoldkFalk
import Derived.Test.YtapeoeakiphfpaaFolda
import Derived.Test.YtapeoeakiphfpaaWata
import Derived.Test.YtapeoeakiphfpaaBFoldrFolds
/- Plain laws behind FoldKeeps: walks behind the steps; folded and unfolded again. -/
namespace Go.Proofs.Ytapeoeakiphfpaa
open Go.RowKit
set_option linter.unusedVariables false
set_option linter.unusedSimpArgs false

theorem foundD_page {d : Desc} {T P p : Int} (h : d.fKind = 3) : (foundD d 3 T P p).fKind = 3 ∧ (foundD d 3 T P p).fOrder = (if d.fFold then 2 else 0) ∧ (foundD d 3 T P p).fFrame = d.fFrame ∧ (foundD d 3 T P p).fWrite = d.fWrite ∧ (foundD d 3 T P p).fExec = d.fExec ∧ (foundD d 3 T P p).fSeen = d.fSeen := by
  unfold foundD
  rw [if_neg (by omega), if_pos h]
  split <;> exact ⟨rfl, rfl, rfl, rfl, rfl, rfl⟩
theorem runN_all {us : List Int} {n root first : Int} {g : Nat → Found} : ∀ k : Nat, (∀ i : Nat, i < k → walkAt us n (first + (i : Int)) 4 0 root = some (g i)) → runN us n root first k = some ((List.range k).map g) := by
  intro k
  induction k with
  | zero => intro _; rfl
  | succ k ih =>
    intro h
    rw [runN_step (ih fun i hi => h i (by omega)) (h k (by omega)), List.range_succ, List.map_append]
    rfl
theorem fold_walks {ws : List Int} {n : Nat} {root asid first page T : Int} {r : List Int} {d : Nat → Desc} (h : Four ws n asid first T d) (r0 : 0 ≤ root) (r1 : root < n) (hp : first = page - page % 4) (hr : tabsAt ws n 4 0 root = some r) (hnd : r.Nodup) (hsee : Sees ws n first 4 0 root 3 T) (b : Bool) :
    AlikeF n ws (doW n ws (anewL ws (fourL first T d) asid first b)) root page b ∧ runN (doW n ws (anewL ws (fourL first T d) asid first b)) n root first 4 = some (fourL first T (turnD d b)) := by
  obtain ⟨_, _, hF, hoff⟩ := turn_behind h b
  generalize doW n ws (anewL ws (fourL first T d) asid first b) = us at *
  have f4 := h.f4
  have f0 := h.f0
  have f1 := h.f1
  have t0 := h.t0
  have t1 := h.t1
  have hword : ∀ L' T' q, 0 ≤ q → q < 4096 → Sees ws n q 4 0 root L' T' → ¬ (L' = 3 ∧ q / 4 = page / 4) → us.getD (T'.toNat * 8 + (placeN L' q).toNat) 0 = ws.getD (T'.toNat * 8 + (placeN L' q).toNat) 0 := by
    intro L' T' q q0 q1 hs hne
    refine hoff _ fun i hi he => hne ?_
    obtain ⟨_, _, u0, u1⟩ := sees_lo _ _ _ _ _ hs
    have z0 := placeN_lo L' q
    have z1 := placeN_hi L' q
    obtain rfl : T = T' := by omega
    obtain ⟨e1, e2⟩ := sees_one _ _ _ _ _ _ _ hr hnd hs hsee
    subst e1
    refine ⟨rfl, ?_⟩
    have hb := (same_block q0 q1 f0 (by omega)).1 fun m m0 m2 => e2 m m0 (by omega)
    rw [place3] at he
    omega
  have hat : ∀ i : Nat, i < 4 → walkAt ws n (first + (i : Int)) 4 0 root = some (foundD (d i) 3 T (first % 8 + (i : Int)) (first + (i : Int))) ∧ walkAt us n (first + (i : Int)) 4 0 root = some (foundD (turnD d b i) 3 T (first % 8 + (i : Int)) (first + (i : Int))) := by
    intro i hi
    have hpl := (same_block (p := first) (q := first + (i : Int)) (by omega) (by omega) (by omega) (by omega)).2 (by omega)
    have hq := sees_follow 4 0 root 3 T (q := first + (i : Int)) (fun m m0 m2 => hpl m m0 (by omega)) hsee
    have hP : placeN 3 (first + (i : Int)) = first % 8 + (i : Int) := by rw [place3]; omega
    obtain ⟨j, hj, hwk⟩ := walk_to (us := ws) _ _ _ _ _ hq (fun _ _ _ _ => rfl)
    obtain ⟨j', hj', hwk'⟩ := walk_to (us := us) _ _ _ _ _ hq (fun L' T' hlt hs' => hword L' T' _ (by omega) (by omega) hs' (fun hh => by omega))
    obtain rfl : j = 1 := by omega
    obtain rfl : j' = 1 := by omega
    have hk1 := (h.ok i hi).2
    have hk2 := (hF.ok i hi).2
    constructor
    · rw [hwk, walk_step (k := 0) (d := d i) ⟨t0, t1⟩ (by rw [hP, h.word i hi]; exact dec_enc (h.ok i hi).1), if_neg (by omega), hP]
    · rw [hwk', walk_step (k := 0) (d := turnD d b i) ⟨t0, t1⟩ (by rw [hP, hF.word i hi]; exact dec_enc (hF.ok i hi).1), if_neg (by omega), hP]
  refine ⟨?_, runN_all 4 fun i hi => (hat i hi).2⟩
  intro q q0 q1
  by_cases hq : q / 4 = page / 4
  · obtain ⟨i, hi⟩ := Int.eq_ofNat_of_zero_le (show 0 ≤ q - first by omega)
    obtain rfl : q = first + (i : Int) := by omega
    obtain ⟨h1, h2⟩ := hat i (by omega)
    refine ⟨_, _, h1, h2, fun _ => ?_, fun hh => absurd hq hh⟩
    obtain ⟨a1, a2, a3, a4, a5, a6⟩ := foundD_page (T := T) (P := first % 8 + (i : Int)) (p := first + (i : Int)) (h.ok i (by omega)).2
    obtain ⟨b1, b2, b3, b4, b5, b6⟩ := foundD_page (T := T) (P := first % 8 + (i : Int)) (p := first + (i : Int)) (hF.ok i (by omega)).2
    exact ⟨b1, b2, by rw [b3, a3]; rfl, by rw [b4, a4]; rfl, by rw [b5, a5]; rfl, by rw [b6, a6]; rfl⟩
  · obtain ⟨x, hx⟩ := tabs_walk (page := q) 3 0 root r (by omega) (by omega) hr
    refine ⟨x, x, hx, ?_, fun hh => absurd hh hq, fun _ => rfl⟩
    rw [walk_same _ _ _ (fun L' T' hs' => hword L' T' q q0 q1 hs' (fun hh => hq hh.2))]
    exact hx
theorem four_get (first T : Int) (d : Nat → Desc) (i : Nat) (hi : i < 4) : (fourL first T d)[i]? = some (foundD (d i) 3 T (first % 8 + (i : Int)) (first + (i : Int))) := by
  unfold fourL
  rw [List.getElem?_map, List.getElem?_range hi]
  rfl
theorem four_zero (first T : Int) (d : Nat → Desc) : (fourL first T d).getD 0 zeroF = foundD (d 0) 3 T (first % 8 + ((0 : Nat) : Int)) (first + ((0 : Nat) : Int)) := by
  rw [List.getD_eq_getElem?_getD, four_get first T d 0 (by omega)]
  rfl
theorem alike_flat {ws : List Int} {n : Nat} {asid first T : Int} {d : Nat → Desc} (h : Four ws n asid first T d) {o : Int} (ho : alikeB (fourL first T d) o = true) (i : Nat) (hi : i < 4) :
    (if (d i).fFold then 2 else 0) = o ∧ (d i).fFrame = (d 0).fFrame + i ∧ (d i).fWrite = (d 0).fWrite ∧ (d i).fExec = (d 0).fExec := by
  have := alikeB_at ho (four_get first T d i hi)
  rw [four_zero] at this
  obtain ⟨a1, a2, a3, a4, a5, a6⟩ := foundD_page (T := T) (P := first % 8 + (i : Int)) (p := first + (i : Int)) (h.ok i hi).2
  obtain ⟨b1, b2, b3, b4, b5, b6⟩ := foundD_page (T := T) (P := first % 8 + ((0 : Nat) : Int)) (p := first + ((0 : Nat) : Int)) (h.ok 0 (by omega)).2
  simp only [likeB, Bool.and_eq_true, beq_iff_eq, a1, a2, a3, a4, a5, b3, b4, b5] at this
  exact ⟨this.1.1.1.2, this.1.1.2, this.1.2, this.2⟩
theorem alike_turn {ws us : List Int} {n : Nat} {asid first T : Int} {d : Nat → Desc} (h : Four ws n asid first T d) (h2 : Four us n asid first T (turnD d true)) {o : Int} (ho : alikeB (fourL first T d) o = true) : alikeB (fourL first T (turnD d true)) 2 = true := by
  refine alikeB_yes fun i f hf => ?_
  have hi : i < 4 := by have := (List.getElem?_eq_some_iff.1 hf).1; simpa [fourL] using this
  rw [four_get first T _ i hi] at hf
  obtain rfl := Option.some.inj hf
  rw [four_zero]
  obtain ⟨a1, a2, a3, a4, a5, a6⟩ := foundD_page (T := T) (P := first % 8 + (i : Int)) (p := first + (i : Int)) (h2.ok i hi).2
  obtain ⟨b1, b2, b3, b4, b5, b6⟩ := foundD_page (T := T) (P := first % 8 + ((0 : Nat) : Int)) (p := first + ((0 : Nat) : Int)) (h2.ok 0 (by omega)).2
  obtain ⟨c1, c2, c3, c4⟩ := alike_flat h ho i hi
  simp only [likeB, Bool.and_eq_true, beq_iff_eq, a1, a2, a3, a4, a5, b3, b4, b5]
  exact ⟨⟨⟨⟨trivial, rfl⟩, c2⟩, c3⟩, c4⟩
theorem alike_not {l : List Found} (hl : 0 < l.length) (h : alikeB l 0 = true) : alikeB l 2 = false := by
  cases h2 : alikeB l 2 with
  | false => rfl
  | true =>
    have e := List.getElem?_eq_getElem hl
    have a := alikeB_at h e
    have b := alikeB_at h2 e
    simp only [likeB, Bool.and_eq_true, beq_iff_eq] at a b
    have := a.1.1.1.2.symm.trans b.1.1.1.2
    omega
/-- Folded and unfolded again: word for word. -/
theorem fold_back {ws : List Int} {n : Nat} {asid first T : Int} {d : Nat → Desc} (h : Four ws n asid first T d) (ho : alikeB (fourL first T d) 0 = true) {us : List Int} (hus : doW n ws (anewL ws (fourL first T d) asid first true) = us) :
    doW n us (anewL us (fourL first T (turnD d true)) asid first false) = ws := by
  obtain ⟨_, _, hF, hoff⟩ := turn_behind h true
  rw [hus] at hF hoff
  obtain ⟨_, _, hF2, hoff2⟩ := turn_behind hF false
  generalize doW n us (anewL us (fourL first T (turnD d true)) asid first false) = vs at *
  apply List.ext_getElem
  · rw [hF2.len, h.len]
  · intro j h1 h2
    have e : vs.getD j 0 = ws.getD j 0 := by
      by_cases hj : ∃ i : Nat, i < 4 ∧ T.toNat * 8 + (first % 8 + (i : Int)).toNat = j
      · obtain ⟨i, hi, rfl⟩ := hj
        rw [hF2.word i hi, h.word i hi]
        obtain ⟨c1, _⟩ := alike_flat h ho i hi
        have hb : (d i).fFold = false := by
          cases hh : (d i).fFold with
          | false => rfl
          | true => rw [hh] at c1; simp at c1
        unfold turnD
        dsimp only
        generalize d i = z at *
        obtain ⟨z0, z1, z2, z3, z4, z5, z6⟩ := z
        dsimp only at hb
        subst hb
        rfl
      · have hj' : ∀ i : Nat, i < 4 → T.toNat * 8 + (first % 8 + (i : Int)).toNat ≠ j := fun i hi he => hj ⟨i, hi, he⟩
        rw [hoff2 j hj', hoff j hj']
    rw [List.getD_eq_getElem?_getD, List.getD_eq_getElem?_getD, List.getElem?_eq_getElem h1, List.getElem?_eq_getElem h2] at e
    exact e

end Go.Proofs.Ytapeoeakiphfpaa

/- The contract of paviorlaw17.played. -/
namespace Go.Proofs.Ytapeoeakiphfpaa
open Go.RowKit
set_option linter.unusedVariables false
set_option linter.unusedSimpArgs false
attribute [local go_sem] setCell_drewN alloc_drewN lt_moreE le_moreE lt_moreK le_moreK cell_more frozen_more set_more drew_more drewN_more

set_option maxRecDepth 100000 in
set_option maxHeartbeats 8000000 in
theorem law17_played (w : World) {h hc n : Nat} {gb0 gc0 : Nat → Nat} {ws : List Int} (hr : RefAt w h hc n gb0 gc0 ws) (hw : WOk ws) (n1 : 1 ≤ n) (n2 : n ≤ 512) {B cap : Nat} {a : Option Addr} {l : List Step} (HO0 : OwnS w B (.slice a l.length cap) l) (hl : l.length ≤ 100000) (hs : Safe n ws [] l) (hs6 : ∀ s ∈ l, s.fKind ≠ 6) :
    Calls Try.prog 54 #[.slice (some ⟨h, 0, none⟩) n hc, .slice a l.length cap] w fun e w' => Ext w w' ∧ ∃ (h1 hc1 : Nat) (gb1 gc1 : Nat → Nat), e = .returned (.tuple #[.slice (some ⟨h1, 0, none⟩) n hc1, .bool true]) ∧ RefAt w' h1 hc1 n gb1 gc1 (doW n ws l) := by
  have HR := Lib.hid hr
  have HWs := Lib.hid hw
  have HS := Lib.hid hs
  have HS6 := Lib.hid hs6
  clear hs6
  have HO := Lib.hid HO0
  have hcap := own_cap HO0
  have hcap1 := hcap.2.1
  clear hr hw hs HO0 hcap
  go_enter Try.func54, Try.ntmps54
  go_wp2_with fail
  refine (watch_New w w (Ext.refl w)).mono ?_
  rintro e w1 ⟨hE1, _, wb, mb, rfl, hw1⟩
  have HE1 := Lib.hid hE1
  have HW1 := Lib.hid hw1
  clear hw1 hE1
  go_wp2_with fail
  refine (ref12_Copy _ (HR.out.kept0 HE1.out.grow) n1 n2).mono ?_
  rintro e w2 ⟨hE2, mh, mc, gb, gc, rfl, hr2, hmh, hgb⟩
  have HW2 := Lib.hid (HW1.out.ext hE2)
  have HE2 := Lib.hid (HE1.out.trans hE2)
  have HR2 := Lib.hid hr2
  have hmw : w.heap.size ≤ mh := Nat.le_trans HE1.out.size hmh
  have HGB := Lib.hid (show ∀ i, i < n → w.heap.size ≤ gb i from fun i hi => Nat.le_trans HE1.out.size (hgb i hi))
  clear hE2 hr2 hmh hgb HW1 HE1
  go_wp2_with fail
  generalize hBw : w.heap.size = Bw at *
  have HBw := Lib.hid hBw
  clear hBw
  go_loopw [8, 9, 10] (fun i _ _ wr => ∃ k : Nat, k ≤ l.length ∧ i = .int .i64 k ∧ Ext w wr ∧ ∃ (gs : List Gap) (clock : Nat) (vs : List Int) (gb gc : Nat → Nat), Hid (WatchAt wr Bw wb mb gs clock false) ∧ Hid (Safe n vs (gs.map Gap.gc) (l.drop k)) ∧ Hid (RefAt wr mh mc n gb gc vs) ∧ Hid (∀ i, i < n → Bw ≤ gb i) ∧ WOk vs ∧ Hid (doW n vs (l.drop k) = doW n ws l)) (fun i _ _ _ => l.length - (intOf i).toNat)
  case atStart => exact ⟨0, Nat.zero_le _, rfl, HE2.out, [], 0, ws, gb, gc, HW2, HS, HR2, HGB, HWs.out, Lib.hid rfl⟩
  case round =>
    obtain ⟨k, hk, rfl, hEr, gs, clock, vs, gb, gc, HWr, HSr, HRr, HGB, hwv, HDR⟩ := hrel
    have HEr := Lib.hid hEr
    have HWv := Lib.hid hwv
    clear hEr hwv HW2 HR2 HE2
    by_cases hlt : k < l.length
    · have hz : l[k]? = some l[k] := List.getElem?_eq_getElem hlt
      have h6 := Lib.hid (HS6.out _ (List.getElem_mem hlt))
      have hdr := HSr.out
      have hdo := HDR.out
      rw [List.drop_eq_getElem_cons hlt] at hdr hdo
      rw [doW_cons] at hdo
      generalize l[k] = s at *
      have HSd := Lib.hid hdr
      have HDR1 := Lib.hid hdo
      clear hdo HDR
      have HOr := own_ext HO.out HEr.out
      obtain ⟨g, rfl, _, hgs, _, hcl, _⟩ := own_at HOr (by omega)
      obtain ⟨x0, x1, x2, x3, x4, x5, x6, x7, x8, x9⟩ := step_at hcl k s hz
      obtain ⟨kd, asd, lv, tb, pl, fi, va, to', fr', ii⟩ := s
      dsimp only at *
      have HB4 := Lib.hid (heap_alloc_new wr (.cells #[.int .i64 kd, .int .i64 asd, .int .i64 lv, .int .i64 tb, .int .i64 pl, .int .i64 fi, .int .u64 va, .int .i64 to', .int .i64 fr', .int .i64 ii] 73))
      have HW4 := Lib.hid (HWr.out.ext ((Ext.refl wr).alloc (.cells #[.int .i64 kd, .int .i64 asd, .int .i64 lv, .int .i64 tb, .int .i64 pl, .int .i64 fi, .int .u64 va, .int .i64 to', .int .i64 fr', .int .i64 ii] 73)))
      have HE4 := Lib.hid (HEr.out.alloc (.cells #[.int .i64 kd, .int .i64 asd, .int .i64 lv, .int .i64 tb, .int .i64 pl, .int .i64 fi, .int .u64 va, .int .i64 to', .int .i64 fr', .int .i64 ii] 73))
      have HR4 := Lib.hid (HRr.out.alloc (.cells #[.int .i64 kd, .int .i64 asd, .int .i64 lv, .int .i64 tb, .int .i64 pl, .int .i64 fi, .int .u64 va, .int .i64 to', .int .i64 fr', .int .i64 ii] 73))
      have hB4 : Bw ≤ (wr.alloc (.cells #[.int .i64 kd, .int .i64 asd, .int .i64 lv, .int .i64 tb, .int .i64 pl, .int .i64 fi, .int .u64 va, .int .i64 to', .int .i64 fr', .int .i64 ii] 73)).heap.size := by rw [← HBw.out]; exact HE4.out.size
      have hBWw : w.heap.size ≤ Bw := by rw [HBw.out]; exact Nat.le_refl _
      clear hcl hz hdr HOr HWr HEr HRr HSr
      rcases safe_cases HSd.out with ⟨hk1, hso, htn, L, hL, hm, h⟩ | ⟨hk1, p0, p1, h⟩ | ⟨hk1, hso, h⟩ | ⟨hk1, h⟩
      · dsimp only at hk1 hL htn hm h
        subst hk1 hL
        rcases h with ⟨ho, hn, hG, h⟩ | ⟨ho, hn, hG, h⟩
        · have HSn := Lib.hid h
          clear h HSd
          have HHas := Lib.hid (hasB_of (n := n) ⟨hm.t0, htn, hm.p0, hm.p1⟩)
          have hm' := hm
          obtain ⟨T, rfl⟩ := Int.eq_ofNat_of_zero_le hm.t0
          obtain ⟨P, rfl⟩ := Int.eq_ofNat_of_zero_le hm.p0
          have hTn : T < n := by omega
          have hP8 : P < 8 := by have := hm.p1; omega
          have hP8' : (P : Int) < 8 := by omega
          have hT8' : (T : Int) < n := by omega
          rw [Int.toNat_natCast, Int.toNat_natCast] at ho
          have HMay := Lib.hid hm
          have HO1 := Lib.hid ho
          have HN1 := Lib.hid hn
          have HG1 := Lib.hid hG
          have hold := HWv.out.getD (T * 8 + P)
          have HOld := Lib.hid hold
          have HSo := Lib.hid hso
          clear hm hm' ho hn hG hold
          go_wp2_with (go_at_call 21; refine (ref03_HasB _ _ _ _ _ _ _ HHas.out).mono ?_; rintro e w' ⟨rfl, hww⟩; rw [hww]; clear hww w')
          obtain ⟨c0, c1, c2, c3, c4, c5, c6, c7, c8, c9, cf⟩ := cells10 HB4.out
          have y0 := HR4.out.hcell T hTn
          have y1 := HR4.out.cell T P hTn hP8
          have hccT := HR4.out.cc T hTn
          have hncT := HR4.out.nc
          generalize (wr.alloc (.cells #[.int .i64 1, .int .i64 asd, .int .i64 L, .int .i64 T, .int .i64 P, .int .i64 fi, .int .u64 va, .int .i64 to', .int .i64 fr', .int .i64 ii] 73)) = W4 at *
          generalize wr.heap.size = xb at *
          generalize hX : vs.getD (T * 8 + P) 0 = X at *
          refine wp_region_still_tail 22 (by kernel_rfl) (by kernel_rfl) ?_
          simp only [List.take_succ_cons, List.take_zero, List.drop_succ_cons, List.drop_zero]
          repeat still_step
          refine wpStill_nil ?_
          go_wp2_with fail
          clear y0 y1 c0 c1 c2 c3 c4 c5 c6 c7 c8 c9 cf
          refine (watch_close w _ HE4.out.drew (HW4.out.ext ((Ext.refl W4).drew)) hBWw hB4 HMay.out X va HOld.out.1 HOld.out.2 HSo.out.1 HSo.out.2 HO1.out HN1.out (fun g hg => HG1.out g.gc (List.mem_map_of_mem hg))).mono ?_
          rintro e W5 ⟨rfl, hE5, hK5, tb5, bo5, hW5⟩
          have HSf := Lib.hid (show Hid (Safe n (stepW n vs ⟨1, asd, L, T, P, fi, va, to', fr', ii⟩) ((gs ++ [(⟨(T : Int), (P : Int), asd, L, fi, List.replicate (spanL L).toNat false, X, tb5, bo5⟩ : Gap)]).map Gap.gc) (l.drop (k + 1))) from by rw [List.map_append]; exact HSn.out)
          have HW5 := Lib.hid hW5
          have HE5 := Lib.hid hE5
          have HR5 := Lib.hid (RefAt.keepG (by repeat (first | exact HR4.out | apply RefAt.more | apply RefAt.alloc | apply RefAt.drew | apply RefAt.drewN)) hK5)
          have HB5 := Lib.hid (hK5 _ _ (box_drew HB4.out) (notG_of (by decide) (by decide)))
          have hso := HSo.out
          clear hW5 hE5 hK5 HW4 HE4 HR4 HB4
          obtain ⟨c0, c1, c2, c3, c4, c5, c6, c7, c8, c9, cf⟩ := cells10 HB5.out
          go_wp2_with fail
          have HDo := ref12_Do1 w W5 HE5.out HR5.out (by rw [HBw.out]; exact hmw) (fun i hi => by rw [HBw.out]; exact HGB.out i hi) ⟨1, asd, L, T, P, fi, va, to', fr', ii⟩
          dsimp only at HDo
          with_reducible refine HDo.mono ?_
          clear HDo
          rintro e w9 ⟨rfl, hE9, hK9, gb9, gc9, hr9, hgb9⟩
          have HW9 := Lib.hid (HW5.out.keepW hK9)
          have HE9 := Lib.hid hE9
          have HR9 := Lib.hid (show RefAt w9 mh mc n gb9 gc9 (stepW n vs ⟨1, asd, L, T, P, fi, va, to', fr', ii⟩) from hr9)
          have HGB9 := Lib.hid (show ∀ i, i < n → Bw ≤ gb9 i from fun i hi => by rw [← HBw.out]; exact hgb9 i hi)
          clear hE9 hK9 hr9 hgb9
          go_wp2_with fail
          go_roundw
          case rel => exact ⟨k + 1, by omega, by go_num, HE9.out, _, _, _, _, _, HW9, HSf.out, HR9, HGB9, WOk_stepW HWv.out hso, HDR1⟩
          case measure => simp [intOf]; omega
        · have HSn := Lib.hid h
          clear h HSd
          have HHas := Lib.hid (hasB_of (n := n) ⟨hm.t0, htn, hm.p0, hm.p1⟩)
          have hm' := hm
          obtain ⟨T, rfl⟩ := Int.eq_ofNat_of_zero_le hm.t0
          obtain ⟨P, rfl⟩ := Int.eq_ofNat_of_zero_le hm.p0
          have hTn : T < n := by omega
          have hP8 : P < 8 := by have := hm.p1; omega
          have hP8' : (P : Int) < 8 := by omega
          have hT8' : (T : Int) < n := by omega
          rw [Int.toNat_natCast, Int.toNat_natCast] at ho
          have HMay := Lib.hid hm
          have HO1 := Lib.hid ho
          have HN1 := Lib.hid hn
          have HG1 := Lib.hid hG
          have hold := HWv.out.getD (T * 8 + P)
          have HOld := Lib.hid hold
          have HSo := Lib.hid hso
          clear hm hm' ho hn hG hold
          go_wp2_with (go_at_call 21; refine (ref03_HasB _ _ _ _ _ _ _ HHas.out).mono ?_; rintro e w' ⟨rfl, hww⟩; rw [hww]; clear hww w')
          obtain ⟨c0, c1, c2, c3, c4, c5, c6, c7, c8, c9, cf⟩ := cells10 HB4.out
          have y0 := HR4.out.hcell T hTn
          have y1 := HR4.out.cell T P hTn hP8
          have hccT := HR4.out.cc T hTn
          have hncT := HR4.out.nc
          generalize (wr.alloc (.cells #[.int .i64 1, .int .i64 asd, .int .i64 L, .int .i64 T, .int .i64 P, .int .i64 fi, .int .u64 va, .int .i64 to', .int .i64 fr', .int .i64 ii] 73)) = W4 at *
          generalize wr.heap.size = xb at *
          generalize hX : vs.getD (T * 8 + P) 0 = X at *
          refine wp_region_still_tail 22 (by kernel_rfl) (by kernel_rfl) ?_
          simp only [List.take_succ_cons, List.take_zero, List.drop_succ_cons, List.drop_zero]
          repeat still_step
          refine wpStill_nil ?_
          go_wp2_with fail
          clear y0 y1 c0 c1 c2 c3 c4 c5 c6 c7 c8 c9 cf
          refine (watch_open w _ HE4.out.drew (HW4.out.ext ((Ext.refl W4).drew)) hBWw hB4 HMay.out X va HOld.out.1 HOld.out.2 HSo.out.1 HSo.out.2 HO1.out HN1.out (fun g hg hk => HG1.out g.gc (List.mem_map_of_mem hg) hk)).mono ?_
          rintro e W5 ⟨rfl, hE5, hK5, hW5⟩
          have HSf := Lib.hid (show Hid (Safe n (stepW n vs ⟨1, asd, L, T, P, fi, va, to', fr', ii⟩) ((gs.filter fun g => !decide (g.t = (T : Int) ∧ g.p = (P : Int))).map Gap.gc) (l.drop (k + 1))) from by rw [key_gc]; exact HSn.out)
          have HW5 := Lib.hid hW5
          have HE5 := Lib.hid hE5
          have HR5 := Lib.hid (RefAt.keepG (by repeat (first | exact HR4.out | apply RefAt.more | apply RefAt.alloc | apply RefAt.drew | apply RefAt.drewN)) hK5)
          have HB5 := Lib.hid (hK5 _ _ (box_drew HB4.out) (notG_of (by decide) (by decide)))
          have hso := HSo.out
          clear hW5 hE5 hK5 HW4 HE4 HR4 HB4
          obtain ⟨c0, c1, c2, c3, c4, c5, c6, c7, c8, c9, cf⟩ := cells10 HB5.out
          go_wp2_with fail
          have HDo := ref12_Do1 w W5 HE5.out HR5.out (by rw [HBw.out]; exact hmw) (fun i hi => by rw [HBw.out]; exact HGB.out i hi) ⟨1, asd, L, T, P, fi, va, to', fr', ii⟩
          dsimp only at HDo
          with_reducible refine HDo.mono ?_
          clear HDo
          rintro e w9 ⟨rfl, hE9, hK9, gb9, gc9, hr9, hgb9⟩
          have HW9 := Lib.hid (HW5.out.keepW hK9)
          have HE9 := Lib.hid hE9
          have HR9 := Lib.hid (show RefAt w9 mh mc n gb9 gc9 (stepW n vs ⟨1, asd, L, T, P, fi, va, to', fr', ii⟩) from hr9)
          have HGB9 := Lib.hid (show ∀ i, i < n → Bw ≤ gb9 i from fun i hi => by rw [← HBw.out]; exact hgb9 i hi)
          clear hE9 hK9 hr9 hgb9
          go_wp2_with fail
          go_roundw
          case rel => exact ⟨k + 1, by omega, by go_num, HE9.out, _, _, _, _, _, HW9, HSf.out, HR9, HGB9, WOk_stepW HWv.out hso, HDR1⟩
          case measure => simp [intOf]; omega
      · dsimp only at hk1 p0 p1 h
        subst hk1
        have HSn := Lib.hid h
        clear h HSd
        go_wp2_with fail
        refine (watch_Told w _ HE4.out HW4.out hBWw asd fi p0 p1).mono ?_
        rintro e W5 ⟨rfl, hE5, hK5, hW5⟩
        have HSf := Lib.hid (show Hid (Safe n (stepW n vs ⟨2, asd, lv, tb, pl, fi, va, to', fr', ii⟩) ((gs.map (tellIf asd fi)).map Gap.gc) (l.drop (k + 1))) from by rw [tell_gc]; exact HSn.out)
        have HW5 := Lib.hid hW5
        have HE5 := Lib.hid hE5
        have HR5 := Lib.hid (HR4.out.keepG hK5)
        have HB5 := Lib.hid (hK5 _ _ HB4.out (notG_of (by decide) (by decide)))
        clear hW5 hE5 hK5 HW4 HE4 HR4 HB4
        obtain ⟨c0, c1, c2, c3, c4, c5, c6, c7, c8, c9, cf⟩ := cells10 HB5.out
        go_wp2_with fail
        have HDo := ref12_Do1 w W5 HE5.out HR5.out (by rw [HBw.out]; exact hmw) (fun i hi => by rw [HBw.out]; exact HGB.out i hi) ⟨2, asd, lv, tb, pl, fi, va, to', fr', ii⟩
        dsimp only at HDo
        with_reducible refine HDo.mono ?_
        clear HDo
        rintro e w9 ⟨rfl, hE9, hK9, gb9, gc9, hr9, hgb9⟩
        have HW9 := Lib.hid (HW5.out.keepW hK9)
        have HE9 := Lib.hid hE9
        have HR9 := Lib.hid (show RefAt w9 mh mc n gb9 gc9 (stepW n vs ⟨2, asd, lv, tb, pl, fi, va, to', fr', ii⟩) from hr9)
        have HGB9 := Lib.hid (show ∀ i, i < n → Bw ≤ gb9 i from fun i hi => by rw [← HBw.out]; exact hgb9 i hi)
        clear hE9 hK9 hr9 hgb9
        go_wp2_with fail
        go_roundw
        case rel => exact ⟨k + 1, by omega, by go_num, HE9.out, _, _, _, _, _, HW9, HSf.out, HR9, HGB9, by rw [stepW_none (by show (2 : Int) ≠ 1; omega) (by show (2 : Int) ≠ 4; omega) (by show (2 : Int) ≠ 5; omega)]; exact HWv.out, HDR1⟩
        case measure => simp [intOf]; omega
      · dsimp only at hk1 h
        have HSn := Lib.hid h
        clear h HSd
        rcases hk1 with rfl | rfl
        · have HSo := Lib.hid hso
          clear hso
          have HSf := HSn
          have HW5 := HW4
          have HE5 := HE4
          have HR5 := HR4
          have HB5 := HB4
          have hso := HSo.out
          clear HW4 HE4 HR4 HB4
          go_wp2_with fail
          have hsz : (wr.alloc (.cells #[.int .i64 4, .int .i64 asd, .int .i64 lv, .int .i64 tb, .int .i64 pl, .int .i64 fi, .int .u64 va, .int .i64 to', .int .i64 fr', .int .i64 ii] 73)).heap.size = wr.heap.size + 1 := by simp
          generalize (wr.alloc (.cells #[.int .i64 4, .int .i64 asd, .int .i64 lv, .int .i64 tb, .int .i64 pl, .int .i64 fi, .int .u64 va, .int .i64 to', .int .i64 fr', .int .i64 ii] 73)) = W5 at *
          generalize wr.heap.size = xb at *
          have HDo := ref12_Do1 w W5 HE5.out HR5.out (by rw [HBw.out]; exact hmw) (fun i hi => by rw [HBw.out]; exact HGB.out i hi) ⟨4, asd, lv, tb, pl, fi, va, to', fr', ii⟩
          dsimp only at HDo
          rw [hsz] at HDo
          clear hsz
          with_reducible refine HDo.mono ?_
          clear HDo
          rintro e w9 ⟨rfl, hE9, hK9, gb9, gc9, hr9, hgb9⟩
          have HW9 := Lib.hid (HW5.out.keepW hK9)
          have HE9 := Lib.hid hE9
          have HR9 := Lib.hid (show RefAt w9 mh mc n gb9 gc9 (stepW n vs ⟨4, asd, lv, tb, pl, fi, va, to', fr', ii⟩) from hr9)
          have HGB9 := Lib.hid (show ∀ i, i < n → Bw ≤ gb9 i from fun i hi => by rw [← HBw.out]; exact hgb9 i hi)
          clear hE9 hK9 hr9 hgb9
          go_wp2_with fail
          go_roundw
          case rel => exact ⟨k + 1, by omega, by go_num, HE9.out, _, _, _, _, _, HW9, HSf.out, HR9, HGB9, WOk_stepW HWv.out hso, HDR1⟩
          case measure => simp [intOf]; omega
        · have HSo := Lib.hid hso
          clear hso
          have HSf := HSn
          have HW5 := HW4
          have HE5 := HE4
          have HR5 := HR4
          have HB5 := HB4
          have hso := HSo.out
          clear HW4 HE4 HR4 HB4
          go_wp2_with fail
          have hsz : (wr.alloc (.cells #[.int .i64 5, .int .i64 asd, .int .i64 lv, .int .i64 tb, .int .i64 pl, .int .i64 fi, .int .u64 va, .int .i64 to', .int .i64 fr', .int .i64 ii] 73)).heap.size = wr.heap.size + 1 := by simp
          generalize (wr.alloc (.cells #[.int .i64 5, .int .i64 asd, .int .i64 lv, .int .i64 tb, .int .i64 pl, .int .i64 fi, .int .u64 va, .int .i64 to', .int .i64 fr', .int .i64 ii] 73)) = W5 at *
          generalize wr.heap.size = xb at *
          have HDo := ref12_Do1 w W5 HE5.out HR5.out (by rw [HBw.out]; exact hmw) (fun i hi => by rw [HBw.out]; exact HGB.out i hi) ⟨5, asd, lv, tb, pl, fi, va, to', fr', ii⟩
          dsimp only at HDo
          rw [hsz] at HDo
          clear hsz
          with_reducible refine HDo.mono ?_
          clear HDo
          rintro e w9 ⟨rfl, hE9, hK9, gb9, gc9, hr9, hgb9⟩
          have HW9 := Lib.hid (HW5.out.keepW hK9)
          have HE9 := Lib.hid hE9
          have HR9 := Lib.hid (show RefAt w9 mh mc n gb9 gc9 (stepW n vs ⟨5, asd, lv, tb, pl, fi, va, to', fr', ii⟩) from hr9)
          have HGB9 := Lib.hid (show ∀ i, i < n → Bw ≤ gb9 i from fun i hi => by rw [← HBw.out]; exact hgb9 i hi)
          clear hE9 hK9 hr9 hgb9
          go_wp2_with fail
          go_roundw
          case rel => exact ⟨k + 1, by omega, by go_num, HE9.out, _, _, _, _, _, HW9, HSf.out, HR9, HGB9, WOk_stepW HWv.out hso, HDR1⟩
          case measure => simp [intOf]; omega
      · exact absurd hk1 h6.out
    · obtain rfl : k = l.length := by omega
      have HBr := Lib.hid (watch_Broken wr HWr.out)
      have hdo := HDR.out
      rw [List.drop_length] at hdo
      clear hlt HDR
      go_wp2_with fail
      refine HBr.out.mono ?_
      rintro e w' ⟨rfl, rfl⟩
      go_wp2_with fail
      go_ret2
      exact ⟨HEr.out, mh, mc, gb, gc, rfl, hdo ▸ HRr.out⟩

end Go.Proofs.Ytapeoeakiphfpaa

/- The contract of paviorref17.Alike; the law paviorlaw17.FoldTells. -/
namespace Go.Proofs.Ytapeoeakiphfpaa
open Go.RowKit
set_option linter.unusedVariables false
set_option linter.unusedSimpArgs false
attribute [local go_sem] setCell_drewN alloc_drewN lt_moreE le_moreE lt_moreK le_moreK cell_more frozen_more set_more drew_more drewN_more

/-- The document's word on four pages. -/
def refAlike (l : List Found) (folded : Bool) : Bool := if folded then alikeB l 2 else mayB l
theorem refAlike_no {l : List Found} {folded : Bool} (h : alikeB l (if folded then 2 else 0) = false) : refAlike l folded = false := by
  cases folded <;> simp [refAlike, mayB] at h ⊢ <;> simp [h]

theorem run_up : (runN (List.replicate 8 0) 1 0 0 4).map mayB = some false := by decide +kernel

set_option maxRecDepth 100000 in
set_option maxHeartbeats 1000000 in
theorem law17_up (w : World) : Calls Try.prog 50 #[] w fun e w' => Ext w w' ∧ e = .returned (.bool true) := by
  have hU := run_up
  have heq := fun (w : World) => eql_err w 1 1
  have hzw : WOk (List.replicate 8 (0 : Int)) := fun x hx => by rw [List.eq_of_mem_replicate hx]; omega
  generalize hZ : List.replicate 8 (0 : Int) = Z at *
  have HU := Lib.hid hU
  have HZ := Lib.hid hZ
  clear hU hZ
  go_enter Try.func50, Try.ntmps50
  go_wp2_with fail
  refine (phys_New_yes _ 1 (by omega) (by omega)).mono ?_
  rintro e w1 ⟨b, g, rfl, hm, hgr, _, _⟩
  rw [show 1 * 8 = 8 from rfl, HZ.out] at hm
  have HM := Lib.hid hm
  obtain ⟨ex0, rfl⟩ := more_of_grow hgr
  have HF := Lib.hid (fun w (hm : MemAt w b g 1 1 Z) => fold_May w hm hzw 0 0 (by omega) (by decide) (by omega) (by omega) _ rfl)
  have HN := Lib.hid (fun w => fold_May_nil w 0 0)
  clear hgr hm
  go_wp2_with fail
  refine (HF.out _ (by repeat (first | exact HM.out | apply MemAt.more | apply MemAt.alloc | apply MemAt.drew | apply MemAt.drewN))).mono ?_
  rintro e w' ⟨⟨ex1, rfl⟩, rfl⟩
  rw [show tellV ((runN Z ((1 : Nat) : Int) 0 (0 - 0 % 4) 4).map mayB) = .tuple #[.bool false, .nilIface] from by rw [show (runN Z ((1 : Nat) : Int) 0 (0 - 0 % 4) 4).map mayB = some false from HU.out]; rfl]
  go_wp2_with fail
  refine (HN.out _).mono ?_
  rintro e w' ⟨⟨ex2, rfl⟩, rfl⟩
  go_wp2_with fail
  go_ret
  exact ⟨(by repeat (first | exact Ext.refl _ | apply Ext.more | apply Ext.alloc | apply Ext.drew | apply Ext.drewN)), rfl⟩

theorem run_orders {ws : List Int} {n root first : Int} {i : Nat} {l : List Found} (h : runN ws n root first i = some l) : ∀ f ∈ l, f.fKind = 3 → f.fOrder = 0 ∨ f.fOrder = 2 := by
  intro f hf hk
  obtain ⟨j, hj, rfl⟩ := List.getElem_of_mem hf
  exact (walk_page (runN_at i l h j _ (List.getElem?_eq_getElem hj)) hk).2.1

end Go.Proofs.Ytapeoeakiphfpaa
