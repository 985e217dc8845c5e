import Derived.Test.YtapeoeakiphfpaaReff
import Derived.Test.YtapeoeakiphfpaaTree
import Derived.Deep.RegionHeld3
/- The contracts of the document's answer paviorref12: Way, Need. -/
namespace Go.Proofs.Ytapeoeakiphfpaa
open Go.RowKit
set_option linter.unusedVariables false
set_option linter.unusedSimpArgs false
attribute [local go_sem] setCell_drewN alloc_drewN lt_moreE le_moreE lt_moreK le_moreK cell_more frozen_more set_more drew_more drewN_more

def tabC (s : Int × Int) : List Value := [.int .i64 s.1]
theorem el_int : ElemAt Try.prog 54 3 (.int .i64 0) 1 8 := ⟨Try.underlying54, by kernel_rfl, rfl, by decide, by decide⟩
/-- What Way answers. -/
def WayRet (B : Nat) (w' : World) (r : Option (List (Int × Int) × Desc)) (e : Ending) : Prop := match r with
  | some (s, d) => ∃ a cap, e = .returned (.tuple #[.slice a s.length cap, d.v, .bool true]) ∧ w'.ownsRow B 3 1 (.slice a s.length cap) s.length (s.map tabC).flatten
  | none => e = .returned (.tuple #[.slice none 0 0, noneD.v, .bool false])
theorem wayRet_some {B B' n : Nat} {w' : World} {s : List (Int × Int)} {d : Desc} {v : Value} {xs : List Value} (h : w'.ownsRow B' 3 1 v n xs) (hb : B ≤ B') (hn : n = s.length) (hx : xs = (s.map tabC).flatten) : WayRet B w' (some (s, d)) (.returned (.tuple #[v, d.v, .bool true])) := by
  obtain ⟨a, cap, rfl⟩ := own_form h
  subst hn hx
  exact ⟨a, cap, rfl, own_low h hb⟩

set_option maxRecDepth 100000 in
set_option maxHeartbeats 4000000 in
theorem ref12_Way (w : World) {h hc n : Nat} {gb gc : Nat → Nat} {us : List Int} (hr : RefAt w h hc n gb gc us) (hw : WOk us) (root page : Int) (L : Nat) (h0 : 0 ≤ root) (h1 : root < n) (p0 : 0 ≤ page) (p1 : page < 4096) (l1 : L < 4) :
    Calls Try.prog 85 #[.slice (some ⟨h, 0, none⟩) n hc, .int .i64 root, .int .i64 page, .int .i64 L] w fun e w' => Ext w w' ∧ WayRet w.heap.size w' (wayAt us n page (L + 1) 0 root) e := by
  have HR := Lib.hid hr
  have HW := Lib.hid hw
  clear hr hw
  go_enter Try.func85, Try.ntmps85
  go_wp2_with fail
  go_loopw [11, 12, 13] (fun o t l wr => ∃ (lv : Nat) (tb : Int) (acc : List (Int × Int)), l = .int .i64 lv ∧ t = .int .i64 tb ∧ lv ≤ L ∧ acc.length = lv ∧ Ext (w.alloc (.cells #[.int .i64 0, .int .i64 0, .bool false, .bool false, .bool false, .bool false, .int .i64 0] 107)) wr ∧
      Hid (wayAt us n page (L + 1) 0 root = if 0 ≤ tb ∧ tb < n then (wayAt us n page (L + 1 - lv) lv tb).map fun r => (acc ++ r.1, r.2) else none) ∧ Hid (wr.ownsRow (w.alloc (.cells #[.int .i64 0, .int .i64 0, .bool false, .bool false, .bool false, .bool false, .int .i64 0] 107)).heap.size 3 1 o acc.length (acc.map tabC).flatten)) (fun _ _ l _ => 5 - (intOf l).toNat)
  case atStart => exact ⟨0, root, [], rfl, rfl, by omega, rfl, Ext.refl _, by show _ = _; rw [if_pos ⟨h0, h1⟩]; cases wayAt us n page (L + 1) 0 root <;> simp, World.ownsRow_nil _ _ _ _⟩
  case round =>
    obtain ⟨lv, tb, acc, rfl, rfl, hlv, hal, ⟨x, rfl⟩, HE, HO⟩ := hrel
    by_cases ht : 0 ≤ tb ∧ tb < n
    · have hst0 := fun (d : Desc) (pl : Int) => wayAt_in (ws := us) (n := n) (page := page) (k := L - lv) (l := lv) (tb := tb) (pl := pl) (d := d)
      have HE' := Lib.hid (HE.out.trans (if_pos ht))
      obtain ⟨t0, t1⟩ := ht
      obtain ⟨T, rfl⟩ := Int.eq_ofNat_of_zero_le t0
      have q0 := placeN_lo lv page
      have q1 := placeN_hi lv page
      have HPl := Lib.hid (fun w => ref04_Place w lv page (by omega) (by omega) p0 p1)
      generalize hpl : placeN lv page = pl at *
      obtain ⟨P, rfl⟩ := Int.eq_ofNat_of_zero_le q0
      have hrb := HR.out
      have hlt := hrb.lth
      have hgl := hrb.ltg T (by omega)
      obtain ⟨hl1, hl2, hl3⟩ := lt_facts hlt
      obtain ⟨hg1, hg2, hg3⟩ := lt_facts hgl
      have y0 := hrb.hcell T (by omega)
      have y1 := hrb.cell T P (by omega) (by omega)
      have hX := HW.out.getD (T * 8 + P)
      generalize hx : us.getD (T * 8 + P) 0 = X at *
      obtain ⟨x0, x1⟩ := hX
      have KD := Lib.hid (fun w => ref02_Decode w lv X x0 x1)
      have hcc := hrb.cc T (by omega)
      have hn := hrb.nc
      generalize hd : decD lv X = d at *
      have hst := hst0 d P rfl rfl (by rw [Int.toNat_natCast, Int.toNat_natCast, hx, hd])
      obtain ⟨k, f, wr', ex, se, fo, so⟩ := d
      dsimp only at hst
      have HS := Lib.hid hst
      clear hst hst0 hpl hx hd hrb HE
      have hcase : (lv : Int) = L ∨ (lv : Int) ≠ L ∧ k ≠ 1 ∨ (lv : Int) ≠ L ∧ k = 1 := by omega
      have hk1 : k ≠ 1 → (k != 1) = true := by intro h; simpa using h
      have hn1 : (lv : Int) ≠ L → ((lv : Int) == L) = false := by intro h; simpa using h
      have hn2 : (lv : Int) ≠ L → (lv == L) = false := by intro h; simp; omega
      rcases hcase with h | ⟨h, h2⟩ | ⟨h, rfl⟩
      · obtain rfl : L = lv := by omega
        have hv : wayAt us n page (L + 1) 0 root = some (acc ++ [((T : Int), (P : Int))], ⟨k, f, wr', ex, se, fo, so⟩) := by rw [HE'.out, show L + 1 - L = L - L + 1 by omega, HS.out]; simp
        have HV := Lib.hid hv
        clear hv HE' HS h hk1 hn1 hn2
        go_wp2_with ((at_builtin; refine wpList_append_new (w.alloc (.cells #[.int .i64 0, .int .i64 0, .bool false, .bool false, .bool false, .bool false, .int .i64 0] 107)) el_int rfl _ _ rfl u11 acc.length _ rfl (by repeat (first | exact HO.out | apply own_more | apply own_alloc | apply own_drew | apply own_drewN)) (by repeat (first | exact Ext.refl _ | apply Ext.more | apply Ext.alloc | apply Ext.drew | apply Ext.drewN)) _ _ 1 _ rfl (by simp) rfl rfl (by omega) ?_); intro v' x' HO' keep; clear keep)
        go_region_held3 (fun w' => w'.cell? ⟨h, T, none⟩ = some (.slice (some ⟨gb T, 0, none⟩) 8 (gc T)) ∧ w'.cell? ⟨gb T, P, none⟩ = some (.int .u64 X)) (first | (go_simp; done) | (dsimp only; refine ⟨?_, ?_⟩ <;> go_simp))
          (first | (go_at_call 132; refine (HPl.out _).mono ?_; rintro e w' ⟨rfl, rfl⟩) | (go_at_call 104; refine (KD.out _).mono ?_; rintro e w' ⟨⟨ex1, rfl⟩, rfl⟩))
        all_goals
          go_wp2_with fail
          go_region
          all_goals go_wp2
          refine bodyPost_ret (results_tct rfl _ _ w.heap.size 107 _ (0, 0) _ rfl (by repeat (first | (with_reducible exact heap_alloc_new _ _) | (with_reducible apply box_more) | (with_reducible apply box_alloc) | (with_reducible apply box_drew) | (with_reducible apply box_drewN))) Try.underlying107 rfl (by kernel_rfl)) rfl ?_
          refine ⟨(by repeat (first | exact Ext.refl _ | apply Ext.more | apply Ext.alloc | apply Ext.drew | apply Ext.drewN)), ?_⟩
          rw [HV.out]
          exact wayRet_some (own_drew (by repeat (first | exact own_re HO'.out (by simp) | apply own_more | apply own_alloc | apply own_drew))) (by simp) (by simp) (by simp [tabC])
      · have hv : wayAt us n page (L + 1) 0 root = some (acc ++ [((T : Int), (P : Int))], ⟨k, f, wr', ex, se, fo, so⟩) := by rw [HE'.out, show L + 1 - lv = L - lv + 1 by omega, HS.out, if_pos (.inr h2)]; simp
        have HV := Lib.hid hv
        have z1 := hk1 h2
        have z2 := hn1 h
        have z3 := hn2 h
        clear hv HE' HS h hk1 hn1 hn2 h2
        go_wp2_with ((at_builtin; refine wpList_append_new (w.alloc (.cells #[.int .i64 0, .int .i64 0, .bool false, .bool false, .bool false, .bool false, .int .i64 0] 107)) el_int rfl _ _ rfl u11 acc.length _ rfl (by repeat (first | exact HO.out | apply own_more | apply own_alloc | apply own_drew | apply own_drewN)) (by repeat (first | exact Ext.refl _ | apply Ext.more | apply Ext.alloc | apply Ext.drew | apply Ext.drewN)) _ _ 1 _ rfl (by simp) rfl rfl (by omega) ?_); intro v' x' HO' keep; clear keep)
        go_region_held3 (fun w' => w'.cell? ⟨h, T, none⟩ = some (.slice (some ⟨gb T, 0, none⟩) 8 (gc T)) ∧ w'.cell? ⟨gb T, P, none⟩ = some (.int .u64 X)) (first | (go_simp; done) | (dsimp only; refine ⟨?_, ?_⟩ <;> go_simp))
          (first | (go_at_call 132; refine (HPl.out _).mono ?_; rintro e w' ⟨rfl, rfl⟩) | (go_at_call 104; refine (KD.out _).mono ?_; rintro e w' ⟨⟨ex1, rfl⟩, rfl⟩))
        all_goals
          go_wp2_with fail
          go_region
          all_goals go_wp2
          refine bodyPost_ret (results_tct rfl _ _ w.heap.size 107 _ (0, 0) _ rfl (by repeat (first | (with_reducible exact heap_alloc_new _ _) | (with_reducible apply box_more) | (with_reducible apply box_alloc) | (with_reducible apply box_drew) | (with_reducible apply box_drewN))) Try.underlying107 rfl (by kernel_rfl)) rfl ?_
          refine ⟨(by repeat (first | exact Ext.refl _ | apply Ext.more | apply Ext.alloc | apply Ext.drew | apply Ext.drewN)), ?_⟩
          rw [HV.out]
          exact wayRet_some (own_drew (by repeat (first | exact own_re HO'.out (by simp) | apply own_more | apply own_alloc | apply own_drew))) (by simp) (by simp) (by simp [tabC])
      · have hv : Hid (wayAt us n page (L + 1) 0 root = if 0 ≤ f ∧ f < n then (wayAt us n page (L + 1 - (lv + 1)) ((lv + 1 : Nat) : Int) f).map (fun r => ((acc ++ [((T : Int), (P : Int))]) ++ r.1, r.2)) else none) := by
          show _ = _
          rw [HE'.out, show L + 1 - lv = L - lv + 1 by omega, HS.out, if_neg (by simp; omega), show L + 1 - (lv + 1) = L - lv by omega, show ((lv + 1 : Nat) : Int) = (lv : Int) + 1 by simp]
          split
          · cases wayAt us n page (L - lv) ((lv : Int) + 1) f with
            | none => rfl
            | some r => simp
          · rfl
        have hlt : lv + 1 ≤ L := by omega
        have z2 := hn1 h
        have z3 := hn2 h
        clear HE' HS h hk1 hn1 hn2
        go_wp2_with ((at_builtin; refine wpList_append_new (w.alloc (.cells #[.int .i64 0, .int .i64 0, .bool false, .bool false, .bool false, .bool false, .int .i64 0] 107)) el_int rfl _ _ rfl u11 acc.length _ rfl (by repeat (first | exact HO.out | apply own_more | apply own_alloc | apply own_drew | apply own_drewN)) (by repeat (first | exact Ext.refl _ | apply Ext.more | apply Ext.alloc | apply Ext.drew | apply Ext.drewN)) _ _ 1 _ rfl (by simp) rfl rfl (by omega) ?_); intro v' x' HO' keep; clear keep)
        go_region_held3 (fun w' => w'.cell? ⟨h, T, none⟩ = some (.slice (some ⟨gb T, 0, none⟩) 8 (gc T)) ∧ w'.cell? ⟨gb T, P, none⟩ = some (.int .u64 X)) (first | (go_simp; done) | (dsimp only; refine ⟨?_, ?_⟩ <;> go_simp))
          (first | (go_at_call 132; refine (HPl.out _).mono ?_; rintro e w' ⟨rfl, rfl⟩) | (go_at_call 104; refine (KD.out _).mono ?_; rintro e w' ⟨⟨ex1, rfl⟩, rfl⟩))
        all_goals
          go_wp2_with fail
          go_roundw
          case rel => exact ⟨lv + 1, f, acc ++ [((T : Int), (P : Int))], by go_num, rfl, hlt, by simp; omega, (by repeat (first | exact Ext.refl _ | apply Ext.more | apply Ext.alloc | apply Ext.drew | apply Ext.drewN)), hv, by
            show World.ownsRow _ _ _ _ _ _ _
            have := HO'.out
            simp only [List.length_append, List.length_cons, List.length_nil, List.map_append, List.map_cons, List.map_nil, List.flatten_append, List.flatten_cons, List.flatten_nil, tabC, List.append_nil]
            repeat (first | exact this | apply own_more | apply own_alloc | apply own_drew)⟩
          case measure => simp [intOf]; omega
    · have hv : wayAt us n page (L + 1) 0 root = none := by rw [HE.out, if_neg ht]
      have HV := Lib.hid hv
      have ht' : tb < 0 ∨ (n : Int) ≤ tb := by omega
      clear hv ht HE
      rcases ht' with ht | ht
      all_goals
        go_wp2_with fail
        refine bodyPost_ret (results_tct rfl _ _ w.heap.size 107 _ (0, 0) _ rfl (by repeat (first | (with_reducible exact heap_alloc_new _ _) | (with_reducible apply box_more) | (with_reducible apply box_alloc) | (with_reducible apply box_drew) | (with_reducible apply box_drewN))) Try.underlying107 rfl (by kernel_rfl)) rfl ?_
        exact ⟨(by repeat (first | exact Ext.refl _ | apply Ext.more | apply Ext.alloc | apply Ext.drew | apply Ext.drewN)), by rw [HV.out]; rfl⟩

end Go.Proofs.Ytapeoeakiphfpaa
