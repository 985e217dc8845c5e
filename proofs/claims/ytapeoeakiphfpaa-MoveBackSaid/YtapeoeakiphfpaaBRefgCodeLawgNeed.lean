import Derived.Test.YtapeoeakiphfpaaReff
import Derived.Test.YtapeoeakiphfpaaTree
import Derived.Deep.RegionHeld3
import Derived.Test.YtapeoeakiphfpaaBRefbFoldpMore
/- The contracts of the document's answer paviorref12: Way, Need. -/
namespace Go.Proofs.Ytapeoeakiphfpaa
open Go.RowKit
set_option linter.unusedVariables false
set_option linter.unusedSimpArgs false
attribute [local go_sem] setCell_drewN alloc_drewN lt_moreE le_moreE lt_moreK le_moreK cell_more frozen_more set_more drew_more drewN_more

def tabC (s : Int × Int) : List Value := [.int .i64 s.1]
theorem el_int : ElemAt Try.prog 54 3 (.int .i64 0) 1 8 := ⟨Try.underlying54, by kernel_rfl, rfl, by decide, by decide⟩
/-- What Way answers. -/
def WayRet (B : Nat) (w' : World) (r : Option (List (Int × Int) × Desc)) (e : Ending) : Prop := match r with
  | some (s, d) => ∃ a cap, e = .returned (.tuple #[.slice a s.length cap, d.v, .bool true]) ∧ w'.ownsRow B 3 1 (.slice a s.length cap) s.length (s.map tabC).flatten
  | none => e = .returned (.tuple #[.slice none 0 0, noneD.v, .bool false])
theorem wayRet_some {B B' n : Nat} {w' : World} {s : List (Int × Int)} {d : Desc} {v : Value} {xs : List Value} (h : w'.ownsRow B' 3 1 v n xs) (hb : B ≤ B') (hn : n = s.length) (hx : xs = (s.map tabC).flatten) : WayRet B w' (some (s, d)) (.returned (.tuple #[v, d.v, .bool true])) := by
  obtain ⟨a, cap, rfl⟩ := own_form h
  subst hn hx
  exact ⟨a, cap, rfl, own_low h hb⟩

set_option maxRecDepth 100000 in
set_option maxHeartbeats 4000000 in
theorem ref12_Way (w : World) {h hc n : Nat} {gb gc : Nat → Nat} {us : List Int} (hr : RefAt w h hc n gb gc us) (hw : WOk us) (root page : Int) (L : Nat) (h0 : 0 ≤ root) (h1 : root < n) (p0 : 0 ≤ page) (p1 : page < 4096) (l1 : L < 4) :
    Calls Try.prog 85 #[.slice (some ⟨h, 0, none⟩) n hc, .int .i64 root, .int .i64 page, .int .i64 L] w fun e w' => Ext w w' ∧ WayRet w.heap.size w' (wayAt us n page (L + 1) 0 root) e := by
  have HR := Lib.hid hr
  have HW := Lib.hid hw
  clear hr hw
  go_enter Try.func85, Try.ntmps85
  go_wp2_with fail
  go_loopw [11, 12, 13] (fun o t l wr => ∃ (lv : Nat) (tb : Int) (acc : List (Int × Int)), l = .int .i64 lv ∧ t = .int .i64 tb ∧ lv ≤ L ∧ acc.length = lv ∧ Ext (w.alloc (.cells #[.int .i64 0, .int .i64 0, .bool false, .bool false, .bool false, .bool false, .int .i64 0] 107)) wr ∧
      Hid (wayAt us n page (L + 1) 0 root = if 0 ≤ tb ∧ tb < n then (wayAt us n page (L + 1 - lv) lv tb).map fun r => (acc ++ r.1, r.2) else none) ∧ Hid (wr.ownsRow (w.alloc (.cells #[.int .i64 0, .int .i64 0, .bool false, .bool false, .bool false, .bool false, .int .i64 0] 107)).heap.size 3 1 o acc.length (acc.map tabC).flatten)) (fun _ _ l _ => 5 - (intOf l).toNat)
  case atStart => exact ⟨0, root, [], rfl, rfl, by omega, rfl, Ext.refl _, by show _ = _; rw [if_pos ⟨h0, h1⟩]; cases wayAt us n page (L + 1) 0 root <;> simp, World.ownsRow_nil _ _ _ _⟩
  case round =>
    obtain ⟨lv, tb, acc, rfl, rfl, hlv, hal, ⟨x, rfl⟩, HE, HO⟩ := hrel
    by_cases ht : 0 ≤ tb ∧ tb < n
    · have hst0 := fun (d : Desc) (pl : Int) => wayAt_in (ws := us) (n := n) (page := page) (k := L - lv) (l := lv) (tb := tb) (pl := pl) (d := d)
      have HE' := Lib.hid (HE.out.trans (if_pos ht))
      obtain ⟨t0, t1⟩ := ht
      obtain ⟨T, rfl⟩ := Int.eq_ofNat_of_zero_le t0
      have q0 := placeN_lo lv page
      have q1 := placeN_hi lv page
      have HPl := Lib.hid (fun w => ref04_Place w lv page (by omega) (by omega) p0 p1)
      generalize hpl : placeN lv page = pl at *
      obtain ⟨P, rfl⟩ := Int.eq_ofNat_of_zero_le q0
      have hrb := HR.out
      have hlt := hrb.lth
      have hgl := hrb.ltg T (by omega)
      obtain ⟨hl1, hl2, hl3⟩ := lt_facts hlt
      obtain ⟨hg1, hg2, hg3⟩ := lt_facts hgl
      have y0 := hrb.hcell T (by omega)
      have y1 := hrb.cell T P (by omega) (by omega)
      have hX := HW.out.getD (T * 8 + P)
      generalize hx : us.getD (T * 8 + P) 0 = X at *
      obtain ⟨x0, x1⟩ := hX
      have KD := Lib.hid (fun w => ref02_Decode w lv X x0 x1)
      have hcc := hrb.cc T (by omega)
      have hn := hrb.nc
      generalize hd : decD lv X = d at *
      have hst := hst0 d P rfl rfl (by rw [Int.toNat_natCast, Int.toNat_natCast, hx, hd])
      obtain ⟨k, f, wr', ex, se, fo, so⟩ := d
      dsimp only at hst
      have HS := Lib.hid hst
      clear hst hst0 hpl hx hd hrb HE
      have hcase : (lv : Int) = L ∨ (lv : Int) ≠ L ∧ k ≠ 1 ∨ (lv : Int) ≠ L ∧ k = 1 := by omega
      have hk1 : k ≠ 1 → (k != 1) = true := by intro h; simpa using h
      have hn1 : (lv : Int) ≠ L → ((lv : Int) == L) = false := by intro h; simpa using h
      have hn2 : (lv : Int) ≠ L → (lv == L) = false := by intro h; simp; omega
      rcases hcase with h | ⟨h, h2⟩ | ⟨h, rfl⟩
      · obtain rfl : L = lv := by omega
        have hv : wayAt us n page (L + 1) 0 root = some (acc ++ [((T : Int), (P : Int))], ⟨k, f, wr', ex, se, fo, so⟩) := by rw [HE'.out, show L + 1 - L = L - L + 1 by omega, HS.out]; simp
        have HV := Lib.hid hv
        clear hv HE' HS h hk1 hn1 hn2
        go_wp2_with ((at_builtin; refine wpList_append_new (w.alloc (.cells #[.int .i64 0, .int .i64 0, .bool false, .bool false, .bool false, .bool false, .int .i64 0] 107)) el_int rfl _ _ rfl u11 acc.length _ rfl (by repeat (first | exact HO.out | apply own_more | apply own_alloc | apply own_drew | apply own_drewN)) (by repeat (first | exact Ext.refl _ | apply Ext.more | apply Ext.alloc | apply Ext.drew | apply Ext.drewN)) _ _ 1 _ rfl (by simp) rfl rfl (by omega) ?_); intro v' x' HO' keep; clear keep)
        go_region_held3 (fun w' => w'.cell? ⟨h, T, none⟩ = some (.slice (some ⟨gb T, 0, none⟩) 8 (gc T)) ∧ w'.cell? ⟨gb T, P, none⟩ = some (.int .u64 X)) (first | (go_simp; done) | (dsimp only; refine ⟨?_, ?_⟩ <;> go_simp))
          (first | (go_at_call 132; refine (HPl.out _).mono ?_; rintro e w' ⟨rfl, rfl⟩) | (go_at_call 104; refine (KD.out _).mono ?_; rintro e w' ⟨⟨ex1, rfl⟩, rfl⟩))
        all_goals
          go_wp2_with fail
          go_region
          all_goals go_wp2
          refine bodyPost_ret (results_tct rfl _ _ w.heap.size 107 _ (0, 0) _ rfl (by repeat (first | (with_reducible exact heap_alloc_new _ _) | (with_reducible apply box_more) | (with_reducible apply box_alloc) | (with_reducible apply box_drew) | (with_reducible apply box_drewN))) Try.underlying107 rfl (by kernel_rfl)) rfl ?_
          refine ⟨(by repeat (first | exact Ext.refl _ | apply Ext.more | apply Ext.alloc | apply Ext.drew | apply Ext.drewN)), ?_⟩
          rw [HV.out]
          exact wayRet_some (own_drew (by repeat (first | exact own_re HO'.out (by simp) | apply own_more | apply own_alloc | apply own_drew))) (by simp) (by simp) (by simp [tabC])
      · have hv : wayAt us n page (L + 1) 0 root = some (acc ++ [((T : Int), (P : Int))], ⟨k, f, wr', ex, se, fo, so⟩) := by rw [HE'.out, show L + 1 - lv = L - lv + 1 by omega, HS.out, if_pos (.inr h2)]; simp
        have HV := Lib.hid hv
        have z1 := hk1 h2
        have z2 := hn1 h
        have z3 := hn2 h
        clear hv HE' HS h hk1 hn1 hn2 h2
        go_wp2_with ((at_builtin; refine wpList_append_new (w.alloc (.cells #[.int .i64 0, .int .i64 0, .bool false, .bool false, .bool false, .bool false, .int .i64 0] 107)) el_int rfl _ _ rfl u11 acc.length _ rfl (by repeat (first | exact HO.out | apply own_more | apply own_alloc | apply own_drew | apply own_drewN)) (by repeat (first | exact Ext.refl _ | apply Ext.more | apply Ext.alloc | apply Ext.drew | apply Ext.drewN)) _ _ 1 _ rfl (by simp) rfl rfl (by omega) ?_); intro v' x' HO' keep; clear keep)
        go_region_held3 (fun w' => w'.cell? ⟨h, T, none⟩ = some (.slice (some ⟨gb T, 0, none⟩) 8 (gc T)) ∧ w'.cell? ⟨gb T, P, none⟩ = some (.int .u64 X)) (first | (go_simp; done) | (dsimp only; refine ⟨?_, ?_⟩ <;> go_simp))
          (first | (go_at_call 132; refine (HPl.out _).mono ?_; rintro e w' ⟨rfl, rfl⟩) | (go_at_call 104; refine (KD.out _).mono ?_; rintro e w' ⟨⟨ex1, rfl⟩, rfl⟩))
        all_goals
          go_wp2_with fail
          go_region
          all_goals go_wp2
          refine bodyPost_ret (results_tct rfl _ _ w.heap.size 107 _ (0, 0) _ rfl (by repeat (first | (with_reducible exact heap_alloc_new _ _) | (with_reducible apply box_more) | (with_reducible apply box_alloc) | (with_reducible apply box_drew) | (with_reducible apply box_drewN))) Try.underlying107 rfl (by kernel_rfl)) rfl ?_
          refine ⟨(by repeat (first | exact Ext.refl _ | apply Ext.more | apply Ext.alloc | apply Ext.drew | apply Ext.drewN)), ?_⟩
          rw [HV.out]
          exact wayRet_some (own_drew (by repeat (first | exact own_re HO'.out (by simp) | apply own_more | apply own_alloc | apply own_drew))) (by simp) (by simp) (by simp [tabC])
      · have hv : Hid (wayAt us n page (L + 1) 0 root = if 0 ≤ f ∧ f < n then (wayAt us n page (L + 1 - (lv + 1)) ((lv + 1 : Nat) : Int) f).map (fun r => ((acc ++ [((T : Int), (P : Int))]) ++ r.1, r.2)) else none) := by
          show _ = _
          rw [HE'.out, show L + 1 - lv = L - lv + 1 by omega, HS.out, if_neg (by simp; omega), show L + 1 - (lv + 1) = L - lv by omega, show ((lv + 1 : Nat) : Int) = (lv : Int) + 1 by simp]
          split
          · cases wayAt us n page (L - lv) ((lv : Int) + 1) f with
            | none => rfl
            | some r => simp
          · rfl
        have hlt : lv + 1 ≤ L := by omega
        have z2 := hn1 h
        have z3 := hn2 h
        clear HE' HS h hk1 hn1 hn2
        go_wp2_with ((at_builtin; refine wpList_append_new (w.alloc (.cells #[.int .i64 0, .int .i64 0, .bool false, .bool false, .bool false, .bool false, .int .i64 0] 107)) el_int rfl _ _ rfl u11 acc.length _ rfl (by repeat (first | exact HO.out | apply own_more | apply own_alloc | apply own_drew | apply own_drewN)) (by repeat (first | exact Ext.refl _ | apply Ext.more | apply Ext.alloc | apply Ext.drew | apply Ext.drewN)) _ _ 1 _ rfl (by simp) rfl rfl (by omega) ?_); intro v' x' HO' keep; clear keep)
        go_region_held3 (fun w' => w'.cell? ⟨h, T, none⟩ = some (.slice (some ⟨gb T, 0, none⟩) 8 (gc T)) ∧ w'.cell? ⟨gb T, P, none⟩ = some (.int .u64 X)) (first | (go_simp; done) | (dsimp only; refine ⟨?_, ?_⟩ <;> go_simp))
          (first | (go_at_call 132; refine (HPl.out _).mono ?_; rintro e w' ⟨rfl, rfl⟩) | (go_at_call 104; refine (KD.out _).mono ?_; rintro e w' ⟨⟨ex1, rfl⟩, rfl⟩))
        all_goals
          go_wp2_with fail
          go_roundw
          case rel => exact ⟨lv + 1, f, acc ++ [((T : Int), (P : Int))], by go_num, rfl, hlt, by simp; omega, (by repeat (first | exact Ext.refl _ | apply Ext.more | apply Ext.alloc | apply Ext.drew | apply Ext.drewN)), hv, by
            show World.ownsRow _ _ _ _ _ _ _
            have := HO'.out
            simp only [List.length_append, List.length_cons, List.length_nil, List.map_append, List.map_cons, List.map_nil, List.flatten_append, List.flatten_cons, List.flatten_nil, tabC, List.append_nil]
            repeat (first | exact this | apply own_more | apply own_alloc | apply own_drew)⟩
          case measure => simp [intOf]; omega
    · have hv : wayAt us n page (L + 1) 0 root = none := by rw [HE.out, if_neg ht]
      have HV := Lib.hid hv
      have ht' : tb < 0 ∨ (n : Int) ≤ tb := by omega
      clear hv ht HE
      rcases ht' with ht | ht
      all_goals
        go_wp2_with fail
        refine bodyPost_ret (results_tct rfl _ _ w.heap.size 107 _ (0, 0) _ rfl (by repeat (first | (with_reducible exact heap_alloc_new _ _) | (with_reducible apply box_more) | (with_reducible apply box_alloc) | (with_reducible apply box_drew) | (with_reducible apply box_drewN))) Try.underlying107 rfl (by kernel_rfl)) rfl ?_
        exact ⟨(by repeat (first | exact Ext.refl _ | apply Ext.more | apply Ext.alloc | apply Ext.drew | apply Ext.drewN)), by rw [HV.out]; rfl⟩

end Go.Proofs.Ytapeoeakiphfpaa

/- The contract of paviorlaw00.Code: which error's number. -/
namespace Go.Proofs.Ytapeoeakiphfpaa
open Go.RowKit
set_option linter.unusedVariables false
set_option linter.unusedSimpArgs false
attribute [local go_sem] setCell_drewN alloc_drewN lt_moreE le_moreE lt_moreK le_moreK cell_more frozen_more set_more drew_more drewN_more

set_option maxHeartbeats 400000 in
theorem law00_Code_nil (w : World) : Calls Try.prog 69 #[.nilIface] w fun e w' => e = .returned (.int .i64 0) ∧ w' = w := by
  go_enter Try.func69, Try.ntmps69
  go_wp2
  go_ret
  exact ⟨rfl, rfl⟩

set_option maxHeartbeats 1000000 in
theorem law00_Code (w : World) (k : Nat) (h1 : 1 ≤ k) (h2 : k ≤ 8) : Calls Try.prog 69 #[errW k] w fun e w' => e = .returned (.int .i64 k) ∧ w' = w := by
  have heq := fun (w : World) (a b : Int) => eql_err w a b
  have HEQ := Lib.hid heq
  clear heq
  go_enter Try.func69, Try.ntmps69
  go_wp2_with fail
  go_loop [3] (fun c => ∃ j : Nat, 1 ≤ j ∧ j ≤ k ∧ c = .int .i64 j) (fun c => (9 - intOf c).toNat)
  case atStart => exact ⟨1, by omega, h1, rfl⟩
  case round =>
    obtain ⟨j, hj1, hj2, rfl⟩ := hrel
    have he := fun w => HEQ.out w k j
    by_cases h : k = j
    · subst h
      have hb : ((k : Int) == (k : Int)) = true := by simp
      rw [hb] at he
      clear hb
      go_wp2
      go_ret
      exact ⟨rfl, rfl⟩
    · have hb : ((k : Int) == (j : Int)) = false := by simp; omega
      rw [hb] at he
      clear hb
      go_wp2
      go_round
      case rel => exact ⟨j + 1, by omega, by omega, by go_num⟩
      case measure => simp [intOf]; omega

end Go.Proofs.Ytapeoeakiphfpaa

/- The law paviorlaw04.WalkFinds. -/
namespace Go.Proofs.Ytapeoeakiphfpaa
open Go.RowKit
set_option linter.unusedVariables false
set_option linter.unusedSimpArgs false
attribute [local go_sem] setCell_drewN alloc_drewN lt_moreE le_moreE lt_moreK le_moreK cell_more frozen_more set_more drew_more drewN_more

theorem lay_ext (w : World) (fr : Int) (hfr : (Lit.int .i64 fr).wf = true) (l : List Laid) (hl : ∀ d ∈ l, d.wf) (v : Value) (hv : SlRd w v 3 (l.map Laid.cells)) :
    Calls Try.prog 33 #[.int .i64 fr, v] w fun e w' => ∃ b g h hc gb gc, e = .returned (.tuple #[.pointer (some ⟨b, 0, none⟩), .slice (some ⟨h, 0, none⟩) (layN fr) hc]) ∧
      MemAt w' b g (layN fr) (layN fr) (layW (layN fr) l) ∧ RefAt w' h hc (layN fr) gb gc (layW (layN fr) l) ∧ Ext w w' :=
  (law04_Lay w fr hfr l hl v hv).mono fun _ _ ⟨b, g, h, hc, gb, gc, he, hm, hr, hg, _⟩ => ⟨b, g, h, hc, gb, gc, he, hm, hr, .of hg⟩
theorem ref04_Walk {w : World} {h hc n : Nat} {gb gc : Nat → Nat} {us : List Int} (hr : RefAt w h hc n gb gc us) (hw : WOk us) (root page : Int) (p0 : 0 ≤ page) (p1 : page < 4096) (r : Option Found) (hres : walkAt us n page 4 0 root = r) :
    Calls Try.prog 45 #[.slice (some ⟨h, 0, none⟩) n hc, .int .i64 root, .int .i64 page] w fun e w' => Ext w w' ∧ e = .returned (refV r) := by
  have HR := Lib.hid hr
  have HA := Lib.hid (fun w hr => ref04_at (h := h) (hc := hc) (n := n) (gb := gb) (gc := gc) hw page p0 p1 4 w hr 0 root (by omega) (by omega) (by omega))
  rw [hres] at HA
  clear hr hw hres
  cases r with
  | none =>
    go_enter Try.func45, Try.ntmps45
    go_wp2_with (go_at_call 94; refine (HA.out _ (by repeat (first | exact HR.out | apply RefAt.more | apply RefAt.alloc | apply RefAt.drew | apply RefAt.drewN))).mono ?_; rintro e w' ⟨⟨ex1, rfl⟩, rfl⟩; rw [refV_n])
    refine bodyPost_ret (results_ct rfl _ _ w.heap.size 80 _ (0, 0) _ rfl (by repeat (first | (with_reducible exact heap_alloc_new _ _) | (with_reducible apply box_more) | (with_reducible apply box_alloc) | (with_reducible apply box_drew) | (with_reducible apply box_drewN))) Try.underlying80 rfl (by kernel_rfl)) rfl ?_
    exact ⟨(by repeat (first | exact Ext.refl _ | apply Ext.more | apply Ext.alloc | apply Ext.drew | apply Ext.drewN)), rfl⟩
  | some r =>
    obtain ⟨F0, F1, F2, F3, F4, F5, F6, F7, F8, F9, F10⟩ := r
    go_enter Try.func45, Try.ntmps45
    go_wp2_with (go_at_call 94; refine (HA.out _ (by repeat (first | exact HR.out | apply RefAt.more | apply RefAt.alloc | apply RefAt.drew | apply RefAt.drewN))).mono ?_; rintro e w' ⟨⟨ex1, rfl⟩, rfl⟩; rw [refV_s])
    refine bodyPost_ret (results_ct rfl _ _ w.heap.size 80 _ (0, 0) _ rfl (by repeat (first | (with_reducible exact heap_alloc_new _ _) | (with_reducible apply box_more) | (with_reducible apply box_alloc) | (with_reducible apply box_drew) | (with_reducible apply box_drewN))) Try.underlying80 rfl (by kernel_rfl)) rfl ?_
    exact ⟨(by repeat (first | exact Ext.refl _ | apply Ext.more | apply Ext.alloc | apply Ext.drew | apply Ext.drewN)), rfl⟩

theorem zeroF_v : zeroF.v = .agg #[.int .i64 0, .int .i64 0, .int .i64 0, .int .i64 0, .int .i64 0, .int .i64 0, .int .i64 0, .int .i64 0, .bool false, .bool false, .bool false] := rfl
theorem walkV_n : walkV none = .tuple #[.agg #[.int .i64 0, .int .i64 0, .int .i64 0, .int .i64 0, .int .i64 0, .int .i64 0, .int .i64 0, .int .i64 0, .bool false, .bool false, .bool false], errW 2] := rfl
theorem walkV_s (F0 F1 F2 F3 F4 F5 F6 F7 : Int) (F8 F9 F10 : Bool) : walkV (some ⟨F0, F1, F2, F3, F4, F5, F6, F7, F8, F9, F10⟩) = .tuple #[.agg #[.int .i64 F0, .int .i64 F1, .int .i64 F2, .int .i64 F3, .int .i64 F4, .int .i64 F5, .int .i64 F6, .int .i64 F7, .bool F8, .bool F9, .bool F10], .nilIface] := rfl

end Go.Proofs.Ytapeoeakiphfpaa

/- The contracts of tree.Need and of the document's answer paviorref12.Need; the law paviorlaw12.TreeNeeds. -/
namespace Go.Proofs.Ytapeoeakiphfpaa
open Go.RowKit
set_option linter.unusedVariables false
set_option linter.unusedSimpArgs false
attribute [local go_sem] setCell_drewN alloc_drewN lt_moreE le_moreE lt_moreK le_moreK cell_more frozen_more set_more drew_more drewN_more

/-- How many tables are missing, and an error's number. -/
def needP (L : Nat) (r : Option (List (Int × Int) × Desc)) : Int × Nat := match r with
  | none => (0, 2)
  | some (s, d) => if (0 : Int) < L + 1 - s.length ∧ d.fKind ≠ 0 then (0, 7) else (L + 1 - s.length, 0)
/-- An error of a number; 0: none. -/
def errV (c : Nat) : Value := if c = 0 then .nilIface else errW c
theorem wayAt_len {ws : List Int} {n page : Int} : ∀ (k : Nat) (l tb : Int) (s : List (Int × Int)) (d : Desc), wayAt ws n page k l tb = some (s, d) → 1 ≤ s.length ∧ s.length ≤ k := by
  intro k
  induction k with
  | zero => intro l tb s d h; simp [wayAt] at h
  | succ k ih =>
    intro l tb s d h
    rw [wayAt_in rfl rfl rfl] at h
    split at h
    · simp only [Option.some.injEq, Prod.mk.injEq] at h
      rw [← h.1]; simp
    · split at h
      · rw [Option.map_eq_some_iff] at h
        obtain ⟨⟨s', d'⟩, h1, h2⟩ := h
        have := ih _ _ _ _ h1
        simp only [Prod.mk.injEq] at h2
        rw [← h2.1]; simp; omega
      · cases h

set_option maxHeartbeats 1000000 in
theorem tree_Need (w : World) {b g n c : Nat} {ws : List Int} (hm : MemAt w b g n c ws) (hw : WOk ws) (root page : Int) (L : Nat) (h0 : 0 ≤ root) (h1 : root < n) (p0 : 0 ≤ page) (p1 : page < 4096) (l0 : 1 ≤ L) (l1 : L < 4) (r : Option (List (Int × Int) × Desc)) (hr : wayAt ws n page (L + 1) 0 root = r) :
    Calls Try.prog 77 #[.pointer (some ⟨b, 0, none⟩), .int .i64 root, .int .i64 page, .int .i64 L] w fun e w' => Ext w w' ∧ e = .returned (.tuple #[.int .i64 (needP L r).1, errV (needP L r).2]) := by
  have HD := Lib.hid (tree_down w hm hw root page L h0 h1 p0 p1 l0 l1)
  rw [hr] at HD
  have hlen := wayAt_len (ws := ws) (n := n) (page := page) (L + 1) 0 root
  rw [hr] at hlen
  clear hm hw hr
  cases r with
  | none =>
    clear hlen
    go_enter Try.func77, Try.ntmps77
    go_wp2_with fail
    refine HD.out.mono ?_
    rintro e w' ⟨⟨ex1, rfl⟩, rfl⟩
    go_wp2_with fail
    go_ret2
    exact ⟨(by repeat (first | exact Ext.refl _ | apply Ext.more | apply Ext.alloc | apply Ext.drew | apply Ext.drewN)), rfl⟩
  | some r =>
    obtain ⟨s, d⟩ := r
    have hl := hlen s d rfl
    clear hlen
    obtain ⟨k, f, wr, ex, se, fo, so⟩ := d
    obtain ⟨q, hq⟩ : ∃ q : Int, q = (L : Int) + 1 - s.length := ⟨_, rfl⟩
    have hcase : (0 < q ∧ k ≠ 0) ∨ (0 < q ∧ k = 0) ∨ q = 0 := by omega
    have HQ := Lib.hid hq
    rcases hcase with ⟨c1, c2⟩ | ⟨c1, rfl⟩ | c1
    · have hv : needP L (some (s, ⟨k, f, wr, ex, se, fo, so⟩)) = (0, 7) := by simp only [needP]; rw [if_pos ⟨by omega, c2⟩]
      have HV := Lib.hid hv
      have z : (k != 0) = true := by simpa using c2
      have c1' : (s.length : Int) < L + 1 := by omega
      clear hv c2 hq
      go_enter Try.func77, Try.ntmps77
      go_wp2_with fail
      refine HD.out.mono ?_
      rintro e w' ⟨⟨ex1, rfl⟩, ⟨a, cap, rfl, _⟩⟩
      go_wp2_with fail
      all_goals (go_ret2; exact ⟨(by repeat (first | exact Ext.refl _ | apply Ext.more | apply Ext.alloc | apply Ext.drew | apply Ext.drewN)), by rw [HV.out]; rfl⟩)
    · have hv : needP L (some (s, ⟨0, f, wr, ex, se, fo, so⟩)) = (q, 0) := by simp only [needP]; rw [if_neg (by simp), hq]
      have HV := Lib.hid hv
      have c1' : (s.length : Int) < L + 1 := by omega
      clear hv hq
      go_enter Try.func77, Try.ntmps77
      go_wp2_with fail
      refine HD.out.mono ?_
      rintro e w' ⟨⟨ex1, rfl⟩, ⟨a, cap, rfl, _⟩⟩
      go_wp2_with fail
      all_goals (go_ret2; exact ⟨(by repeat (first | exact Ext.refl _ | apply Ext.more | apply Ext.alloc | apply Ext.drew | apply Ext.drewN)), by rw [HV.out, HQ.out]; rfl⟩)
    · have hv : needP L (some (s, ⟨k, f, wr, ex, se, fo, so⟩)) = (q, 0) := by simp only [needP]; rw [if_neg (by omega), hq]
      have HV := Lib.hid hv
      have c1' : (s.length : Int) = L + 1 := by omega
      have hl2 : s.length = L + 1 := by omega
      clear hv hq c1' hl
      rw [hl2] at HQ
      go_enter Try.func77, Try.ntmps77
      go_wp2_with fail
      refine HD.out.mono ?_
      rintro e w' ⟨⟨ex1, rfl⟩, ⟨a, cap, rfl, _⟩⟩
      rw [hl2]
      go_wp2_with fail
      all_goals (go_ret2; exact ⟨(by repeat (first | exact Ext.refl _ | apply Ext.more | apply Ext.alloc | apply Ext.drew | apply Ext.drewN)), by rw [HV.out, HQ.out]; simp [errV]⟩)

set_option maxHeartbeats 1000000 in
theorem tree_Need_err (w : World) (m : Option Addr) (root page level : Int) (h : ∀ w : World, Calls Try.prog 81 #[.pointer m, .int .i64 root, .int .i64 page, .int .i64 level] w fun e w' => Ext w w' ∧ e = .returned (.tuple #[.slice none 0 0, noneD.v, errW 1])) :
    Calls Try.prog 77 #[.pointer m, .int .i64 root, .int .i64 page, .int .i64 level] w fun e w' => Ext w w' ∧ e = .returned (.tuple #[.int .i64 0, errW 1]) := by
  have HD := Lib.hid h
  clear h
  go_enter Try.func77, Try.ntmps77
  go_wp2_with fail
  refine (HD.out _).mono ?_
  rintro e w' ⟨⟨ex1, rfl⟩, rfl⟩
  go_wp2_with fail
  go_ret2
  exact ⟨(by repeat (first | exact Ext.refl _ | apply Ext.more | apply Ext.alloc | apply Ext.drew | apply Ext.drewN)), rfl⟩
set_option maxHeartbeats 1000000 in
theorem tree_down_nil (w : World) (root page level : Int) :
    Calls Try.prog 81 #[.pointer none, .int .i64 root, .int .i64 page, .int .i64 level] w fun e w' => Ext w w' ∧ e = .returned (.tuple #[.slice none 0 0, noneD.v, errW 1]) := by
  go_enter Try.func81, Try.ntmps81
  go_wp2_with fail
  refine bodyPost_ret (results_tct rfl _ _ w.heap.size 107 _ (0, 0) _ rfl (by repeat (first | (with_reducible exact heap_alloc_new _ _) | (with_reducible apply box_more) | (with_reducible apply box_alloc) | (with_reducible apply box_drew) | (with_reducible apply box_drewN))) Try.underlying107 rfl (by kernel_rfl)) rfl ?_
  exact ⟨(by repeat (first | exact Ext.refl _ | apply Ext.more | apply Ext.alloc | apply Ext.drew | apply Ext.drewN)), rfl⟩
theorem tree_Need_nil (w : World) (root page level : Int) : Calls Try.prog 77 #[.pointer none, .int .i64 root, .int .i64 page, .int .i64 level] w fun e w' => Ext w w' ∧ e = .returned (.tuple #[.int .i64 0, errW 1]) :=
  tree_Need_err w none root page level fun w => tree_down_nil w root page level
set_option maxHeartbeats 1000000 in
theorem tree_Need_no (w : World) {b g n c : Nat} {ws : List Int} (hm : MemAt w b g n c ws) (root page level : Int) (h : ¬ (0 ≤ root ∧ root < n ∧ 0 ≤ page ∧ page < 4096 ∧ 1 ≤ level ∧ level < 4)) :
    Calls Try.prog 77 #[.pointer (some ⟨b, 0, none⟩), .int .i64 root, .int .i64 page, .int .i64 level] w fun e w' => Ext w w' ∧ e = .returned (.tuple #[.int .i64 0, errW 1]) := by
  have HD := Lib.hid (tree_down_no w hm root page level h)
  clear h hm
  go_enter Try.func77, Try.ntmps77
  go_wp2_with fail
  refine HD.out.mono ?_
  rintro e w' ⟨⟨ex1, rfl⟩, rfl⟩
  go_wp2_with fail
  go_ret2
  exact ⟨(by repeat (first | exact Ext.refl _ | apply Ext.more | apply Ext.alloc | apply Ext.drew | apply Ext.drewN)), rfl⟩

set_option maxHeartbeats 1000000 in
theorem ref12_Need (w : World) {h hc n : Nat} {gb gc : Nat → Nat} {us : List Int} (hr : RefAt w h hc n gb gc us) (hw : WOk us) (root page : Int) (L : Nat) (h0 : 0 ≤ root) (h1 : root < n) (p0 : 0 ≤ page) (p1 : page < 4096) (l1 : L < 4) (r : Option (List (Int × Int) × Desc)) (hres : wayAt us n page (L + 1) 0 root = r) :
    Calls Try.prog 38 #[.slice (some ⟨h, 0, none⟩) n hc, .int .i64 root, .int .i64 page, .int .i64 L] w fun e w' => Ext w w' ∧ e = .returned (.tuple #[.int .i64 (needP L r).1, .int .i64 (needP L r).2]) := by
  have HD := Lib.hid (ref12_Way w hr hw root page L h0 h1 p0 p1 l1)
  rw [hres] at HD
  have hlen := wayAt_len (ws := us) (n := n) (page := page) (L + 1) 0 root
  rw [hres] at hlen
  clear hr hw hres
  cases r with
  | none =>
    clear hlen
    go_enter Try.func38, Try.ntmps38
    go_wp2_with fail
    refine HD.out.mono ?_
    rintro e w' ⟨⟨ex1, rfl⟩, rfl⟩
    go_wp2_with fail
    go_ret2
    exact ⟨(by repeat (first | exact Ext.refl _ | apply Ext.more | apply Ext.alloc | apply Ext.drew | apply Ext.drewN)), rfl⟩
  | some r =>
    obtain ⟨s, d⟩ := r
    have hl := hlen s d rfl
    clear hlen
    obtain ⟨k, f, wr, ex, se, fo, so⟩ := d
    obtain ⟨q, hq⟩ : ∃ q : Int, q = (L : Int) + 1 - s.length := ⟨_, rfl⟩
    have hcase : (0 < q ∧ k ≠ 0) ∨ (0 < q ∧ k = 0) ∨ q = 0 := by omega
    have HQ := Lib.hid hq
    rcases hcase with ⟨c1, c2⟩ | ⟨c1, rfl⟩ | c1
    · have hv : needP L (some (s, ⟨k, f, wr, ex, se, fo, so⟩)) = (0, 7) := by simp only [needP]; rw [if_pos ⟨by omega, c2⟩]
      have HV := Lib.hid hv
      have z : (k != 0) = true := by simpa using c2
      have c1' : (s.length : Int) < L + 1 := by omega
      clear hv c2 hq
      go_enter Try.func38, Try.ntmps38
      go_wp2_with fail
      refine HD.out.mono ?_
      rintro e w' ⟨⟨ex1, rfl⟩, ⟨a, cap, rfl, _⟩⟩
      go_wp2_with fail
      all_goals (go_ret2; exact ⟨(by repeat (first | exact Ext.refl _ | apply Ext.more | apply Ext.alloc | apply Ext.drew | apply Ext.drewN)), by rw [HV.out]; rfl⟩)
    · have hv : needP L (some (s, ⟨0, f, wr, ex, se, fo, so⟩)) = (q, 0) := by simp only [needP]; rw [if_neg (by simp), hq]
      have HV := Lib.hid hv
      have c1' : (s.length : Int) < L + 1 := by omega
      clear hv hq
      go_enter Try.func38, Try.ntmps38
      go_wp2_with fail
      refine HD.out.mono ?_
      rintro e w' ⟨⟨ex1, rfl⟩, ⟨a, cap, rfl, _⟩⟩
      go_wp2_with fail
      all_goals (go_ret2; exact ⟨(by repeat (first | exact Ext.refl _ | apply Ext.more | apply Ext.alloc | apply Ext.drew | apply Ext.drewN)), by rw [HV.out, HQ.out]; rfl⟩)
    · have hv : needP L (some (s, ⟨k, f, wr, ex, se, fo, so⟩)) = (q, 0) := by simp only [needP]; rw [if_neg (by omega), hq]
      have HV := Lib.hid hv
      have hl2 : s.length = L + 1 := by omega
      clear hv hq hl
      rw [hl2] at HQ
      go_enter Try.func38, Try.ntmps38
      go_wp2_with fail
      refine HD.out.mono ?_
      rintro e w' ⟨⟨ex1, rfl⟩, ⟨a, cap, rfl, _⟩⟩
      rw [hl2]
      go_wp2_with fail
      all_goals (go_ret2; exact ⟨(by repeat (first | exact Ext.refl _ | apply Ext.more | apply Ext.alloc | apply Ext.drew | apply Ext.drewN)), by rw [HV.out, HQ.out]; simp⟩)

theorem WOk_zero (n : Nat) : WOk (List.replicate n 0) := by
  intro x hx
  rw [List.eq_of_mem_replicate hx]
  omega
theorem way_up : wayAt (List.replicate 8 0) 1 0 4 0 0 = some ([(0, 0)], noneD) := by decide +kernel
set_option maxHeartbeats 1000000 in
theorem law12_up (w : World) : Calls Try.prog 32 #[] w fun e w' => Ext w w' ∧ e = .returned (.bool true) := by
  have hU := way_up
  have HU := Lib.hid hU
  clear hU
  go_enter Try.func32, Try.ntmps32
  go_wp2_with fail
  refine (phys_New_yes _ 1 (by omega) (by omega)).mono ?_
  rintro e w1 ⟨b, g, rfl, hm, hg, _, _⟩
  have HM := Lib.hid hm
  obtain ⟨ex1, rfl⟩ := more_of_grow hg
  clear hm hg
  go_wp2_with fail
  refine (tree_Need (n := 1) (ws := List.replicate 8 0) _ (by repeat (first | exact HM.out | apply MemAt.more | apply MemAt.alloc | apply MemAt.drew | apply MemAt.drewN)) (WOk_zero _) 0 0 3 (by omega) (by omega) (by omega) (by omega) (by omega) (by omega) _ HU.out).mono ?_
  rintro e w2 ⟨⟨ex2, rfl⟩, rfl⟩
  have e1 : needP 3 (some ([(0, 0)], noneD)) = (3, 0) := by decide
  have e2 : errV 0 = .nilIface := rfl
  rw [e1]
  dsimp only
  rw [e2]
  clear e1 e2
  go_wp2_with fail
  go_ret
  exact ⟨(by repeat (first | exact Ext.refl _ | apply Ext.more | apply Ext.alloc | apply Ext.drew | apply Ext.drewN)), rfl⟩

/-- Are root, page and level there? -/
def thereB (n : Nat) (root page level : Int) : Bool := decide (0 ≤ root ∧ root < n ∧ 0 ≤ page ∧ page < 4096 ∧ 1 ≤ level ∧ level < 4)
theorem thereB_yes {n : Nat} {root page level : Int} (h : 0 ≤ root ∧ root < n ∧ 0 ≤ page ∧ page < 4096 ∧ 1 ≤ level ∧ level < 4) : thereB n root page level = true := decide_eq_true h
theorem thereB_no {n : Nat} {root page level : Int} (h : ¬ (0 ≤ root ∧ root < n ∧ 0 ≤ page ∧ page < 4096 ∧ 1 ≤ level ∧ level < 4)) : thereB n root page level = false := decide_eq_false h
theorem needP_cases {L : Nat} {r : Option (List (Int × Int) × Desc)} : (needP L r).2 = 0 ∨ (needP L r).2 = 2 ∨ (needP L r).2 = 7 := by
  unfold needP
  split
  · exact .inr (.inl rfl)
  · split
    · exact .inr (.inr rfl)
    · exact .inl rfl

end Go.Proofs.Ytapeoeakiphfpaa
