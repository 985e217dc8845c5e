import Derived.Test.YtapeoeakiphfpaaBPlapRightsHugp
import Derived.Test.YtapeoeakiphfpaaBStepsSamePart
import Derived.Test.YtapeoeakiphfpaaBCodeLawgLawhLawe
/- Plain laws behind FoldKeeps: the steps that fold four pages, or unfold them. -/
namespace Go.Proofs.Ytapeoeakiphfpaa
open Go.RowKit
set_option linter.unusedVariables false
set_option linter.unusedSimpArgs false

theorem mapIdx_range {α β : Type} (g : Nat → α) (h : Nat → α → β) (k : Nat) : ((List.range k).map g).mapIdx h = (List.range k).map fun i => h i (g i) := by
  apply List.ext_getElem
  · simp
  · intro i h1 h2
    simp
/-- Four pages' words. -/
structure Four (ws : List Int) (n : Nat) (asid first T : Int) (d : Nat → Desc) : Prop where
  n5 : n ≤ 512
  len : ws.length = n * 8
  a0 : 0 ≤ asid
  a1 : asid ≤ 255
  f4 : first % 4 = 0
  f0 : 0 ≤ first
  f1 : first + 4 ≤ 4096
  t0 : 0 ≤ T
  t1 : T < n
  ok : ∀ i : Nat, i < 4 → okD 3 (d i) = true ∧ (d i).fKind = 3
  word : ∀ i : Nat, i < 4 → ws.getD (T.toNat * 8 + (first % 8 + (i : Int)).toNat) 0 = encW (d i)
def fourL (first T : Int) (d : Nat → Desc) : List Found := (List.range 4).map fun (i : Nat) => foundD (d i) 3 T (first % 8 + (i : Int)) (first + (i : Int))
def turnD (d : Nat → Desc) (b : Bool) (i : Nat) : Desc := { d i with fFold := b }
def closeL (asid first T : Int) : List Step := (List.range 4).map fun (i : Nat) => wr0 asid 3 T (first % 8 + (i : Int)) (first + (i : Int)) 0
def openL (asid first T : Int) (d : Nat → Desc) (b : Bool) : List Step := (List.range 4).map fun (i : Nat) => wr0 asid 3 T (first % 8 + (i : Int)) (first + (i : Int)) (encW (turnD d b i))
theorem anew_four {ws : List Int} {n : Nat} {asid first T : Int} {d : Nat → Desc} (h : Four ws n asid first T d) (b : Bool) : anewL ws (fourL first T d) asid first b = closeL asid first T ++ (tellsN asid first 4 ++ (openL asid first T d b ++ [])) := by
  unfold anewL goneL toldL backL fourL
  rw [mapIdx_range, mapIdx_range, mapIdx_range, List.append_nil, List.append_assoc]
  congr 1
  · unfold closeL
    apply List.map_congr_left
    intro i hi
    unfold wrS wr0
    obtain ⟨e1, e2, e3, _⟩ := foundD_parts (d i) 3 T (first % 8 + (i : Int)) (first + (i : Int))
    rw [e1, e2, e3]
  · congr 1
    unfold openL
    apply List.map_congr_left
    intro i hi
    have hi := List.mem_range.1 hi
    unfold wrS wr0 foldW turnD
    obtain ⟨e1, e2, e3, _⟩ := foundD_parts (d i) 3 T (first % 8 + (i : Int)) (first + (i : Int))
    rw [e1, e2, e3, h.word i hi, dec_enc (h.ok i hi).1]
theorem four_wr {ws : List Int} {n : Nat} {asid first T : Int} {d : Nat → Desc} (h : Four ws n asid first T d) (i : Nat) (hi : i < 4) (v : Int) (v0 : 0 ≤ v) (v1 : v < 18446744073709551616) : WrOk n (wr0 asid 3 T (first % 8 + (i : Int)) (first + (i : Int)) v) := by
  have h4 := h.f4
  have h1 := h.f0
  have h2 := h.f1
  have h3 := h.t1
  have h5 := h.n5
  exact ⟨rfl, ⟨3, rfl, ⟨h.a0, h.a1, by omega, h.t0, by show T < 512; omega, by show 0 ≤ first % 8 + (i : Int); omega, by show first % 8 + (i : Int) < 8; omega, by show 0 ≤ first + (i : Int); omega, by show first + (i : Int) < 4096; omega, firstP_page _⟩⟩, h.t1, ⟨v0, v1⟩⟩
theorem four_apart (asid first T : Int) (g : Nat → Int) : ((List.range 4).map fun (i : Nat) => wr0 asid 3 T (first % 8 + (i : Int)) (first + (i : Int)) (g i)).Pairwise apartS := by
  rw [List.pairwise_map]
  refine List.Pairwise.imp ?_ List.pairwise_lt_range
  intro a b hab h
  have : first % 8 + (a : Int) = first % 8 + (b : Int) := h.2
  omega
theorem tells_none {n : Nat} : ∀ (l : List Step) (vs : List Int), (∀ s ∈ l, s.fKind = 2) → doW n vs l = vs := by
  intro l
  induction l with
  | nil => intro vs _; rfl
  | cons s l ih => intro vs h; rw [doW_cons, stepW_none (by rw [h s (.head _)]; omega) (by rw [h s (.head _)]; omega) (by rw [h s (.head _)]; omega)]; exact ih vs fun x hx => h x (.tail _ hx)
theorem turn_ok {d : Nat → Desc} {b : Bool} {i : Nat} (h : okD 3 (d i) = true ∧ (d i).fKind = 3) : okD 3 (turnD d b i) = true ∧ (turnD d b i).fKind = 3 := ⟨okD_fold h.1 h.2 b, h.2⟩
/-- What stands behind the steps; no watch is broken. -/
theorem turn_behind {ws : List Int} {n : Nat} {asid first T : Int} {d : Nat → Desc} (h : Four ws n asid first T d) (b : Bool) :
    (∀ s ∈ anewL ws (fourL first T d) asid first b, StepOk s) ∧ Safe n ws [] (anewL ws (fourL first T d) asid first b) ∧
    Four (doW n ws (anewL ws (fourL first T d) asid first b)) n asid first T (turnD d b) ∧
    ∀ j : Nat, (∀ i : Nat, i < 4 → T.toNat * 8 + (first % 8 + (i : Int)).toNat ≠ j) → (doW n ws (anewL ws (fourL first T d) asid first b)).getD j 0 = ws.getD j 0 := by
  rw [anew_four h b]
  have hC : ∀ s ∈ closeL asid first T, WrOk n s ∧ s.fValue % 2 = 0 ∧ ws.getD (idxS s) 0 % 2 = 1 := by
    intro s hs
    obtain ⟨i, hi, rfl⟩ := List.mem_map.1 hs
    have hi := List.mem_range.1 hi
    refine ⟨four_wr h i hi 0 (by omega) (by omega), rfl, ?_⟩
    show ws.getD (T.toNat * 8 + (first % 8 + (i : Int)).toNat) 0 % 2 = 1
    rw [h.word i hi]
    exact encW_odd (.inr (.inr (h.ok i hi).2))
  have hT : ∀ s ∈ tellsN asid first 4, s.fKind = 2 ∧ 0 ≤ s.fFirst ∧ s.fFirst < 4096 := tellsN_in asid first 4 h.f0 h.f1
  have hO : ∀ s ∈ openL asid first T d b, WrOk n s ∧ s.fValue % 2 = 1 := by
    intro s hs
    obtain ⟨i, hi, rfl⟩ := List.mem_map.1 hs
    have hi := List.mem_range.1 hi
    have hk := turn_ok (b := b) (h.ok i hi)
    have hr := encW_range hk.1
    exact ⟨four_wr h i hi _ hr.1 hr.2, encW_odd (.inr (.inr hk.2))⟩
  have pC : (closeL asid first T).Pairwise apartS := four_apart asid first T fun _ => 0
  have pO : (openL asid first T d b).Pairwise apartS := four_apart asid first T fun i => encW (turnD d b i)
  have hlC : (doW n ws (closeL asid first T)).length = n * 8 := by rw [doW_len]; exact h.len
  have hdo : doW n ws (closeL asid first T ++ (tellsN asid first 4 ++ (openL asid first T d b ++ []))) = doW n (doW n ws (closeL asid first T)) (openL asid first T d b) := by
    rw [doW_append, doW_append, List.append_nil, tells_none _ _ fun s hs => (hT s hs).1]
  refine ⟨?_, ?_, ?_, ?_⟩
  · intro s hs
    rw [List.append_nil, List.mem_append, List.mem_append] at hs
    rcases hs with hs | hs | hs
    · exact (hC s hs).1.ok
    · obtain ⟨i, _, rfl⟩ := List.mem_map.1 hs
      exact ⟨show (0 : Int) ≤ 0 by omega, show (0 : Int) < 18446744073709551616 by omega⟩
    · exact (hO s hs).1.ok
  · refine safe_swap hC pC hT (fun c hc i hi => ?_) (fun s hs => ⟨(hO s hs).1, (hO s hs).2, ?_⟩) pO fun G' _ => .nil _ _
    · obtain ⟨j, hj, rfl⟩ := List.mem_map.1 hc
      have hj := List.mem_range.1 hj
      have hi : i < 1 := hi
      obtain rfl : i = 0 := by omega
      obtain ⟨s, h1, h2, h3⟩ := tellsN_has asid first 4 j hj
      exact ⟨s, h1, h2, by rw [h3]; show first + (j : Int) = first + (j : Int) + ((0 : Nat) : Int); omega⟩
    · obtain ⟨i, hi, rfl⟩ := List.mem_map.1 hs
      have := writes_at (closeL asid first T) ws (fun s hs => (hC s hs).1) pC h.len (wr0 asid 3 T (first % 8 + (i : Int)) (first + (i : Int)) 0) (List.mem_map.2 ⟨i, hi, rfl⟩)
      show (doW n ws (closeL asid first T)).getD (idxS (wr0 asid 3 T (first % 8 + (i : Int)) (first + (i : Int)) 0)) 0 % 2 = 0
      rw [this]
      rfl
  · rw [hdo]
    refine ⟨h.n5, by rw [doW_len]; exact hlC, h.a0, h.a1, h.f4, h.f0, h.f1, h.t0, h.t1, fun i hi => turn_ok (h.ok i hi), fun i hi => ?_⟩
    exact writes_at (openL asid first T d b) _ (fun s hs => (hO s hs).1) pO hlC (wr0 asid 3 T (first % 8 + (i : Int)) (first + (i : Int)) (encW (turnD d b i))) (List.mem_map.2 ⟨i, List.mem_range.2 hi, rfl⟩)
  · intro j hj
    rw [hdo, writes_off _ _ _ (fun s hs => (hO s hs).1) (fun s hs => ?_), writes_off _ _ _ (fun s hs => (hC s hs).1) (fun s hs => ?_)]
    · obtain ⟨i, hi, rfl⟩ := List.mem_map.1 hs
      exact hj i (List.mem_range.1 hi)
    · obtain ⟨i, hi, rfl⟩ := List.mem_map.1 hs
      exact hj i (List.mem_range.1 hi)
/-- A run of four pages. -/
theorem run_four {ws : List Int} {n : Nat} {root asid first : Int} {s : List Found} (n5 : n ≤ 512) (hw : ws.length = n * 8) (a0 : 0 ≤ asid) (a1 : asid ≤ 255) (f4 : first % 4 = 0) (f0 : 0 ≤ first) (f1 : first + 4 ≤ 4096)
    (hr : runN ws n root first 4 = some s) (hk : ∀ f ∈ s, f.fKind = 3) : ∃ T d, Four ws n asid first T d ∧ s = fourL first T d ∧ Sees ws n first 4 0 root 3 T := by
  have hlen := runN_len _ _ hr
  have h0 := runN_at 4 s hr 0 _ (List.getElem?_eq_getElem (by omega))
  rw [show first + ((0 : Nat) : Int) = first by omega] at h0
  obtain ⟨l0, _, _⟩ := walk_page h0 (hk _ (List.getElem_mem _))
  have hsee := walk_sees _ _ _ _ h0
  rw [l0] at hsee
  obtain ⟨T0, T1, _⟩ := walkAt_word 4 0 root _ (by omega) (by omega) h0
  generalize (s[0]'(by omega)).fTable = T at *
  refine ⟨T, fun i => decD 3 (ws.getD (T.toNat * 8 + (first % 8 + (i : Int)).toNat) 0), ?_⟩
  have key : ∀ (i : Nat) (hi : i < 4), okD 3 (decD 3 (ws.getD (T.toNat * 8 + (first % 8 + (i : Int)).toNat) 0)) = true ∧ (decD 3 (ws.getD (T.toNat * 8 + (first % 8 + (i : Int)).toNat) 0)).fKind = 3 ∧ ws.getD (T.toNat * 8 + (first % 8 + (i : Int)).toNat) 0 = encW (decD 3 (ws.getD (T.toNat * 8 + (first % 8 + (i : Int)).toNat) 0)) ∧ s[i]'(by omega) = foundD (decD 3 (ws.getD (T.toNat * 8 + (first % 8 + (i : Int)).toNat) 0)) 3 T (first % 8 + (i : Int)) (first + (i : Int)) := by
    intro i hi
    have hwi := runN_at 4 s hr i _ (List.getElem?_eq_getElem (by omega))
    have hki := hk _ (List.getElem_mem (l := s) (n := i) (by omega))
    have hpl := (same_block (p := first) (q := first + (i : Int)) (by omega) (by omega) (by omega) (by omega)).2 (by omega)
    have hq := sees_follow 4 0 root 3 T (q := first + (i : Int)) (fun m m0 m2 => hpl m m0 (by omega)) hsee
    obtain ⟨j, hj, hwk⟩ := walk_to (us := ws) _ _ _ _ _ hq (fun _ _ _ _ => rfl)
    obtain rfl : j = 1 := by omega
    have hp : placeN 3 (first + (i : Int)) = first % 8 + (i : Int) := by rw [place3]; omega
    rw [hwi] at hwk
    generalize hd : decD 3 (ws.getD (T.toNat * 8 + (first % 8 + (i : Int)).toNat) 0) = d
    have hst := walk_step (k := 0) (lv := 3) (tb := T) (q := first + (i : Int)) (ws := ws) (n := n) (d := d) ⟨T0, T1⟩ (by rw [hp]; exact hd)
    rw [hst] at hwk
    by_cases h1 : d.fKind = 1
    · rw [if_pos h1] at hwk
      cases hwk
    · rw [if_neg h1, hp] at hwk
      have he := Option.some.inj hwk
      have hkd : d.fKind = 3 := by rw [he, (foundD_parts _ _ _ _ _).2.2.2] at hki; exact hki
      have hdo := decD_ok (level := 3) (x := ws.getD (T.toNat * 8 + (first % 8 + (i : Int)).toNat) 0) (by rw [hd, hkd]; omega)
      rw [hd] at hdo
      exact ⟨hdo.1, hkd, hdo.2.symm, he⟩
  refine ⟨⟨n5, hw, a0, a1, f4, f0, f1, T0, T1, fun i hi => ⟨(key i hi).1, (key i hi).2.1⟩, fun i hi => (key i hi).2.2.1⟩, ?_, hsee⟩
  apply List.ext_getElem
  · simp [fourL, hlen]
  · intro i h1 h2
    rw [(key i (by omega)).2.2.2]
    simp [fourL]

end Go.Proofs.Ytapeoeakiphfpaa

/- The contract of paviorlaw17.alike. -/
namespace Go.Proofs.Ytapeoeakiphfpaa
open Go.RowKit
set_option linter.unusedVariables false
set_option linter.unusedSimpArgs false
attribute [local go_sem] setCell_drewN alloc_drewN lt_moreE le_moreE lt_moreK le_moreK cell_more frozen_more set_more drew_more drewN_more

/-- Walks before and behind. -/
def AlikeF (n : Nat) (ws us : List Int) (root page : Int) (b : Bool) : Prop := ∀ q : Int, 0 ≤ q → q < 4096 → ∃ x y, walkAt ws n q 4 0 root = some x ∧ walkAt us n q 4 0 root = some y ∧
  (q / 4 = page / 4 → y.fKind = 3 ∧ y.fOrder = (if b then 2 else 0) ∧ y.fFrame = x.fFrame ∧ y.fWrite = x.fWrite ∧ y.fExec = x.fExec ∧ y.fSeen = x.fSeen) ∧ (q / 4 ≠ page / 4 → y = x)
set_option maxRecDepth 100000 in
set_option maxHeartbeats 4000000 in
theorem law17_alike (w : World) {h hc h5 hc5 n : Nat} {gb gc gb5 gc5 : Nat → Nat} {ws us : List Int} (hr : RefAt w h hc n gb gc ws) (hr5 : RefAt w h5 hc5 n gb5 gc5 us) (hw : WOk ws) (hu : WOk us) (root page : Int) (r0 : 0 ≤ root) (r1 : root < n) (p0 : 0 ≤ page) (p1 : page < 4096) (b : Bool) (hA : AlikeF n ws us root page b) :
    Calls Try.prog 55 #[.slice (some ⟨h, 0, none⟩) n hc, .slice (some ⟨h5, 0, none⟩) n hc5, .int .i64 root, .int .i64 page, .bool b] w fun e w' => Ext w w' ∧ e = .returned (.bool true) := by
  have HR70 := Lib.hid hr
  have HR7 := Lib.hid hr5
  have HW := Lib.hid hw
  have HWU := Lib.hid hu
  have HWa := Lib.hid hA
  clear hr hr5 hw hu hA
  go_enter Try.func55, Try.ntmps55
  go_wp2_with fail
  go_loopw [11, 12, 13, 14, 15] (fun i _ _ _ _ wr => ∃ k : Nat, k ≤ 4096 ∧ i = .int .i64 k ∧ Ext w wr) (fun i _ _ _ _ _ => 4096 - (intOf i).toNat)
  case atStart => exact ⟨0, Nat.zero_le _, rfl, Ext.refl _⟩
  case round =>
    obtain ⟨k, hk, rfl, ⟨x, rfl⟩⟩ := hrel
    by_cases hlt : k < 4096
    · obtain ⟨fx, fy, hx, hy, hin, hout⟩ := HWa.out k (by omega) (by omega)
      have HX := Lib.hid (fun w hr => ref04_Walk (w := w) (h := h) (hc := hc) (gb := gb) (gc := gc) hr HW.out root k (by omega) (by omega) _ hx)
      have HY := Lib.hid (fun w hr => ref04_Walk (w := w) (h := h5) (hc := hc5) (gb := gb5) (gc := gc5) hr HWU.out root k (by omega) (by omega) _ hy)
      clear hx hy
      by_cases hkp : (k : Int) / 4 = page / 4
      · obtain ⟨e1, e2, e3, e4, e5, e6⟩ := hin hkp
        obtain ⟨F0, F1, F2, F3, F4, F5, F6, F7, F8, F9, F10⟩ := fx
        obtain ⟨Y0, Y1, Y2, Y3, Y4, Y5, Y6, Y7, Y8, Y9, Y10⟩ := fy
        dsimp only at e1 e2 e3 e4 e5 e6
        subst e1 e3 e4 e5 e6
        have hkb : ((k : Int) / 4 == page / 4) = true := by simpa using hkp
        have hob : ((Y5 == (2 : Int)) == b) = true := by subst e2; cases b <;> rfl
        have hob2 : decide (Y5 = (2 : Int)) = b := by subst e2; cases b <;> rfl
        clear hin hout hkp e2
        go_wp2_with fail
        refine (HX.out _ (by repeat (first | exact HR70.out | apply RefAt.more | apply RefAt.alloc | apply RefAt.drew | apply RefAt.drewN))).mono ?_
        rintro e w' ⟨⟨ex1, rfl⟩, rfl⟩
        rw [refV_s]
        go_wp2_with fail
        refine (HY.out _ (by repeat (first | exact HR7.out | apply RefAt.more | apply RefAt.alloc | apply RefAt.drew | apply RefAt.drewN))).mono ?_
        rintro e w' ⟨⟨ex2, rfl⟩, rfl⟩
        rw [refV_s]
        go_wp2_with fail
        go_roundw
        case rel => exact ⟨k + 1, by omega, by go_num, (by repeat (first | exact Ext.refl _ | apply Ext.more | apply Ext.alloc | apply Ext.drew | apply Ext.drewN))⟩
        case measure => simp [intOf]; omega
      · have he := hout hkp
        subst he
        obtain ⟨F0, F1, F2, F3, F4, F5, F6, F7, F8, F9, F10⟩ := fy
        have hkb : ((k : Int) / 4 == page / 4) = false := by simpa using hkp
        clear hin hout hkp
        go_wp2_with fail
        refine (HX.out _ (by repeat (first | exact HR70.out | apply RefAt.more | apply RefAt.alloc | apply RefAt.drew | apply RefAt.drewN))).mono ?_
        rintro e w' ⟨⟨ex1, rfl⟩, rfl⟩
        rw [refV_s]
        go_wp2_with fail
        refine (HY.out _ (by repeat (first | exact HR7.out | apply RefAt.more | apply RefAt.alloc | apply RefAt.drew | apply RefAt.drewN))).mono ?_
        rintro e w' ⟨⟨ex2, rfl⟩, rfl⟩
        rw [refV_s]
        go_wp2_with fail
        go_roundw
        case rel => exact ⟨k + 1, by omega, by go_num, (by repeat (first | exact Ext.refl _ | apply Ext.more | apply Ext.alloc | apply Ext.drew | apply Ext.drewN))⟩
        case measure => simp [intOf]; omega
    · obtain rfl : k = 4096 := by omega
      go_wp2_with fail
      go_ret
      exact ⟨(by repeat (first | exact Ext.refl _ | apply Ext.more | apply Ext.alloc | apply Ext.drew | apply Ext.drewN)), rfl⟩

end Go.Proofs.Ytapeoeakiphfpaa
