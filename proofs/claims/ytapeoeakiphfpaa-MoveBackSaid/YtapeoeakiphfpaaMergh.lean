import Derived.Test.YtapeoeakiphfpaaBMergfPathrPatht
import Derived.Test.YtapeoeakiphfpaaPrune
/- The contract of huge.Merge. -/
namespace Go.Proofs.Ytapeoeakiphfpaa
open Go.RowKit
set_option linter.unusedVariables false
set_option linter.unusedSimpArgs false
attribute [local go_sem] setCell_drewN alloc_drewN lt_moreE le_moreE lt_moreK le_moreK cell_more frozen_more set_more drew_more drewN_more

theorem results_tmp4 {fn : Func} {t u v x : Tmp} (h : fn.results = #[.tmp t, .tmp u, .tmp v, .tmp x]) (tmps : Array Value) (P : Program) (w : World) :
    (results fn tmps).run P w = .ok (.tuple #[tmps.getD t undef, tmps.getD u undef, tmps.getD v undef, tmps.getD x undef]) w := by
  simp [results, h]
theorem way_take {ws : List Int} {n page : Int} : ∀ (k : Nat) (l tb : Int) (s : List (Int × Int)) (d : Desc), 1 ≤ k → wayAt ws n page (k + 1) l tb = some (s, d) → s.length = k + 1 → ∃ d', wayAt ws n page k l tb = some (s.take k, d') := by
  intro k
  induction k with
  | zero => intro l tb s d h; omega
  | succ k ih =>
    intro l tb s d _ h hl
    rw [wayAt_in rfl rfl rfl] at h
    split at h
    · simp only [Option.some.injEq, Prod.mk.injEq] at h
      rw [← h.1] at hl
      simp at hl
    · rename_i hc
      split at h
      · rename_i ht
        rw [Option.map_eq_some_iff] at h
        obtain ⟨⟨s', d'⟩, h1, h2⟩ := h
        simp only [Prod.mk.injEq] at h2
        obtain ⟨rfl, rfl⟩ := h2
        simp at hl
        rw [wayAt_in rfl rfl rfl]
        by_cases hk : k = 0
        · subst hk
          rw [if_pos (.inl rfl)]
          exact ⟨decD l (ws.getD (tb.toNat * 8 + (placeN l page).toNat) 0), by simp⟩
        · rw [if_neg (by intro e; rcases e with e | e; exact hk e; exact hc (.inr e)), if_pos ht]
          obtain ⟨d2, h3⟩ := ih _ _ _ _ (by omega) h1 (by omega)
          rw [h3]
          exact ⟨d2, by simp⟩
      · cases h
def blockD (base : Int) (wr ex : Bool) : Desc := ⟨2, base, wr, ex, false, false, 0⟩
def MayM (n : Nat) (root asid page base : Int) : Prop := HasP n root asid page base ∧ base + 7 < n ∧ base % 8 = 0 ∧ page % 8 = 0
def mergeS (ws : List Int) (asid page base : Int) (wr ex : Bool) (t tb : Int) (l : List (Int × Int)) : List Step := ((awayM l asid t page ++ fillN ws t base 8) ++ swapS asid tb (placeN 2 page) page (encW (blockD base wr ex))) ++ [dropS t]
/-- What Merge tells. -/
inductive MergeR where
  | yes (s : List Step) (t : Int) (l : List (Int × Int))
  | no (k : Nat)
def MergeRet (B : Nat) (w' : World) (nok : Value) (r : MergeR) (e : Ending) (err : Nat → Value) : Prop := match r with
  | .yes s t l => ∃ a cap a2 cap2, e = .returned (.tuple #[.slice a s.length cap, .int .i64 t, .slice a2 l.length cap2, nok]) ∧ OwnS w' B (.slice a s.length cap) s ∧ w'.ownsRow B 104 2 (.slice a2 l.length cap2) l.length (l.map slotC).flatten
  | .no k => e = .returned (.tuple #[.slice none 0 0, .int .i64 0, .slice none 0 0, err k])
theorem mergeRet_yes {B B1 B2 n m : Nat} {w' : World} {r : MergeR} {s : List Step} {t : Int} {l : List (Int × Int)} {v u nok : Value} {xs ys : List Value} {err : Nat → Value} (hr : r = .yes s t l) (h : w'.ownsRow B1 73 10 v n xs) (h2 : w'.ownsRow B2 104 2 u m ys) (hb : B ≤ B1) (hb2 : B ≤ B2)
    (hn : n = s.length) (hx : xs = CS s) (hm : m = l.length) (hy : ys = (l.map slotC).flatten) : MergeRet B w' nok r (.returned (.tuple #[v, .int .i64 t, u, nok])) err := by
  obtain ⟨a, cap, rfl⟩ := own_form h
  obtain ⟨a2, cap2, rfl⟩ := own_form h2
  subst hn hx hm hy hr
  exact ⟨a, cap, a2, cap2, rfl, own_low h hb, own_low h2 hb2⟩
def mergeRes (ws : List Int) (asid page base : Int) (wr ex : Bool) : Option (List (Int × Int) × Desc) → MergeR
  | none => .no 2
  | some (s, d) => if s.length < 4 then .no 7 else match pagesN ws (s.getD 3 (0, 0)).1 page 8 with
    | none => .no 7
    | some l => .yes (mergeS ws asid page base wr ex (s.getD 3 (0, 0)).1 (s.getD 2 (0, 0)).1 l) (s.getD 3 (0, 0)).1 l
theorem okD_blk {base : Int} {wr ex : Bool} (h0 : 0 ≤ base) (h1 : base < 512) (h2 : base % 8 = 0) : okD 2 (blockD base wr ex) = true := by
  unfold okD mayD blockD
  simp
  omega
theorem okD_blk_no {base : Int} {wr ex : Bool} (h : okD 2 (blockD base wr ex) = true) : 0 ≤ base ∧ base < 512 ∧ base % 8 = 0 := by
  obtain ⟨h1, h2, h3, h4⟩ := okD_block h rfl
  obtain ⟨_, _, h5, h6, _⟩ := okD_parts h
  exact ⟨h3, h6, h2⟩

set_option maxRecDepth 100000 in
set_option maxHeartbeats 4000000 in
theorem huge_Merge_no (w : World) {b g n c : Nat} {ws : List Int} (hm : MemAt w b g n c ws) (root asid page base : Int) (wr ex : Bool) (h : ¬ MayM n root asid page base) :
    Calls Try.prog 57 #[.pointer (some ⟨b, 0, none⟩), .int .i64 root, .int .i64 asid, .int .i64 page, .int .i64 base, .agg #[.bool wr, .bool ex]] w fun e w' => Ext w w' ∧ e = .returned (.tuple #[.slice none 0 0, .int .i64 0, .slice none 0 0, errW 1]) := by
  have HM := Lib.hid hm
  have hle := hm.le
  clear hm
  cases ho : okD 2 (blockD base wr ex) with
  | false =>
    have HE := Lib.hid (fun w => extC (pte_Encode_no w 2 _ ho))
    clear h ho
    go_enter Try.func57, Try.ntmps57
    go_wp2_with fail
    refine (HE.out _).mono ?_
    rintro e w' ⟨⟨x1, rfl⟩, rfl⟩
    go_wp2_with fail
    refine bodyPost_ret (results_tmp4 rfl _ _ _) rfl ?_
    exact ⟨(by repeat (first | exact Ext.refl _ | apply Ext.more | apply Ext.alloc | apply Ext.drew | apply Ext.drewN)), rfl⟩
  | true =>
    have HE := Lib.hid (fun w => extC (pte_Encode_yes w 2 _ ho))
    obtain ⟨b0, b1, b2⟩ := okD_blk_no ho
    by_cases h1 : HasP n root asid page base
    · have HH1 := Lib.hid (fun w hm => huge_has_yes w (b := b) (g := g) (n := n) (c := c) (ws := ws) hm root asid page base h1)
      by_cases h2 : base + 7 < n
      · have HH2 := Lib.hid (fun w hm => huge_has_yes w (b := b) (g := g) (n := n) (c := c) (ws := ws) hm root asid page (base + 8 - 1) (by unfold HasP at *; omega))
        have h3 : page % 8 ≠ 0 := fun e => h ⟨h1, h2, b2, e⟩
        have h3' : (page % 8 != 0) = true := by simpa using h3
        obtain ⟨_, _, p0, p1, _⟩ := h1
        clear h ho h3
        go_enter Try.func57, Try.ntmps57
        go_wp2_with fail
        refine (HE.out _).mono ?_
        rintro e w' ⟨⟨x1, rfl⟩, rfl⟩
        go_wp2_with fail
        refine (HH1.out _ (by repeat (first | exact HM.out | apply MemAt.more | apply MemAt.alloc | apply MemAt.drew | apply MemAt.drewN))).mono ?_
        rintro e w' ⟨rfl, hww⟩
        subst w'
        go_wp2_with fail
        refine (HH2.out _ (by repeat (first | exact HM.out | apply MemAt.more | apply MemAt.alloc | apply MemAt.drew | apply MemAt.drewN))).mono ?_
        rintro e w' ⟨rfl, hww⟩
        subst w'
        go_wp2_with fail
        refine bodyPost_ret (results_tmp4 rfl _ _ _) rfl ?_
        exact ⟨(by repeat (first | exact Ext.refl _ | apply Ext.more | apply Ext.alloc | apply Ext.drew | apply Ext.drewN)), rfl⟩
      · have HH2 := Lib.hid (fun w hm => huge_has_no w (b := b) (g := g) (n := n) (c := c) (ws := ws) hm root asid page (base + 8 - 1) (by unfold HasP at *; omega))
        clear h ho h1 h2
        go_enter Try.func57, Try.ntmps57
        go_wp2_with fail
        refine (HE.out _).mono ?_
        rintro e w' ⟨⟨x1, rfl⟩, rfl⟩
        go_wp2_with fail
        refine (HH1.out _ (by repeat (first | exact HM.out | apply MemAt.more | apply MemAt.alloc | apply MemAt.drew | apply MemAt.drewN))).mono ?_
        rintro e w' ⟨rfl, hww⟩
        subst w'
        go_wp2_with fail
        refine (HH2.out _ (by repeat (first | exact HM.out | apply MemAt.more | apply MemAt.alloc | apply MemAt.drew | apply MemAt.drewN))).mono ?_
        rintro e w' ⟨rfl, hww⟩
        subst w'
        go_wp2_with fail
        refine bodyPost_ret (results_tmp4 rfl _ _ _) rfl ?_
        exact ⟨(by repeat (first | exact Ext.refl _ | apply Ext.more | apply Ext.alloc | apply Ext.drew | apply Ext.drewN)), rfl⟩
    · have HH1 := Lib.hid (fun w hm => huge_has_no w (b := b) (g := g) (n := n) (c := c) (ws := ws) hm root asid page base h1)
      clear h ho h1
      go_enter Try.func57, Try.ntmps57
      go_wp2_with fail
      refine (HE.out _).mono ?_
      rintro e w' ⟨⟨x1, rfl⟩, rfl⟩
      go_wp2_with fail
      refine (HH1.out _ (by repeat (first | exact HM.out | apply MemAt.more | apply MemAt.alloc | apply MemAt.drew | apply MemAt.drewN))).mono ?_
      rintro e w' ⟨rfl, hww⟩
      subst w'
      go_wp2_with fail
      refine bodyPost_ret (results_tmp4 rfl _ _ _) rfl ?_
      exact ⟨(by repeat (first | exact Ext.refl _ | apply Ext.more | apply Ext.alloc | apply Ext.drew | apply Ext.drewN)), rfl⟩

set_option maxRecDepth 100000 in
set_option maxHeartbeats 8000000 in
theorem huge_Merge (w : World) {b g n c : Nat} {ws : List Int} (hm : MemAt w b g n c ws) (hw : WOk ws) (root asid page base : Int) (wr ex : Bool) (h : MayM n root asid page base) (r : Option (List (Int × Int) × Desc)) (hr : wayAt ws n page 4 0 root = r) :
    Calls Try.prog 57 #[.pointer (some ⟨b, 0, none⟩), .int .i64 root, .int .i64 asid, .int .i64 page, .int .i64 base, .agg #[.bool wr, .bool ex]] w fun e w' => Ext w w' ∧ MergeRet w.heap.size w' .nilIface (mergeRes ws asid page base wr ex r) e (fun k => errW k) := by
  have HM := Lib.hid hm
  have hle := hm.le
  obtain ⟨hP, h7, b2, p2⟩ := h
  have hP' : HasP n root asid page (base + 8 - 1) := by unfold HasP at *; omega
  have HH1 := Lib.hid (fun w hm => huge_has_yes w (b := b) (g := g) (n := n) (c := c) (ws := ws) hm root asid page base hP)
  have HH2 := Lib.hid (fun w hm => huge_has_yes w (b := b) (g := g) (n := n) (c := c) (ws := ws) hm root asid page (base + 8 - 1) hP')
  obtain ⟨r0, r1, p0, p1, b0, b1, a0, a1⟩ := hP
  have HE := Lib.hid (fun w => extC (pte_Encode_yes w 2 _ (okD_blk (wr := wr) (ex := ex) b0 (show base < 512 by omega) b2)))
  have HN := Lib.hid (fun w hm => tree_Need w (b := b) (g := g) (n := n) (c := c) hm hw root page 3 r0 r1 p0 p1 (by omega) (by omega) r hr)
  have hp3 : (page % 8 != 0) = false := by simpa using p2
  have HR := Lib.hid hr
  clear hm hr hP'
  cases r with
  | none =>
    clear hw
    go_enter Try.func57, Try.ntmps57
    go_wp2_with fail
    refine (HE.out _).mono ?_
    rintro e w' ⟨⟨x1, rfl⟩, rfl⟩
    go_wp2_with fail
    refine (HH1.out _ (by repeat (first | exact HM.out | apply MemAt.more | apply MemAt.alloc | apply MemAt.drew | apply MemAt.drewN))).mono ?_
    rintro e w' ⟨rfl, hww⟩
    subst w'
    go_wp2_with fail
    refine (HH2.out _ (by repeat (first | exact HM.out | apply MemAt.more | apply MemAt.alloc | apply MemAt.drew | apply MemAt.drewN))).mono ?_
    rintro e w' ⟨rfl, hww⟩
    subst w'
    go_wp2_with fail
    refine (HN.out _ (by repeat (first | exact HM.out | apply MemAt.more | apply MemAt.alloc | apply MemAt.drew | apply MemAt.drewN))).mono ?_
    rintro e w' ⟨⟨x2, rfl⟩, rfl⟩
    rw [show (needP 3 none).1 = 0 from rfl, show errV (needP 3 none).2 = errW 2 from rfl]
    go_wp2_with fail
    refine bodyPost_ret (results_tmp4 rfl _ _ _) rfl ?_
    exact ⟨(by repeat (first | exact Ext.refl _ | apply Ext.more | apply Ext.alloc | apply Ext.drew | apply Ext.drewN)), rfl⟩
  | some r =>
    obtain ⟨s, d⟩ := r
    obtain ⟨s0, s1⟩ := wayAt_len 4 0 root s d HR.out
    by_cases h4 : s.length < 4
    · have HV := Lib.hid (show mergeRes ws asid page base wr ex (some (s, d)) = .no 7 from by unfold mergeRes; dsimp only; rw [if_pos h4])
      clear hw
      by_cases hk : d.fKind = 0
      · have HNP := Lib.hid (show needP 3 (some (s, d)) = (((4 - s.length : Nat) : Int), 0) from by simp only [needP]; rw [if_neg (by omega)]; congr 1; omega)
        obtain ⟨k, hk2⟩ : ∃ k, 4 - s.length = k := ⟨_, rfl⟩
        have hk0 : 0 < k := by omega
        rw [hk2] at HNP
        clear h4 hk hk2
        go_enter Try.func57, Try.ntmps57
        go_wp2_with fail
        refine (HE.out _).mono ?_
        rintro e w' ⟨⟨x1, rfl⟩, rfl⟩
        go_wp2_with fail
        refine (HH1.out _ (by repeat (first | exact HM.out | apply MemAt.more | apply MemAt.alloc | apply MemAt.drew | apply MemAt.drewN))).mono ?_
        rintro e w' ⟨rfl, hww⟩
        subst w'
        go_wp2_with fail
        refine (HH2.out _ (by repeat (first | exact HM.out | apply MemAt.more | apply MemAt.alloc | apply MemAt.drew | apply MemAt.drewN))).mono ?_
        rintro e w' ⟨rfl, hww⟩
        subst w'
        go_wp2_with fail
        refine (HN.out _ (by repeat (first | exact HM.out | apply MemAt.more | apply MemAt.alloc | apply MemAt.drew | apply MemAt.drewN))).mono ?_
        rintro e w' ⟨⟨x2, rfl⟩, rfl⟩
        rw [HNP.out]
        rw [show errV 0 = .nilIface from rfl]
        go_wp2_with fail
        refine bodyPost_ret (results_tmp4 rfl _ _ _) rfl ?_
        exact ⟨(by repeat (first | exact Ext.refl _ | apply Ext.more | apply Ext.alloc | apply Ext.drew | apply Ext.drewN)), by rw [HV.out]; rfl⟩
      · have HNP := Lib.hid (show needP 3 (some (s, d)) = (0, 7) from by simp only [needP]; rw [if_pos ⟨by omega, hk⟩])
        clear h4 hk
        go_enter Try.func57, Try.ntmps57
        go_wp2_with fail
        refine (HE.out _).mono ?_
        rintro e w' ⟨⟨x1, rfl⟩, rfl⟩
        go_wp2_with fail
        refine (HH1.out _ (by repeat (first | exact HM.out | apply MemAt.more | apply MemAt.alloc | apply MemAt.drew | apply MemAt.drewN))).mono ?_
        rintro e w' ⟨rfl, hww⟩
        subst w'
        go_wp2_with fail
        refine (HH2.out _ (by repeat (first | exact HM.out | apply MemAt.more | apply MemAt.alloc | apply MemAt.drew | apply MemAt.drewN))).mono ?_
        rintro e w' ⟨rfl, hww⟩
        subst w'
        go_wp2_with fail
        refine (HN.out _ (by repeat (first | exact HM.out | apply MemAt.more | apply MemAt.alloc | apply MemAt.drew | apply MemAt.drewN))).mono ?_
        rintro e w' ⟨⟨x2, rfl⟩, rfl⟩
        rw [HNP.out]
        rw [show errV 7 = errW 7 from rfl]
        go_wp2_with fail
        refine bodyPost_ret (results_tmp4 rfl _ _ _) rfl ?_
        exact ⟨(by repeat (first | exact Ext.refl _ | apply Ext.more | apply Ext.alloc | apply Ext.drew | apply Ext.drewN)), by rw [HV.out]; rfl⟩
    · have hl4 : s.length = 4 := by omega
      have HNP := Lib.hid (show needP 3 (some (s, d)) = (0, 0) from by simp only [needP]; rw [if_neg (by omega), hl4]; rfl)
      obtain ⟨d', HR2⟩ := way_take 3 0 root s d (by omega) HR.out hl4
      have HRd := Lib.hid HR2
      clear HR2
      have hls : lastS s = s.getD 3 (0, 0) := by unfold lastS; rw [hl4]
      have hls2 : lastS (s.take 3) = s.getD 2 (0, 0) := by unfold lastS; rw [List.length_take, hl4]; simp [List.getElem?_take]
      have e1 : pathRes n asid page 3 [] (some (s, d)) = .yes [] (s.getD 3 (0, 0)) := by
        unfold pathRes
        dsimp only
        rw [if_neg (by rw [hl4]; simp), if_neg (by omega), if_neg (by simp), if_neg (by rw [hl4]; simp), ← hls]
        unfold pathT
        simp [pathS]
      have e2 : pathRes n asid page 2 [] (some (s.take 3, d')) = .yes [] (s.getD 2 (0, 0)) := by
        unfold pathRes
        dsimp only
        have hl3 : (s.take 3).length = 3 := by rw [List.length_take]; omega
        rw [if_neg (by rw [hl3]; simp), if_neg (by omega), if_neg (by simp), if_neg (by rw [hl3]; simp), ← hls2]
        unfold pathT
        simp [pathS]
      have HP3 := Lib.hid (fun w (hm : MemAt w b g n c ws) => tree_PathR w hm hw root asid page 3 r0 r1 p0 p1 (by omega) (by omega) [] (.slice none 0 0) (.inl ⟨rfl, rfl⟩) (by simp) _ HR.out _ e1)
      have HP2 := Lib.hid (fun w (hm : MemAt w b g n c ws) => tree_PathR w hm hw root asid page 2 r0 r1 p0 p1 (by omega) (by omega) [] (.slice none 0 0) (.inl ⟨rfl, rfl⟩) (by simp) _ HRd.out _ e2)
      have hz3 : s[3]? = some (s.getD 3 (0, 0)) := by rw [List.getD_eq_getElem?_getD, List.getElem?_eq_getElem (by omega)]; rfl
      have hz2 : s[2]? = some (s.getD 2 (0, 0)) := by rw [List.getD_eq_getElem?_getD, List.getElem?_eq_getElem (by omega)]; rfl
      obtain ⟨t0, t1⟩ := way_in' 4 0 root s d r0 r1 HR.out _ (List.mem_of_getElem? hz3)
      have hpl : (s.getD 2 (0, 0)).2 = placeN 2 page := by have := way_place 4 0 root s d HR.out 2 _ hz2; simpa using this
      have hVr : mergeRes ws asid page base wr ex (some (s, d)) = match pagesN ws (s.getD 3 (0, 0)).1 page 8 with | none => .no 7 | some l => .yes (mergeS ws asid page base wr ex (s.getD 3 (0, 0)).1 (s.getD 2 (0, 0)).1 l) (s.getD 3 (0, 0)).1 l := by conv => lhs; unfold mergeRes; dsimp only; rw [if_neg h4]
      generalize s.getD 3 (0, 0) = z3 at *
      generalize s.getD 2 (0, 0) = z2 at *
      obtain ⟨t, tp⟩ := z3
      obtain ⟨tb, pl⟩ := z2
      dsimp only at t0 t1 hpl hVr
      have HPg := Lib.hid (fun r hr w (hm : MemAt w b g n c ws) => huge_pages w hm hw t page t0 t1 p0 p1 r hr)
      have HVr := Lib.hid hVr
      clear hls hls2 e1 e2 hz3 hz2 h4 hVr hw
      cases hpg : pagesN ws t page 8 with
      | none =>
        have HV := Lib.hid (show mergeRes ws asid page base wr ex (some (s, d)) = .no 7 from by rw [HVr.out, hpg])
        have HPg' := Lib.hid (HPg.out _ hpg)
        clear HVr HPg hpg
        go_enter Try.func57, Try.ntmps57
        go_wp2_with fail
        refine (HE.out _).mono ?_
        rintro e w' ⟨⟨x1, rfl⟩, rfl⟩
        go_wp2_with fail
        refine (HH1.out _ (by repeat (first | exact HM.out | apply MemAt.more | apply MemAt.alloc | apply MemAt.drew | apply MemAt.drewN))).mono ?_
        rintro e w' ⟨rfl, hww⟩
        subst w'
        go_wp2_with fail
        refine (HH2.out _ (by repeat (first | exact HM.out | apply MemAt.more | apply MemAt.alloc | apply MemAt.drew | apply MemAt.drewN))).mono ?_
        rintro e w' ⟨rfl, hww⟩
        subst w'
        go_wp2_with fail
        refine (HN.out _ (by repeat (first | exact HM.out | apply MemAt.more | apply MemAt.alloc | apply MemAt.drew | apply MemAt.drewN))).mono ?_
        rintro e w' ⟨⟨x2, rfl⟩, rfl⟩
        rw [HNP.out]
        rw [show errV 0 = .nilIface from rfl]
        go_wp2_with fail
        refine (HP3.out _ (by repeat (first | exact HM.out | apply MemAt.more | apply MemAt.alloc | apply MemAt.drew | apply MemAt.drewN))).mono ?_
        rintro e w' ⟨⟨x3, rfl⟩, pa, pc, rfl, _⟩
        go_wp2_with fail
        refine (HP2.out _ (by repeat (first | exact HM.out | apply MemAt.more | apply MemAt.alloc | apply MemAt.drew | apply MemAt.drewN))).mono ?_
        rintro e w' ⟨⟨x4, rfl⟩, pa2, pc2, rfl, _⟩
        go_wp2_with fail
        refine (HPg'.out _ (by repeat (first | exact HM.out | apply MemAt.more | apply MemAt.alloc | apply MemAt.drew | apply MemAt.drewN))).mono ?_
        rintro e w' ⟨⟨x5, rfl⟩, rfl⟩
        go_wp2_with fail
        refine bodyPost_ret (results_tmp4 rfl _ _ _) rfl ?_
        exact ⟨(by repeat (first | exact Ext.refl _ | apply Ext.more | apply Ext.alloc | apply Ext.drew | apply Ext.drewN)), by rw [HV.out]; rfl⟩
      | some l =>
        obtain ⟨hlp, hkk⟩ := pagesN_pgs hpg
        have HV := Lib.hid (show mergeRes ws asid page base wr ex (some (s, d)) = .yes (mergeS ws asid page base wr ex t tb l) t l from by rw [HVr.out, hpg])
        have HPg' := Lib.hid (HPg.out _ hpg)
        have hll : l.length ≤ 8 := by rw [hlp]; exact pgs_len
        have HAw := Lib.hid (fun w B cap a ho => huge_away w l (B := B) (cap := cap) (a := a) ho asid t page (fun z hz => by
          rw [hlp] at hz
          obtain ⟨j, _, h2, _, rfl⟩ := pgs_in z hz
          show 0 ≤ page + (j : Int) ∧ page + (j : Int) < 4096 ∧ (page + (j : Int)) % 8 = page + (j : Int) - page
          omega) hll)
        have HFi := Lib.hid (fun w v (hv : SlRd w v 2 (l.map slotC)) => huge_fill (t := t) w v (hlp ▸ hv) base p0 (by omega) b0 (by omega) hkk)
        obtain ⟨hf1, hf2⟩ := fillN_len ws t base 8
        have HSw := Lib.hid (fun w v => huge_swap w asid tb (placeN 2 page) page v p0 (by omega))
        subst hpl
        clear HVr HPg hpg hlp hkk
        go_enter Try.func57, Try.ntmps57
        go_wp2_with fail
        refine (HE.out _).mono ?_
        rintro e w' ⟨⟨x1, rfl⟩, rfl⟩
        obtain ⟨ev, hev⟩ : ∃ ev, encW (blockD base wr ex) = ev := ⟨_, rfl⟩
        rw [hev]
        have HEv := Lib.hid hev
        clear hev
        go_wp2_with fail
        refine (HH1.out _ (by repeat (first | exact HM.out | apply MemAt.more | apply MemAt.alloc | apply MemAt.drew | apply MemAt.drewN))).mono ?_
        rintro e w' ⟨rfl, hww⟩
        subst w'
        go_wp2_with fail
        refine (HH2.out _ (by repeat (first | exact HM.out | apply MemAt.more | apply MemAt.alloc | apply MemAt.drew | apply MemAt.drewN))).mono ?_
        rintro e w' ⟨rfl, hww⟩
        subst w'
        go_wp2_with fail
        refine (HN.out _ (by repeat (first | exact HM.out | apply MemAt.more | apply MemAt.alloc | apply MemAt.drew | apply MemAt.drewN))).mono ?_
        rintro e w' ⟨⟨x2, rfl⟩, rfl⟩
        rw [HNP.out]
        rw [show errV 0 = .nilIface from rfl]
        go_wp2_with fail
        refine (HP3.out _ (by repeat (first | exact HM.out | apply MemAt.more | apply MemAt.alloc | apply MemAt.drew | apply MemAt.drewN))).mono ?_
        rintro e w' ⟨⟨x3, rfl⟩, pa, pc, rfl, _⟩
        go_wp2_with fail
        obtain ⟨W1, hW1⟩ : ∃ W1, (more (more (more (w.alloc (.cells #[.bool wr, .bool ex] 99)) x1) x2) x3).alloc (.cells #[.int .i64 t, .int .i64 tp] 61) = W1 := ⟨_, rfl⟩
        have HE1 := Lib.hid (show Ext w W1 from hW1 ▸ (show Ext w ((more (more (more (w.alloc (.cells #[.bool wr, .bool ex] 99)) x1) x2) x3).alloc (.cells #[.int .i64 t, .int .i64 tp] 61)) from (by repeat (first | exact Ext.refl _ | apply Ext.more | apply Ext.alloc | apply Ext.drew | apply Ext.drewN))))
        obtain ⟨xa, hxa⟩ : ∃ xa, (more (more (more (w.alloc (.cells #[.bool wr, .bool ex] 99)) x1) x2) x3).heap.size = xa := ⟨_, rfl⟩
        have HBa := Lib.hid (show W1.heap[xa]? = some (.cells #[.int .i64 t, .int .i64 tp] 61 (0, 0)) from by rw [← hW1, ← hxa]; exact heap_alloc_new _ _)
        rw [hW1, hxa]
        clear hW1 hxa
        have HM1 := Lib.hid (HM.out.kept0 HE1.out.grow)
        clear HM
        refine (HP2.out _ HM1.out).mono ?_
        rintro e w' ⟨⟨x4, rfl⟩, pa2, pc2, rfl, _⟩
        obtain ⟨c0', c1', cf'⟩ := cells2u HBa.out
        have fa00 : xa < W1.heap.size := (Array.getElem?_eq_some_iff.1 HBa.out).1
        obtain ⟨fa10, fa20, fa30⟩ := lt_facts fa00
        go_wp2_with fail
        clear c0' c1' cf' fa00 fa10 fa20 fa30
        obtain ⟨W2, hW2⟩ : ∃ W2, (more W1 x4).alloc (.cells #[.int .i64 tb, .int .i64 (placeN 2 page)] 61) = W2 := ⟨_, rfl⟩
        have hE12 : Ext W1 W2 := hW2 ▸ (show Ext W1 ((more W1 x4).alloc (.cells #[.int .i64 tb, .int .i64 (placeN 2 page)] 61)) from (by repeat (first | exact Ext.refl _ | apply Ext.more | apply Ext.alloc | apply Ext.drew | apply Ext.drewN)))
        obtain ⟨xb, hxb⟩ : ∃ xb, (more W1 x4).heap.size = xb := ⟨_, rfl⟩
        have HBb := Lib.hid (show W2.heap[xb]? = some (.cells #[.int .i64 tb, .int .i64 (placeN 2 page)] 61 (0, 0)) from by rw [← hW2, ← hxb]; exact heap_alloc_new _ _)
        rw [hW2, hxb]
        clear hW2 hxb
        have HM2 := Lib.hid (HM1.out.kept0 hE12.grow)
        have HE2 := Lib.hid (HE1.out.trans hE12)
        have hBa2 : W2.heap[xa]? = some (.cells #[.int .i64 t, .int .i64 tp] 61 (0, 0)) := (hE12.grow.block xa (Array.getElem?_eq_some_iff.1 HBa.out).1 (by simp)).trans HBa.out
        have fa0 : xa < W2.heap.size := (Array.getElem?_eq_some_iff.1 hBa2).1
        have fb0 : xb < W2.heap.size := (Array.getElem?_eq_some_iff.1 HBb.out).1
        obtain ⟨c0, c1, cf⟩ := cells2u hBa2
        obtain ⟨d0, d1, df⟩ := cells2u HBb.out
        obtain ⟨fa1, fa2, fa3⟩ := lt_facts fa0
        obtain ⟨fb1, fb2, fb3⟩ := lt_facts fb0
        clear HM1 HE1 HBa HBb hE12 hBa2
        refine (HPg'.out _ HM2.out).mono ?_
        rintro e w' ⟨⟨x5, rfl⟩, a5, c5, rfl, hO5⟩
        have HO5 := Lib.hid hO5
        clear hO5
        go_wp2_with fail
        refine (HAw.out _ _ _ _ HO5.out).mono ?_
        rintro e w' ⟨⟨x6, rfl⟩, a6, c6, rfl, hO6⟩
        have HO6 := Lib.hid (show (more (more W2 x5) x6).ownsRow W2.heap.size 73 10 (.slice a6 (l.length + l.length) c6) (l.length + l.length) (CS (awayM l asid t page)) from own_low hO6 (size_le_more _ _))
        clear hO6
        go_wp2_with fail
        refine (HFi.out _ _ (own_rd (own_more HO5.out x6) (by simp) rfl (by intro c hc; obtain ⟨z, _, rfl⟩ := List.mem_map.1 hc; rfl))).mono ?_
        rintro e w' ⟨⟨x7, rfl⟩, a7, c7, rfl, hO7⟩
        have HO7 := Lib.hid (show (more (more (more W2 x5) x6) x7).ownsRow 0 73 10 (.slice a7 (fillN ws t base 8).length c7) (fillN ws t base 8).length (CS (fillN ws t base 8)) from own_low hO7 (Nat.zero_le _))
        have HL7 := Lib.hid (own_more (own_more HO5.out x6) x7)
        have HO67 := Lib.hid (own_more HO6.out x7)
        clear hO7
        have hmx : (fillN ws t base 8).length ≤ 64 := by omega
        have HF := Lib.hid (show ∃ m, (fillN ws t base 8).length = m from ⟨_, rfl⟩)
        have tok1 : True := trivial
        go_wp2_with (first
          | (have _t := tok1; at_builtin; refine wpList_append_row W2 el_Step rfl _ _ rfl (.slice a6 (l.length + l.length) c6) (l.length + l.length) _ rfl HO67.out (by repeat (first | exact Ext.refl _ | apply Ext.more | apply Ext.alloc | apply Ext.drew | apply Ext.drewN)) _ _ (fillN ws t base 8).length _ rfl HO7.out (by omega) (CS_one _) (by omega) ?_; intro v1 x8 HO8 keep; have HL8 := Lib.hid (own_aside HO67.out HL7.out (by decide) keep); clear keep tok1))
        refine (HSw.out _ ev).mono ?_
        rintro e w' ⟨⟨x9, rfl⟩, a9, c9, rfl, hO9⟩
        have HO9 := Lib.hid hO9
        have HO89 := Lib.hid (own_more HO8.out x9)
        have HL9 := Lib.hid (own_more HL8.out x9)
        clear hO9
        have tok2 : True := trivial
        go_wp2_with (have _t := tok2; at_builtin; refine wpList_append_row W2 el_Step rfl _ _ rfl v1 (l.length + l.length + (fillN ws t base 8).length) _ rfl HO89.out (by repeat (first | exact Ext.refl _ | apply Ext.more | apply Ext.alloc | apply Ext.drew | apply Ext.drewN)) _ _ 10 _ rfl HO9.out (by omega) (CS_one _) (by omega) ?_; intro v2 x10 HO10 keep; have HL10 := Lib.hid (own_aside HO89.out HL9.out (by decide) keep); clear keep tok2)
        clear HAw HFi HSw HPg' HP2 HP3 HN HH1 HH2 HE HO5 HO6 HO7 HL7 HO67 HO8 HL8 HO9 HO89 HL9 HNP HR HRd
        go_region_held3 (fun w' => w'.cell? ⟨xa, 0, none⟩ = some (.int .i64 t)) (first | (go_simp; done) | (dsimp only; go_simp))
          ((refine step_append_new W2 el_Step (by rfl) _ _ (by rfl) v2 (l.length + l.length + (fillN ws t base 8).length + 10) _ (by rfl) (by repeat (first | exact HO10.out | apply own_more | apply own_alloc | apply own_drew | apply own_drewN)) (by repeat (first | exact Ext.refl _ | apply Ext.more | apply Ext.alloc | apply Ext.drew | apply Ext.drewN)) _ _ 1 _ (by rfl) (by repeat (first | (with_reducible exact heap_alloc_new _ _) | (with_reducible apply box_more) | (with_reducible apply box_alloc) | (with_reducible apply box_drew) | (with_reducible apply box_drewN))) rfl rfl (by omega) ?_; intro v3 x11 HO11 keep; have HL11 := Lib.hid (own_aside (B1 := W2.heap.size) (T1 := 73) (s1 := 10) (n1 := l.length + l.length + (fillN ws t base 8).length + 10) (v1 := v2) (xs1 := _) (B2 := W2.heap.size) (T2 := 104) (s2 := 2) (n2 := l.length) (v2 := .slice a5 l.length c5) (xs2 := (l.map slotC).flatten) (by repeat (first | exact HO10.out | apply own_more | apply own_alloc | apply own_drew | apply own_drewN)) (by repeat (first | exact HL10.out | apply own_more | apply own_alloc | apply own_drew | apply own_drewN)) (by decide) keep); clear keep))
        all_goals
          go_wp2_with fail
          refine bodyPost_ret (results_tmp4 rfl _ _ _) rfl ?_
          exact ⟨(by repeat (first | exact HE2.out | apply Ext.more | apply Ext.alloc | apply Ext.drew | apply Ext.drewN)), mergeRet_yes HV.out (by repeat (first | exact HO11.out | apply own_more | apply own_alloc | apply own_drew | apply own_drewN)) (by repeat (first | exact HL11.out | apply own_more | apply own_alloc | apply own_drew | apply own_drewN)) (Ext.size HE2.out) (Ext.size HE2.out) (by simp only [mergeS, List.length_append, awayM_len, swapS_len]; rfl) (by rw [← HEv.out]; simp [mergeS, CS, dropS, Step.cells]) rfl rfl⟩

end Go.Proofs.Ytapeoeakiphfpaa
