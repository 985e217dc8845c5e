import Derived.Test.YtapeoeakiphfpaaBFoldkFalkLawh
import Derived.Test.YtapeoeakiphfpaaFolda
/- Plain laws behind FoldKeeps: walks behind the steps; folded and unfolded again. -/
namespace Go.Proofs.Ytapeoeakiphfpaa
open Go.RowKit
set_option linter.unusedVariables false
set_option linter.unusedSimpArgs false

theorem foundD_page {d : Desc} {T P p : Int} (h : d.fKind = 3) : (foundD d 3 T P p).fKind = 3 ∧ (foundD d 3 T P p).fOrder = (if d.fFold then 2 else 0) ∧ (foundD d 3 T P p).fFrame = d.fFrame ∧ (foundD d 3 T P p).fWrite = d.fWrite ∧ (foundD d 3 T P p).fExec = d.fExec ∧ (foundD d 3 T P p).fSeen = d.fSeen := by
  unfold foundD
  rw [if_neg (by omega), if_pos h]
  split <;> exact ⟨rfl, rfl, rfl, rfl, rfl, rfl⟩
theorem runN_all {us : List Int} {n root first : Int} {g : Nat → Found} : ∀ k : Nat, (∀ i : Nat, i < k → walkAt us n (first + (i : Int)) 4 0 root = some (g i)) → runN us n root first k = some ((List.range k).map g) := by
  intro k
  induction k with
  | zero => intro _; rfl
  | succ k ih =>
    intro h
    rw [runN_step (ih fun i hi => h i (by omega)) (h k (by omega)), List.range_succ, List.map_append]
    rfl
theorem fold_walks {ws : List Int} {n : Nat} {root asid first page T : Int} {r : List Int} {d : Nat → Desc} (h : Four ws n asid first T d) (r0 : 0 ≤ root) (r1 : root < n) (hp : first = page - page % 4) (hr : tabsAt ws n 4 0 root = some r) (hnd : r.Nodup) (hsee : Sees ws n first 4 0 root 3 T) (b : Bool) :
    AlikeF n ws (doW n ws (anewL ws (fourL first T d) asid first b)) root page b ∧ runN (doW n ws (anewL ws (fourL first T d) asid first b)) n root first 4 = some (fourL first T (turnD d b)) := by
  obtain ⟨_, _, hF, hoff⟩ := turn_behind h b
  generalize doW n ws (anewL ws (fourL first T d) asid first b) = us at *
  have f4 := h.f4
  have f0 := h.f0
  have f1 := h.f1
  have t0 := h.t0
  have t1 := h.t1
  have hword : ∀ L' T' q, 0 ≤ q → q < 4096 → Sees ws n q 4 0 root L' T' → ¬ (L' = 3 ∧ q / 4 = page / 4) → us.getD (T'.toNat * 8 + (placeN L' q).toNat) 0 = ws.getD (T'.toNat * 8 + (placeN L' q).toNat) 0 := by
    intro L' T' q q0 q1 hs hne
    refine hoff _ fun i hi he => hne ?_
    obtain ⟨_, _, u0, u1⟩ := sees_lo _ _ _ _ _ hs
    have z0 := placeN_lo L' q
    have z1 := placeN_hi L' q
    obtain rfl : T = T' := by omega
    obtain ⟨e1, e2⟩ := sees_one _ _ _ _ _ _ _ hr hnd hs hsee
    subst e1
    refine ⟨rfl, ?_⟩
    have hb := (same_block q0 q1 f0 (by omega)).1 fun m m0 m2 => e2 m m0 (by omega)
    rw [place3] at he
    omega
  have hat : ∀ i : Nat, i < 4 → walkAt ws n (first + (i : Int)) 4 0 root = some (foundD (d i) 3 T (first % 8 + (i : Int)) (first + (i : Int))) ∧ walkAt us n (first + (i : Int)) 4 0 root = some (foundD (turnD d b i) 3 T (first % 8 + (i : Int)) (first + (i : Int))) := by
    intro i hi
    have hpl := (same_block (p := first) (q := first + (i : Int)) (by omega) (by omega) (by omega) (by omega)).2 (by omega)
    have hq := sees_follow 4 0 root 3 T (q := first + (i : Int)) (fun m m0 m2 => hpl m m0 (by omega)) hsee
    have hP : placeN 3 (first + (i : Int)) = first % 8 + (i : Int) := by rw [place3]; omega
    obtain ⟨j, hj, hwk⟩ := walk_to (us := ws) _ _ _ _ _ hq (fun _ _ _ _ => rfl)
    obtain ⟨j', hj', hwk'⟩ := walk_to (us := us) _ _ _ _ _ hq (fun L' T' hlt hs' => hword L' T' _ (by omega) (by omega) hs' (fun hh => by omega))
    obtain rfl : j = 1 := by omega
    obtain rfl : j' = 1 := by omega
    have hk1 := (h.ok i hi).2
    have hk2 := (hF.ok i hi).2
    constructor
    · rw [hwk, walk_step (k := 0) (d := d i) ⟨t0, t1⟩ (by rw [hP, h.word i hi]; exact dec_enc (h.ok i hi).1), if_neg (by omega), hP]
    · rw [hwk', walk_step (k := 0) (d := turnD d b i) ⟨t0, t1⟩ (by rw [hP, hF.word i hi]; exact dec_enc (hF.ok i hi).1), if_neg (by omega), hP]
  refine ⟨?_, runN_all 4 fun i hi => (hat i hi).2⟩
  intro q q0 q1
  by_cases hq : q / 4 = page / 4
  · obtain ⟨i, hi⟩ := Int.eq_ofNat_of_zero_le (show 0 ≤ q - first by omega)
    obtain rfl : q = first + (i : Int) := by omega
    obtain ⟨h1, h2⟩ := hat i (by omega)
    refine ⟨_, _, h1, h2, fun _ => ?_, fun hh => absurd hq hh⟩
    obtain ⟨a1, a2, a3, a4, a5, a6⟩ := foundD_page (T := T) (P := first % 8 + (i : Int)) (p := first + (i : Int)) (h.ok i (by omega)).2
    obtain ⟨b1, b2, b3, b4, b5, b6⟩ := foundD_page (T := T) (P := first % 8 + (i : Int)) (p := first + (i : Int)) (hF.ok i (by omega)).2
    exact ⟨b1, b2, by rw [b3, a3]; rfl, by rw [b4, a4]; rfl, by rw [b5, a5]; rfl, by rw [b6, a6]; rfl⟩
  · obtain ⟨x, hx⟩ := tabs_walk (page := q) 3 0 root r (by omega) (by omega) hr
    refine ⟨x, x, hx, ?_, fun hh => absurd hh hq, fun _ => rfl⟩
    rw [walk_same _ _ _ (fun L' T' hs' => hword L' T' q q0 q1 hs' (fun hh => hq hh.2))]
    exact hx
theorem four_get (first T : Int) (d : Nat → Desc) (i : Nat) (hi : i < 4) : (fourL first T d)[i]? = some (foundD (d i) 3 T (first % 8 + (i : Int)) (first + (i : Int))) := by
  unfold fourL
  rw [List.getElem?_map, List.getElem?_range hi]
  rfl
theorem four_zero (first T : Int) (d : Nat → Desc) : (fourL first T d).getD 0 zeroF = foundD (d 0) 3 T (first % 8 + ((0 : Nat) : Int)) (first + ((0 : Nat) : Int)) := by
  rw [List.getD_eq_getElem?_getD, four_get first T d 0 (by omega)]
  rfl
theorem alike_flat {ws : List Int} {n : Nat} {asid first T : Int} {d : Nat → Desc} (h : Four ws n asid first T d) {o : Int} (ho : alikeB (fourL first T d) o = true) (i : Nat) (hi : i < 4) :
    (if (d i).fFold then 2 else 0) = o ∧ (d i).fFrame = (d 0).fFrame + i ∧ (d i).fWrite = (d 0).fWrite ∧ (d i).fExec = (d 0).fExec := by
  have := alikeB_at ho (four_get first T d i hi)
  rw [four_zero] at this
  obtain ⟨a1, a2, a3, a4, a5, a6⟩ := foundD_page (T := T) (P := first % 8 + (i : Int)) (p := first + (i : Int)) (h.ok i hi).2
  obtain ⟨b1, b2, b3, b4, b5, b6⟩ := foundD_page (T := T) (P := first % 8 + ((0 : Nat) : Int)) (p := first + ((0 : Nat) : Int)) (h.ok 0 (by omega)).2
  simp only [likeB, Bool.and_eq_true, beq_iff_eq, a1, a2, a3, a4, a5, b3, b4, b5] at this
  exact ⟨this.1.1.1.2, this.1.1.2, this.1.2, this.2⟩
theorem alike_turn {ws us : List Int} {n : Nat} {asid first T : Int} {d : Nat → Desc} (h : Four ws n asid first T d) (h2 : Four us n asid first T (turnD d true)) {o : Int} (ho : alikeB (fourL first T d) o = true) : alikeB (fourL first T (turnD d true)) 2 = true := by
  refine alikeB_yes fun i f hf => ?_
  have hi : i < 4 := by have := (List.getElem?_eq_some_iff.1 hf).1; simpa [fourL] using this
  rw [four_get first T _ i hi] at hf
  obtain rfl := Option.some.inj hf
  rw [four_zero]
  obtain ⟨a1, a2, a3, a4, a5, a6⟩ := foundD_page (T := T) (P := first % 8 + (i : Int)) (p := first + (i : Int)) (h2.ok i hi).2
  obtain ⟨b1, b2, b3, b4, b5, b6⟩ := foundD_page (T := T) (P := first % 8 + ((0 : Nat) : Int)) (p := first + ((0 : Nat) : Int)) (h2.ok 0 (by omega)).2
  obtain ⟨c1, c2, c3, c4⟩ := alike_flat h ho i hi
  simp only [likeB, Bool.and_eq_true, beq_iff_eq, a1, a2, a3, a4, a5, b3, b4, b5]
  exact ⟨⟨⟨⟨trivial, rfl⟩, c2⟩, c3⟩, c4⟩
theorem alike_not {l : List Found} (hl : 0 < l.length) (h : alikeB l 0 = true) : alikeB l 2 = false := by
  cases h2 : alikeB l 2 with
  | false => rfl
  | true =>
    have e := List.getElem?_eq_getElem hl
    have a := alikeB_at h e
    have b := alikeB_at h2 e
    simp only [likeB, Bool.and_eq_true, beq_iff_eq] at a b
    have := a.1.1.1.2.symm.trans b.1.1.1.2
    omega
/-- Folded and unfolded again: word for word. -/
theorem fold_back {ws : List Int} {n : Nat} {asid first T : Int} {d : Nat → Desc} (h : Four ws n asid first T d) (ho : alikeB (fourL first T d) 0 = true) {us : List Int} (hus : doW n ws (anewL ws (fourL first T d) asid first true) = us) :
    doW n us (anewL us (fourL first T (turnD d true)) asid first false) = ws := by
  obtain ⟨_, _, hF, hoff⟩ := turn_behind h true
  rw [hus] at hF hoff
  obtain ⟨_, _, hF2, hoff2⟩ := turn_behind hF false
  generalize doW n us (anewL us (fourL first T (turnD d true)) asid first false) = vs at *
  apply List.ext_getElem
  · rw [hF2.len, h.len]
  · intro j h1 h2
    have e : vs.getD j 0 = ws.getD j 0 := by
      by_cases hj : ∃ i : Nat, i < 4 ∧ T.toNat * 8 + (first % 8 + (i : Int)).toNat = j
      · obtain ⟨i, hi, rfl⟩ := hj
        rw [hF2.word i hi, h.word i hi]
        obtain ⟨c1, _⟩ := alike_flat h ho i hi
        have hb : (d i).fFold = false := by
          cases hh : (d i).fFold with
          | false => rfl
          | true => rw [hh] at c1; simp at c1
        unfold turnD
        dsimp only
        generalize d i = z at *
        obtain ⟨z0, z1, z2, z3, z4, z5, z6⟩ := z
        dsimp only at hb
        subst hb
        rfl
      · have hj' : ∀ i : Nat, i < 4 → T.toNat * 8 + (first % 8 + (i : Int)).toNat ≠ j := fun i hi he => hj ⟨i, hi, he⟩
        rw [hoff2 j hj', hoff j hj']
    rw [List.getD_eq_getElem?_getD, List.getD_eq_getElem?_getD, List.getElem?_eq_getElem h1, List.getElem?_eq_getElem h2] at e
    exact e

end Go.Proofs.Ytapeoeakiphfpaa
