import Derived.Test.YthcdecgecabgaaaMergr
import Derived.Test.YthcdecgecabgaaaBMerghFitsHugeHugfHugsHugtMovq
import Derived.Test.YthcdecgecabgaaaBPlapHugp
import Derived.Test.YthcdecgecabgaaaMovb
import Derived.Test.YthcdecgecabgaaaBLawePlanPlancPland
/- The law paviorlaw16.HugeMerges. -/
namespace Go.Proofs.Ythcdecgecabgaaa
open Go.RowKit
set_option linter.unusedVariables false
set_option linter.unusedSimpArgs false
attribute [local go_sem] setCell_drewN alloc_drewN lt_moreE le_moreE lt_moreK le_moreK cell_more frozen_more set_more drew_more drewN_more
theorem mergeR_no {ws : List Int} {asid page base : Int} {wr ex : Bool} {r : Option (List (Int × Int) × Desc)} {k : Nat} (h : mergeRes ws asid page base wr ex r = .no k) : k = 2 ∨ k = 7 := by
  unfold mergeRes at h
  split at h
  · cases h; exact .inl rfl
  · split at h
    · cases h; exact .inr rfl
    · split at h
      · cases h; exact .inr rfl
      · cases h
theorem mergeR_yes {ws : List Int} {asid page base t : Int} {wr ex : Bool} {r : Option (List (Int × Int) × Desc)} {s : List Step} {l : List (Int × Int)} (h : mergeRes ws asid page base wr ex r = .yes s t l) : 1 ≤ s.length ∧ s.length ≤ 1000 ∧ l.length ≤ 8 := by
  cases r with
  | none => cases h
  | some r =>
    obtain ⟨s', d'⟩ := r
    by_cases h4 : s'.length < 4
    · unfold mergeRes at h
      dsimp only at h
      rw [if_pos h4] at h
      cases h
    · cases hp : pagesN ws (s'.getD 3 (0, 0)).1 page 8 with
      | none => rw [mergeRes_no h4 hp] at h; cases h
      | some l' =>
        rw [mergeRes_yes h4 hp] at h
        have hl : l'.length ≤ 8 := by rw [(pagesN_pgs hp).1]; exact pgs_len
        have h2 := (fillN_len ws (s'.getD 3 (0, 0)).1 base 8).2
        cases h
        refine ⟨by simp only [mergeS, List.length_append, List.length_cons, List.length_nil]; omega, ?_, hl⟩
        simp only [mergeS, List.length_append, awayM_len, swapS_len, List.length_cons, List.length_nil]
        omega

end Go.Proofs.Ythcdecgecabgaaa

/- Plain laws behind HugeJoins: what copies and clears do; gaps that were told stay told. -/
namespace Go.Proofs.Ythcdecgecabgaaa
open Go.RowKit
set_option linter.unusedVariables false
set_option linter.unusedSimpArgs false

theorem told_keep (T : List Step) (c : GC) (h : c.told.count false = 0) : (T.foldl (fun c s => tellC s.fAsid s.fFirst c) c).told.count false = 0 := by
  obtain ⟨_, _, _, _, hl, hk⟩ := tells_same T c
  rw [List.count_eq_zero] at h ⊢
  intro hf
  obtain ⟨i, hi, he⟩ := List.getElem_of_mem hf
  refine h ?_
  have hi2 : i < c.told.length := by omega
  cases hc : c.told[i] with
  | false => exact hc ▸ List.getElem_mem hi2
  | true =>
    have := hk i (by rw [List.getD_eq_getElem?_getD, List.getElem?_eq_getElem hi2, hc]; rfl)
    rw [List.getD_eq_getElem?_getD, List.getElem?_eq_getElem hi, he] at this
    cases this
theorem safe_pass {n : Nat} : ∀ (F : List Step) (ws : List Int) (G : List GC) (rest : List Step), (∀ s ∈ F, (s.fKind = 4 ∨ s.fKind = 5) ∧ StepOk s) → Safe n (doW n ws F) G rest → Safe n ws G (F ++ rest) := by
  intro F
  induction F with
  | nil => intro ws G rest _ h; exact h
  | cons s F ih =>
    intro ws G rest hF h
    rw [List.cons_append]
    refine .pass (hF s (.head _)).1 (hF s (.head _)).2 (ih _ _ _ (fun x hx => hF x (.tail _ hx)) ?_)
    rw [doW_cons] at h
    exact h
theorem copies_do {n : Nat} {to frm : Int} (t0 : 0 ≤ to) (t1 : to < n) (f0 : 0 ≤ frm) (f1 : frm < n) (hne : frm ≠ to) : ∀ (k : Nat) (us : List Int), k ≤ 8 → us.length = n * 8 →
    ∀ j : Nat, (doW n us (copiesN to frm k)).getD j 0 = if j / 8 = to.toNat ∧ j % 8 < k then us.getD (frm.toNat * 8 + j % 8) 0 else us.getD j 0 := by
  intro k
  induction k with
  | zero => intro us _ _ j; rw [if_neg (by omega)]; rfl
  | succ k ih =>
    intro us hk hl j
    rw [copiesN_succ, doW_append, doW_cons]
    have hlen : (doW n us (copiesN to frm k)).length = n * 8 := by rw [doW_len]; exact hl
    have hst : stepW n (doW n us (copiesN to frm k)) (copyS to frm k) = (doW n us (copiesN to frm k)).set (to.toNat * 8 + k) ((doW n us (copiesN to frm k)).getD (frm.toNat * 8 + k) 0) := by
      unfold stepW copyS
      dsimp only
      rw [if_neg (by omega), if_neg (by omega), if_pos rfl, if_pos (by rw [show hasB n to (k : Int) = true from decide_eq_true ⟨t0, t1, by omega, by omega⟩, show hasB n frm (k : Int) = true from decide_eq_true ⟨f0, f1, by omega, by omega⟩]; rfl), Int.toNat_natCast]
    rw [hst]
    show (((doW n us (copiesN to frm k)).set (to.toNat * 8 + k) ((doW n us (copiesN to frm k)).getD (frm.toNat * 8 + k) 0))).getD j 0 = _
    rw [getD_setI, ih us (by omega) hl, ih us (by omega) hl]
    by_cases h : to.toNat * 8 + k = j
    · rw [if_pos ⟨h, by omega⟩, if_neg (by omega), if_pos (by omega), show j % 8 = k by omega]
    · rw [if_neg (fun hh => h hh.1)]
      by_cases h2 : j / 8 = to.toNat ∧ j % 8 < k
      · rw [if_pos h2, if_pos (by omega)]
      · rw [if_neg h2, if_neg (by omega)]
/-- Frames that the block's frames are filled from. -/
structure FillOk (n : Nat) (ws : List Int) (t base : Int) : Prop where
  b0 : 0 ≤ base
  b1 : base + 7 < n
  fr : ∀ i : Nat, i < 8 → (wordD ws t i).fKind = 3 → 0 ≤ (wordD ws t i).fFrame ∧ (wordD ws t i).fFrame < n ∧ ∀ j : Nat, j < 8 → (wordD ws t i).fFrame ≠ base + (j : Int)
theorem fill_do {n : Nat} {ws : List Int} {t base : Int} (h : FillOk n ws t base) : ∀ (k : Nat) (us : List Int), k ≤ 8 → us.length = n * 8 →
    (∀ i m : Nat, i < k → m < 8 → (doW n us (fillN ws t base k)).getD ((base + (i : Int)).toNat * 8 + m) 0 = if (wordD ws t i).fKind = 3 then us.getD ((wordD ws t i).fFrame.toNat * 8 + m) 0 else 0) ∧
    ∀ j : Nat, (∀ i : Nat, i < k → j / 8 ≠ (base + (i : Int)).toNat) → (doW n us (fillN ws t base k)).getD j 0 = us.getD j 0 := by
  have hb0 := h.b0
  have hb1 := h.b1
  intro k
  induction k with
  | zero => intro us _ _; exact ⟨fun i m hi => by omega, fun j _ => rfl⟩
  | succ k ih =>
    intro us hk hl
    obtain ⟨i1, i2⟩ := ih us (by omega) hl
    have hlen : (doW n us (fillN ws t base k)).length = n * 8 := by rw [doW_len]; exact hl
    have hfi : fillN ws t base (k + 1) = fillN ws t base k ++ fillOne ws t base k := rfl
    rw [hfi, doW_append]
    generalize doW n us (fillN ws t base k) = vs at *
    have hone : (∀ m : Nat, m < 8 → (doW n vs (fillOne ws t base k)).getD ((base + (k : Int)).toNat * 8 + m) 0 = if (wordD ws t k).fKind = 3 then us.getD ((wordD ws t k).fFrame.toNat * 8 + m) 0 else 0) ∧ ∀ j : Nat, j / 8 ≠ (base + (k : Int)).toNat → (doW n vs (fillOne ws t base k)).getD j 0 = vs.getD j 0 := by
      unfold fillOne
      by_cases hk3 : (wordD ws t k).fKind = 3
      · rw [if_pos hk3]
        obtain ⟨f0, f1, f2⟩ := h.fr k (by omega) hk3
        have hc := copies_do (n := n) (to := base + (k : Int)) (frm := (wordD ws t k).fFrame) (by omega) (by omega) f0 f1 (f2 k (by omega)) 8 vs (by omega) hlen
        constructor
        · intro m hm
          rw [hc, if_pos (by omega), if_pos hk3, show ((base + (k : Int)).toNat * 8 + m) % 8 = m by omega]
          refine i2 _ fun i hi => ?_
          have := f2 i (by omega)
          omega
        · intro j hj
          rw [hc, if_neg (fun hh => hj hh.1)]
      · rw [if_neg hk3]
        have hcl : doW n vs [clearS (base + (k : Int))] = clearW vs (base + (k : Int)).toNat := by
          rw [doW_cons]
          show doW n _ [] = _
          rw [stepW_clear ⟨by omega, by omega⟩]
          rfl
        rw [hcl]
        constructor
        · intro m hm
          rw [clearW_at _ _ _ hm (by omega), if_neg hk3]
        · intro j hj
          exact clearW_off _ _ _ (by omega)
    obtain ⟨o1, o2⟩ := hone
    constructor
    · intro i m hi hm
      by_cases hik : i = k
      · subst hik
        exact o1 m hm
      · rw [o2 _ (by omega)]
        exact i1 i m (by omega) hm
    · intro j hj
      rw [o2 _ (hj k (by omega))]
      exact i2 j fun i hi => hj i (by omega)
theorem fill_kinds {ws : List Int} {t base : Int} : ∀ (k : Nat), ∀ s ∈ fillN ws t base k, (s.fKind = 4 ∨ s.fKind = 5) ∧ StepOk s := by
  intro k
  induction k with
  | zero => intro s hs; cases hs
  | succ k ih =>
    intro s hs
    rcases List.mem_append.1 (show s ∈ fillN ws t base k ++ fillOne ws t base k from hs) with hs | hs
    · exact ih s hs
    · unfold fillOne at hs
      split at hs
      · obtain ⟨i, _, rfl⟩ := List.mem_map.1 hs
        exact ⟨.inr rfl, show (0 : Int) ≤ 0 by omega, show (0 : Int) < 18446744073709551616 by omega⟩
      · rw [List.mem_singleton.1 hs]
        exact ⟨.inl rfl, show (0 : Int) ≤ 0 by omega, show (0 : Int) < 18446744073709551616 by omega⟩

end Go.Proofs.Ythcdecgecabgaaa

/- Plain laws behind MoveKeeps: no watch is broken by Move's steps; what they leave. -/
namespace Go.Proofs.Ythcdecgecabgaaa
open Go.RowKit
set_option linter.unusedVariables false
set_option linter.unusedSimpArgs false

theorem encW_even {d : Desc} (hk : d.fKind = 4) : encW d % 2 = 0 := by
  unfold encW
  rw [if_neg (by omega), if_neg (by omega), if_neg (show ¬ d.fKind = 3 by omega), if_neg (show ¬ d.fKind = 2 by omega)]
  split <;> split <;> split <;> split <;> omega
theorem doW_tellP {n : Nat} : ∀ (T : List Step) (vs : List Int), (∀ x ∈ T, x.fKind = 2) → doW n vs T = vs := by
  intro T
  induction T with
  | nil => intro vs _; rfl
  | cons x T ih => intro vs h; rw [doW_cons, stepW_none (by rw [h x (.head _)]; omega) (by rw [h x (.head _)]; omega) (by rw [h x (.head _)]; omega)]; exact ih vs fun y hy => h y (.tail _ hy)
section
variable {ws : List Int} {n : Nat} {roots pages : List (Int × Int)} {frm to : Int} {ts : List (List Int)} {out : List Place}
theorem place_in (hT : MoveTabs ws n roots frm to ts) (hM : MovesAt ws n roots pages frm to out) {p : Place} (hp : p ∈ out) : (∃ t ∈ ts, p.tb ∈ t) ∧ 0 ≤ p.tb ∧ p.tb < n ∧ 0 ≤ p.pl ∧ p.pl < 8 ∧ p.tb ≠ frm ∧ p.tb ≠ to := by
  obtain ⟨_, x, _, _, hok⟩ := places_of hM hp
  obtain ⟨q, t, f, hS, _⟩ := slot_ok hT hok
  have hm := List.mem_of_getElem? hS.qt
  obtain ⟨h1, h2⟩ := hT.flat.2.2.1 t hm
  exact ⟨⟨t, hm, hS.mem⟩, hS.t0, hS.t1, hS.q0, hS.q1, fun e => h1 (by rw [← e]; exact hS.mem), fun e => h2 (by rw [← e]; exact hS.mem)⟩
/-- What Move's steps leave. -/
theorem move_leaves (hT : MoveTabs ws n roots frm to ts) (hM : MovesAt ws n roots pages frm to out) (hn : n ≤ 512) (hl : ws.length = n * 8) :
    (∀ x ∈ moveL to frm out, StepOk x) ∧ Safe n ws [] (moveL to frm out) ∧ (∀ p ∈ out, (doW n ws (moveL to frm out)).getD (p.tb.toNat * 8 + p.pl.toNat) 0 = encW (movedD p.says to)) ∧ (∀ i : Nat, i < 8 → (doW n ws (moveL to frm out)).getD (to.toNat * 8 + i) 0 = ws.getD (frm.toNat * 8 + i) 0) ∧ (∀ j, j / 8 ≠ to.toNat → (∀ p ∈ out, p.tb.toNat * 8 + p.pl.toNat ≠ j) → (doW n ws (moveL to frm out)).getD j 0 = ws.getD j 0) := by
  have f0 := hM.f0
  have f1 := hM.f1
  have t0 := hM.t0
  have t1 := hM.t1
  have hne := hM.ne
  have hh : ∀ p ∈ out, WrOk n (wrP p (encW (heldD p.says))) := fun p hp => by
    obtain ⟨_, x, _, _, hok⟩ := places_of hM hp
    have := encW_range (move_says hM hn hp).2.2.2.2.1
    exact wrP_ok hT hn hok this.1 this.2
  have hd : ∀ p ∈ out, WrOk n (wrP p (encW (movedD p.says to))) := fun p hp => by
    obtain ⟨_, x, _, _, hok⟩ := places_of hM hp
    have := encW_range (move_says hM hn hp).2.2.2.2.2.1
    exact wrP_ok hT hn hok this.1 this.2
  have hk : ∀ s ∈ out.map (fun p => wrP p (0 : Int)), s.fKind = 1 := by intro s hs; obtain ⟨p, _, rfl⟩ := List.mem_map.1 hs; rfl
  obtain ⟨u1, hu1⟩ : ∃ u1, doW n ws (heldL out) = u1 := ⟨_, rfl⟩
  have l1 : u1.length = n * 8 := by rw [← hu1, doW_len]; exact hl
  obtain ⟨a1, a2⟩ := wrs_do (us := ws) hk hM.apart (fun p => encW (heldD p.says)) hh hl
  have a1' : ∀ p ∈ out, u1.getD (p.tb.toNat * 8 + p.pl.toNat) 0 = encW (heldD p.says) := by rw [← hu1]; exact a1
  have a2' : ∀ j, (∀ p ∈ out, p.tb.toNat * 8 + p.pl.toNat ≠ j) → u1.getD j 0 = ws.getD j 0 := by rw [← hu1]; exact a2
  obtain ⟨u2, hu2⟩ : ∃ u2, doW n u1 (copiesN to frm 8) = u2 := ⟨_, rfl⟩
  have l2 : u2.length = n * 8 := by rw [← hu2, doW_len]; exact l1
  have hc := copies_do (n := n) (to := to) (frm := frm) t0 t1 f0 f1 hne 8 u1 (by omega) l1
  rw [hu2] at hc
  obtain ⟨b1, b2⟩ := wrs_do (us := u2) hk hM.apart (fun p => encW (movedD p.says to)) hd l2
  have hw : doW n ws (moveL to frm out) = doW n u2 (doneL to out) := by
    unfold moveL
    have e1 := doW_tellP (n := n) (toldP out) u1 told_kinds
    rw [doW_append, hu1, doW_append, e1, doW_append, hu2]
  have hfrm : ∀ (f : Int), (∀ p ∈ out, p.tb ≠ f) → 0 ≤ f → ∀ i : Nat, i < 8 → ∀ p ∈ out, p.tb.toNat * 8 + p.pl.toNat ≠ f.toNat * 8 + i := by
    intro f hf h0 i hi p hp
    obtain ⟨_, q0, q1, q2, q3, _⟩ := place_in hT hM hp
    have := hf p hp
    omega
  refine ⟨fun x hx => ?_, ?_, fun p hp => ?_, fun i hi => ?_, fun j hj hno => ?_⟩
  · unfold moveL at hx
    simp only [List.mem_append] at hx
    rcases hx with hx | hx | hx | hx
    · obtain ⟨p, hp, rfl⟩ := List.mem_map.1 hx
      exact (hh p hp).ok
    · obtain ⟨p, hp, rfl⟩ := List.mem_map.1 hx
      exact ⟨show (0 : Int) ≤ 0 by omega, show (0 : Int) < 18446744073709551616 by omega⟩
    · obtain ⟨p, hp, rfl⟩ := List.mem_map.1 hx
      exact ⟨show (0 : Int) ≤ 0 by omega, show (0 : Int) < 18446744073709551616 by omega⟩
    · obtain ⟨p, hp, rfl⟩ := List.mem_map.1 hx
      exact (hd p hp).ok
  · unfold moveL
    refine safe_closes (heldL out) ws [] _ (fun s hs => ?_) (wrs_apart hM.apart fun p => encW (heldD p.says)) ?_
    · obtain ⟨p, hp, rfl⟩ := List.mem_map.1 hs
      refine ⟨hh p hp, encW_even (d := heldD p.says) rfl, ?_, fun g hg => by cases hg⟩
      show ws.getD (p.tb.toNat * 8 + p.pl.toNat) 0 % 2 = 1
      obtain ⟨_, s2, _, _, _, _, s7⟩ := move_says hM hn hp
      rw [← s7]
      exact encW_odd (.inr (.inr s2))
    · rw [hu1, List.nil_append]
      refine safe_tells (toldP out) _ _ (fun s hs => ?_) ?_
      · obtain ⟨p, hp, rfl⟩ := List.mem_map.1 hs
        obtain ⟨_, x, _, _, hok⟩ := places_of hM hp
        have h1 := hok.page
        have h2 := hok.p0
        have h3 := hok.p1
        exact ⟨rfl, by show 0 ≤ p.page; omega, by show p.page < 4096; omega⟩
      · have hG : ∀ g ∈ ((heldL out).map gapS).map (fun c : GC => (toldP out).foldl (fun (c : GC) (s : Step) => tellC s.fAsid s.fFirst c) c), g.told.count false = 0 := by
          intro g hg
          obtain ⟨c, hc, rfl⟩ := List.mem_map.1 hg
          obtain ⟨x, hx, rfl⟩ := List.mem_map.1 hc
          obtain ⟨p, hp, rfl⟩ := List.mem_map.1 hx
          refine tells_all fun i hi => ?_
          have hi : i < (List.replicate (spanL 3).toNat false).length := hi
          have : (spanL 3).toNat = 1 := by decide
          rw [List.length_replicate, this] at hi
          obtain rfl : i = 0 := by omega
          exact ⟨tellS p.asid p.page, List.mem_map.2 ⟨p, hp, rfl⟩, rfl, by show p.page = p.page + ((0 : Nat) : Int); omega⟩
        generalize ((heldL out).map gapS).map (fun c : GC => (toldP out).foldl (fun (c : GC) (s : Step) => tellC s.fAsid s.fFirst c) c) = G at *
        refine safe_pass (copiesN to frm 8) _ _ _ (fun s hs => ?_) ?_
        · obtain ⟨p, _, rfl⟩ := List.mem_map.1 hs
          exact ⟨.inr rfl, show (0 : Int) ≤ 0 by omega, show (0 : Int) < 18446744073709551616 by omega⟩
        · rw [hu2]
          have := safe_opens (n := n) (doneL to out) u2 G [] (fun s hs => ?_) (wrs_apart hM.apart fun p => encW (movedD p.says to)) hG (fun G' _ => .nil _ _)
          · rwa [List.append_nil] at this
          · obtain ⟨p, hp, rfl⟩ := List.mem_map.1 hs
            obtain ⟨_, s2, _, _, _, _, _⟩ := move_says hM hn hp
            refine ⟨hd p hp, encW_odd (d := movedD p.says to) (.inr (.inr s2)), ?_⟩
            show u2.getD (p.tb.toNat * 8 + p.pl.toNat) 0 % 2 = 0
            obtain ⟨_, q0, q1, q2, q3, _, q5⟩ := place_in hT hM hp
            rw [hc, if_neg (by omega), a1' p hp]
            exact encW_even (d := heldD p.says) rfl
  · rw [hw]
    exact b1 p hp
  · rw [hw]
    rw [show (doW n u2 (doneL to out)).getD (to.toNat * 8 + i) 0 = u2.getD (to.toNat * 8 + i) 0 from b2 _ (hfrm to (fun p hp => (place_in hT hM hp).2.2.2.2.2.2) t0 i hi)]
    rw [hc, if_pos (by omega), show (to.toNat * 8 + i) % 8 = i by omega]
    exact a2' _ (hfrm frm (fun p hp => (place_in hT hM hp).2.2.2.2.2.1) f0 i hi)
  · rw [hw]
    rw [show (doW n u2 (doneL to out)).getD j 0 = u2.getD j 0 from b2 j hno]
    rw [hc, if_neg (by omega)]
    exact a2' j hno
/-- Is a page of a root's space among those that are moved? -/
def hasW (pages : List (Int × Int)) (a q : Int) : Bool := pages.any fun x => x.1 == a && x.2 == q
theorem move_walks (hT : MoveTabs ws n roots frm to ts) (hM : MovesAt ws n roots pages frm to out) (hn : n ≤ 512) (hl : ws.length = n * 8) (ha : ∀ i j : Nat, i < j → j < roots.length → (roots.getD i (0, 0)).1 ≠ (roots.getD j (0, 0)).1) {i : Nat} (hi : i < roots.length) (q : Int) (q0 : 0 ≤ q) (q1 : q < 4096) :
    ∃ x, walkAt ws n q 4 0 (roots.getD i (0, 0)).2 = some x ∧ walkAt (doW n ws (moveL to frm out)) n q 4 0 (roots.getD i (0, 0)).2 = some (if hasW pages (roots.getD i (0, 0)).1 q = true then { x with fFrame := to, fBase := to } else x) := by
  obtain ⟨_, _, w1, w2, w3⟩ := move_leaves hT hM hn hl
  obtain ⟨t, ht, hat, hnd, hm⟩ := hT.get hi
  have t0 := hM.t0
  have hoff : OffP ws (doW n ws (moveL to frm out)) ts out := by
    rintro T P ⟨t, ht, hTt⟩ h1 h2 h3 hno
    refine w3 _ ?_ fun p hp => places_idx hT hM hp h1 h2 h3 (hno p hp)
    intro e
    have := (hT.flat.2.2.1 t ht).2
    have e2 : T = to := by omega
    rw [e2] at hTt
    exact this hTt
  obtain ⟨x, hx⟩ := tabs_walk (page := q) 3 0 _ t (by omega) (by omega) hat
  refine ⟨x, hx, ?_⟩
  have hiff : hasW pages (roots.getD i (0, 0)).1 q = true ↔ ∃ p ∈ out, p.tb = x.fTable ∧ p.pl = x.fPlace := by
    unfold hasW
    rw [List.any_eq_true]
    constructor
    · rintro ⟨y, hy, he⟩
      simp only [Bool.and_eq_true, beq_iff_eq] at he
      obtain ⟨k, hk, rfl⟩ := List.getElem_of_mem hy
      have hk2 : k < out.length := by rw [hM.len]; exact hk
      have hok := hM.ok k _ _ (List.getElem?_eq_getElem hk) (List.getElem?_eq_getElem hk2)
      obtain ⟨j, t', f, hS, _⟩ := slot_ok hT hok
      have hji : j = i := by
        rcases Nat.lt_trichotomy j i with hlt | he2 | hgt
        · exact absurd (hS.asid.trans he.1) (ha j i hlt hi)
        · exact he2
        · exact absurd (he.1.symm.trans hS.asid.symm) (ha i j hgt hS.qi)
      subst hji
      have hwk := hS.wk
      rw [he.2, hx] at hwk
      obtain rfl := Option.some.inj hwk
      exact ⟨_, List.getElem_mem hk2, hS.tb, hS.pl⟩
    · rintro ⟨p, hp, e1, e2⟩
      obtain ⟨k, y, hy, hpk, hok⟩ := places_of hM hp
      obtain ⟨j, t', f, hS, _⟩ := slot_ok hT hok
      have hsee := walk_sees _ _ _ _ hx
      have hin := sees_in _ _ _ _ _ _ hat hsee
      have hmem := hS.mem
      rw [e1] at hmem
      obtain rfl := hT.flat.2.1 _ _ _ _ _ ht hS.qt hin hmem
      obtain ⟨_, hkk, hor⟩ := leaf_same hat hnd q0 q1 hS.leaf hx (by rw [← e1]; exact hS.tb) (by rw [← e2]; exact hS.pl)
      refine ⟨y, List.mem_of_getElem? hy, ?_⟩
      have hq : q = y.2 := by
        have hkd := hS.kd
        rcases hor with ⟨_, h⟩ | ⟨h, _⟩
        · rw [h, hS.own]
        · omega
      rw [hS.asid, hq]
      simp
  by_cases hh : hasW pages (roots.getD i (0, 0)).1 q = true
  · rw [if_pos hh]
    obtain ⟨p, hp, e1, e2⟩ := hiff.1 hh
    obtain ⟨s1, s2, s3, s4, s5, s6, s7⟩ := move_says hM hn hp
    obtain ⟨hw, hlv⟩ := move_at hT hM hoff hi hx hp e1 e2 (d := movedD p.says to) (by rw [w1 p hp]; exact dec_enc s6) (by show p.says.fKind ≠ 1; omega)
    rw [hw, foundD_moved s2 s3]
    obtain ⟨_, _, _, _, _, _, hf⟩ := walkAt_word 4 0 _ x (by omega) (by omega) hx
    obtain ⟨_, y, _, _, hok⟩ := places_of hM hp
    have hsx : foundD p.says 3 p.tb p.pl q = x := by
      conv => rhs; rw [hf]
      rw [hlv, ← e1, ← e2, ← hok.says]
    rw [hsx]
  · rw [if_neg hh]
    exact move_else hT hM hoff hi hx fun p hp hc => hh (hiff.2 ⟨p, hp, hc⟩)
end

end Go.Proofs.Ythcdecgecabgaaa

/- The contract of plan.with: a leaf's word with other rights. -/
namespace Go.Proofs.Ythcdecgecabgaaa
open Go.RowKit
set_option linter.unusedVariables false
set_option linter.unusedSimpArgs false
attribute [local go_sem] setCell_drewN alloc_drewN lt_moreE le_moreE lt_moreK le_moreK cell_more frozen_more set_more drew_more drewN_more

def wxD (d : Desc) (wr ex : Bool) : Desc := { d with fWrite := wr, fExec := ex }
end Go.Proofs.Ythcdecgecabgaaa
