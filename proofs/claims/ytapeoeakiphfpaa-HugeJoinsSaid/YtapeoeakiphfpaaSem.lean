import Derived.Test.YtapeoeakiphfpaaTabs
/- Plain laws: which tables a walk comes by; where all tables are unlike, each lies at one place of the tree; what a change of words changes of walks. -/
namespace Go.Proofs.Ytapeoeakiphfpaa
open Go.RowKit
set_option linter.unusedVariables false
set_option linter.unusedSimpArgs false

/-- What a table's word for a page says. -/
abbrev sayD (ws : List Int) (lv tb page : Int) : Desc := decD lv (ws.getD (tb.toNat * 8 + (placeN lv page).toNat) 0)
/-- A walk comes by a table at a level. -/
def Sees (ws : List Int) (n page : Int) : Nat → Int → Int → Int → Int → Prop
  | 0, _, _, _, _ => False
  | k + 1, lv, tb, L, T => (0 ≤ tb ∧ tb < n) ∧ ((L = lv ∧ T = tb) ∨ ((sayD ws lv tb page).fKind = 1 ∧ Sees ws n page k (lv + 1) (sayD ws lv tb page).fFrame L T))
section
variable {ws us : List Int} {n p q : Int}
theorem sees_succ {k : Nat} {lv tb L T : Int} : Sees ws n p (k + 1) lv tb L T ↔ (0 ≤ tb ∧ tb < n) ∧ ((L = lv ∧ T = tb) ∨ ((sayD ws lv tb p).fKind = 1 ∧ Sees ws n p k (lv + 1) (sayD ws lv tb p).fFrame L T)) := Iff.rfl
theorem sees_lo : ∀ (k : Nat) (lv tb L T : Int), Sees ws n p k lv tb L T → lv ≤ L ∧ L < lv + k ∧ 0 ≤ T ∧ T < n := by
  intro k
  induction k with
  | zero => intro lv tb L T h; cases h
  | succ k ih =>
    intro lv tb L T h
    obtain ⟨h0, h | ⟨_, h⟩⟩ := sees_succ.1 h
    · obtain ⟨rfl, rfl⟩ := h; omega
    · have := ih _ _ _ _ h; omega
/-- All tables, table by table. -/
theorem tabs_parts {k : Nat} {lv t : Int} {r : List Int} (h : tabsAt ws n (k + 1) lv t = some r) : (0 ≤ t ∧ t < n) ∧ ∃ f : Nat → List Int, r = t :: (List.range 8).flatMap f ∧ ∀ i, i < 8 → (decD lv (ws.getD (t.toNat * 8 + i) 0)).fKind = 1 → tabsAt ws n k (lv + 1) (decD lv (ws.getD (t.toNat * 8 + i) 0)).fFrame = some (f i) := by
  by_cases ht : 0 ≤ t ∧ t < n
  · refine ⟨ht, ?_⟩
    rw [tabsAt_in ht] at h
    let f : Nat → List Int := fun i => if (decD lv (ws.getD (t.toNat * 8 + i) 0)).fKind = 1 then (tabsAt ws n k (lv + 1) (decD lv (ws.getD (t.toNat * 8 + i) 0)).fFrame).getD [] else []
    have key : ∀ (j i : Nat), i + j = 8 → ∀ (l r : List Int), tabsFrom ws n k lv t i l = some r → r = l ++ ((List.range 8).drop i).flatMap f ∧ ∀ a, i ≤ a → a < 8 → (decD lv (ws.getD (t.toNat * 8 + a) 0)).fKind = 1 → tabsAt ws n k (lv + 1) (decD lv (ws.getD (t.toNat * 8 + a) 0)).fFrame = some (f a) := by
      intro j
      induction j with
      | zero =>
        intro i hi l r hr
        obtain rfl : i = 8 := by omega
        rw [tabsFrom_end] at hr
        cases hr
        exact ⟨by rw [List.drop_of_length_le (by simp)]; simp, fun a ha hb => by omega⟩
      | succ j ihj =>
        intro i hi l r hr
        have hd : (List.range 8).drop i = i :: (List.range 8).drop (i + 1) := by rw [List.drop_eq_getElem_cons (by simp; omega), List.getElem_range]
        by_cases hk : (decD lv (ws.getD (t.toNat * 8 + i) 0)).fKind = 1
        · cases hm : tabsAt ws n k (lv + 1) (decD lv (ws.getD (t.toNat * 8 + i) 0)).fFrame with
          | none => rw [tabsFrom_no (by omega) rfl hk hm] at hr; cases hr
          | some m =>
            rw [tabsFrom_go (by omega) rfl hk hm] at hr
            obtain ⟨h1, h2⟩ := ihj (i + 1) (by omega) _ _ hr
            have hf : f i = m := by show (if _ then _ else _) = _; rw [if_pos hk, hm]; rfl
            refine ⟨by rw [h1, hd, List.flatMap_cons, hf, List.append_assoc], fun a ha hb hka => ?_⟩
            by_cases e : a = i
            · subst e; rw [hf]; exact hm
            · exact h2 a (by omega) hb hka
        · rw [tabsFrom_skip (by omega) rfl hk] at hr
          obtain ⟨h1, h2⟩ := ihj (i + 1) (by omega) _ _ hr
          have hf : f i = [] := by show (if _ then _ else _) = _; rw [if_neg hk]
          refine ⟨by rw [h1, hd, List.flatMap_cons, hf]; rfl, fun a ha hb hka => ?_⟩
          by_cases e : a = i
          · subst e; exact absurd hka hk
          · exact h2 a (by omega) hb hka
    obtain ⟨h1, h2⟩ := key 8 0 rfl [t] r h
    exact ⟨f, by rw [h1]; rfl, fun i hi hk => h2 i (by omega) hi hk⟩
  · rw [tabsAt_out ht] at h; cases h
theorem placeN_nat (lv page : Int) : (placeN lv page).toNat < 8 := by have := placeN_lo lv page; have := placeN_hi lv page; omega
/-- A table that a walk comes by is one of all. -/
theorem sees_in : ∀ (k : Nat) (lv tb L T : Int) (r : List Int), tabsAt ws n k lv tb = some r → Sees ws n p k lv tb L T → T ∈ r := by
  intro k
  induction k with
  | zero => intro lv tb L T r _ h; cases h
  | succ k ih =>
    intro lv tb L T r hr h
    obtain ⟨_, f, rfl, hf⟩ := tabs_parts hr
    obtain ⟨_, h | ⟨hk, h⟩⟩ := sees_succ.1 h
    · rw [h.2]; exact .head _
    · refine .tail _ (List.mem_flatMap.2 ⟨(placeN lv p).toNat, by simpa using placeN_nat lv p, ?_⟩)
      exact ih _ _ _ _ _ (hf _ (placeN_nat lv p) hk) h
theorem flat_apart {f : Nat → List Int} {t : Int} (h : (t :: (List.range 8).flatMap f).Nodup) : (∀ i, i < 8 → t ∉ f i) ∧ (∀ i, i < 8 → (f i).Nodup) ∧ ∀ i j x, i < 8 → j < 8 → x ∈ f i → x ∈ f j → i = j := by
  obtain ⟨h1, h2⟩ := List.nodup_cons.1 h
  have h3 := List.pairwise_flatMap.1 h2
  refine ⟨fun i hi hm => h1 (List.mem_flatMap.2 ⟨i, by simpa using hi, hm⟩), fun i hi => h3.1 i (by simpa using hi), fun i j x hi hj hxi hxj => ?_⟩
  by_cases e : i = j
  · exact e
  · exfalso
    have key : ∀ a b, a < b → b < 8 → x ∈ f a → x ∈ f b → False := by
      intro a b hab hb ha hbx
      have hp := List.pairwise_iff_getElem.1 h3.2 a b (by simp; omega) (by simpa using hb) hab
      rw [List.getElem_range, List.getElem_range] at hp
      exact hp x ha x hbx rfl
    rcases Nat.lt_or_gt_of_ne e with hlt | hgt
    · exact key i j hlt hj hxi hxj
    · exact key j i hgt hi hxj hxi
/-- Where all tables are unlike, walks that come by one table come by it at one level, and went the same way. -/
theorem sees_one : ∀ (k : Nat) (lv tb L L' T : Int) (r : List Int), tabsAt ws n k lv tb = some r → r.Nodup → Sees ws n p k lv tb L T → Sees ws n q k lv tb L' T → L = L' ∧ ∀ m, lv ≤ m → m < L → placeN m p = placeN m q := by
  intro k
  induction k with
  | zero => intro lv tb L L' T r _ _ h; cases h
  | succ k ih =>
    intro lv tb L L' T r hr hn hp hq
    obtain ⟨_, f, rfl, hf⟩ := tabs_parts hr
    obtain ⟨h1, h2, h3⟩ := flat_apart hn
    obtain ⟨_, hp | ⟨hkp, hp⟩⟩ := sees_succ.1 hp
    · obtain ⟨_, hq | ⟨hkq, hq⟩⟩ := sees_succ.1 hq
      · exact ⟨by omega, fun m a b => by omega⟩
      · have := sees_in _ _ _ _ _ _ (hf _ (placeN_nat lv q) hkq) hq
        rw [hp.2] at this
        exact absurd this (h1 _ (placeN_nat lv q))
    · obtain ⟨_, hq | ⟨hkq, hq⟩⟩ := sees_succ.1 hq
      · have := sees_in _ _ _ _ _ _ (hf _ (placeN_nat lv p) hkp) hp
        rw [hq.2] at this
        exact absurd this (h1 _ (placeN_nat lv p))
      · have mp := sees_in _ _ _ _ _ _ (hf _ (placeN_nat lv p) hkp) hp
        have mq := sees_in _ _ _ _ _ _ (hf _ (placeN_nat lv q) hkq) hq
        have e := h3 _ _ T (placeN_nat lv p) (placeN_nat lv q) mp mq
        have e2 : placeN lv p = placeN lv q := by have := placeN_lo lv p; have := placeN_lo lv q; omega
        unfold sayD at hp hq hkp hkq
        rw [← e2] at hq
        obtain ⟨h4, h5⟩ := ih _ _ _ _ _ _ (hf _ (placeN_nat lv p) hkp) (h2 _ (placeN_nat lv p)) hp hq
        refine ⟨h4, fun m a b => ?_⟩
        by_cases em : m = lv
        · rw [em]; exact e2
        · exact h5 m (by omega) b
/-- A walk hangs on the words of the tables that it comes by. -/
theorem walk_same : ∀ (k : Nat) (lv tb : Int), (∀ L T, Sees ws n q k lv tb L T → us.getD (T.toNat * 8 + (placeN L q).toNat) 0 = ws.getD (T.toNat * 8 + (placeN L q).toNat) 0) → walkAt us n q k lv tb = walkAt ws n q k lv tb := by
  intro k
  induction k with
  | zero => intro lv tb _; rfl
  | succ k ih =>
    intro lv tb h
    conv => lhs; unfold walkAt
    conv => rhs; unfold walkAt
    by_cases ht : 0 ≤ tb ∧ tb < n
    · have e := h lv tb (sees_succ.2 ⟨ht, .inl ⟨rfl, rfl⟩⟩)
      rw [if_pos ht, if_pos ht, e]
      by_cases hk : (decD lv (ws.getD (tb.toNat * 8 + (placeN lv q).toNat) 0)).fKind = 1
      · rw [if_pos hk, if_pos hk]
        exact ih _ _ fun L T hs => h L T (sees_succ.2 ⟨ht, .inr ⟨hk, hs⟩⟩)
      · rw [if_neg hk, if_neg hk]
    · rw [if_neg ht, if_neg ht]
/-- The same of the tables that it comes by. -/
theorem sees_same : ∀ (k : Nat) (lv tb : Int), (∀ L T, Sees ws n q k lv tb L T → us.getD (T.toNat * 8 + (placeN L q).toNat) 0 = ws.getD (T.toNat * 8 + (placeN L q).toNat) 0) → ∀ L T, Sees us n q k lv tb L T ↔ Sees ws n q k lv tb L T := by
  intro k
  induction k with
  | zero => intro lv tb _ L T; exact Iff.rfl
  | succ k ih =>
    intro lv tb h L T
    rw [sees_succ, sees_succ]
    by_cases ht : 0 ≤ tb ∧ tb < n
    · have e := h lv tb (sees_succ.2 ⟨ht, .inl ⟨rfl, rfl⟩⟩)
      unfold sayD
      rw [e]
      by_cases hk : (decD lv (ws.getD (tb.toNat * 8 + (placeN lv q).toNat) 0)).fKind = 1
      · rw [ih _ _ (fun L T hs => h L T (sees_succ.2 ⟨ht, .inr ⟨hk, hs⟩⟩))]
      · exact ⟨fun h => ⟨h.1, h.2.elim .inl fun h => absurd h.1 hk⟩, fun h => ⟨h.1, h.2.elim .inl fun h => absurd h.1 hk⟩⟩
    · exact ⟨fun h => absurd h.1 ht, fun h => absurd h.1 ht⟩
/-- A walk goes on from each table that it comes by, as long as the words before it are as they were. -/
theorem walk_to : ∀ (k : Nat) (lv tb L T : Int), Sees ws n q k lv tb L T → (∀ L' T', L' < L → Sees ws n q k lv tb L' T' → us.getD (T'.toNat * 8 + (placeN L' q).toNat) 0 = ws.getD (T'.toNat * 8 + (placeN L' q).toNat) 0) → ∃ j : Nat, (j : Int) = lv + k - L ∧ walkAt us n q k lv tb = walkAt us n q j L T := by
  intro k
  induction k with
  | zero => intro lv tb L T h; cases h
  | succ k ih =>
    intro lv tb L T h hs
    obtain ⟨ht, h | ⟨hk, h⟩⟩ := sees_succ.1 h
    · obtain ⟨rfl, rfl⟩ := h
      exact ⟨k + 1, by omega, rfl⟩
    · have hl := sees_lo _ _ _ _ _ h
      have e := hs lv tb (by omega) (sees_succ.2 ⟨ht, .inl ⟨rfl, rfl⟩⟩)
      obtain ⟨j, hj, hw⟩ := ih _ _ _ _ h fun L' T' hlt hs' => hs L' T' hlt (sees_succ.2 ⟨ht, .inr ⟨hk, hs'⟩⟩)
      refine ⟨j, by omega, ?_⟩
      conv => lhs; unfold walkAt
      unfold sayD at hk hw
      rw [if_pos ht, e, if_pos hk]
      exact hw
/-- One step of a walk. -/
theorem walk_step {k : Nat} {lv tb : Int} {d : Desc} (ht : 0 ≤ tb ∧ tb < n) (hd : decD lv (ws.getD (tb.toNat * 8 + (placeN lv q).toNat) 0) = d) : walkAt ws n q (k + 1) lv tb = if d.fKind = 1 then walkAt ws n q k (lv + 1) d.fFrame else some (foundD d lv tb (placeN lv q) q) := by
  subst hd
  conv => lhs; unfold walkAt
  rw [if_pos ht]
end

end Go.Proofs.Ytapeoeakiphfpaa
