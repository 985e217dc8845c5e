import Derived.Test.YthcdecgecabgaaaTabs
import Derived.Test.YthcdecgecabgaaaBPathpRefcRefd
import Derived.Test.YthcdecgecabgaaaBRefbFoldpMore
/- Plain laws: which tables a walk comes by; where all tables are unlike, each lies at one place of the tree; what a change of words changes of walks. -/
namespace Go.Proofs.Ythcdecgecabgaaa
open Go.RowKit
set_option linter.unusedVariables false
set_option linter.unusedSimpArgs false

/-- What a table's word for a page says. -/
abbrev sayD (ws : List Int) (lv tb page : Int) : Desc := decD lv (ws.getD (tb.toNat * 8 + (placeN lv page).toNat) 0)
/-- A walk comes by a table at a level. -/
def Sees (ws : List Int) (n page : Int) : Nat → Int → Int → Int → Int → Prop
  | 0, _, _, _, _ => False
  | k + 1, lv, tb, L, T => (0 ≤ tb ∧ tb < n) ∧ ((L = lv ∧ T = tb) ∨ ((sayD ws lv tb page).fKind = 1 ∧ Sees ws n page k (lv + 1) (sayD ws lv tb page).fFrame L T))
section
variable {ws us : List Int} {n p q : Int}
theorem sees_succ {k : Nat} {lv tb L T : Int} : Sees ws n p (k + 1) lv tb L T ↔ (0 ≤ tb ∧ tb < n) ∧ ((L = lv ∧ T = tb) ∨ ((sayD ws lv tb p).fKind = 1 ∧ Sees ws n p k (lv + 1) (sayD ws lv tb p).fFrame L T)) := Iff.rfl
theorem sees_lo : ∀ (k : Nat) (lv tb L T : Int), Sees ws n p k lv tb L T → lv ≤ L ∧ L < lv + k ∧ 0 ≤ T ∧ T < n := by
  intro k
  induction k with
  | zero => intro lv tb L T h; cases h
  | succ k ih =>
    intro lv tb L T h
    obtain ⟨h0, h | ⟨_, h⟩⟩ := sees_succ.1 h
    · obtain ⟨rfl, rfl⟩ := h; omega
    · have := ih _ _ _ _ h; omega
/-- All tables, table by table. -/
theorem tabs_parts {k : Nat} {lv t : Int} {r : List Int} (h : tabsAt ws n (k + 1) lv t = some r) : (0 ≤ t ∧ t < n) ∧ ∃ f : Nat → List Int, r = t :: (List.range 8).flatMap f ∧ ∀ i, i < 8 → (decD lv (ws.getD (t.toNat * 8 + i) 0)).fKind = 1 → tabsAt ws n k (lv + 1) (decD lv (ws.getD (t.toNat * 8 + i) 0)).fFrame = some (f i) := by
  by_cases ht : 0 ≤ t ∧ t < n
  · refine ⟨ht, ?_⟩
    rw [tabsAt_in ht] at h
    let f : Nat → List Int := fun i => if (decD lv (ws.getD (t.toNat * 8 + i) 0)).fKind = 1 then (tabsAt ws n k (lv + 1) (decD lv (ws.getD (t.toNat * 8 + i) 0)).fFrame).getD [] else []
    have key : ∀ (j i : Nat), i + j = 8 → ∀ (l r : List Int), tabsFrom ws n k lv t i l = some r → r = l ++ ((List.range 8).drop i).flatMap f ∧ ∀ a, i ≤ a → a < 8 → (decD lv (ws.getD (t.toNat * 8 + a) 0)).fKind = 1 → tabsAt ws n k (lv + 1) (decD lv (ws.getD (t.toNat * 8 + a) 0)).fFrame = some (f a) := by
      intro j
      induction j with
      | zero =>
        intro i hi l r hr
        obtain rfl : i = 8 := by omega
        rw [tabsFrom_end] at hr
        cases hr
        exact ⟨by rw [List.drop_of_length_le (by simp)]; simp, fun a ha hb => by omega⟩
      | succ j ihj =>
        intro i hi l r hr
        have hd : (List.range 8).drop i = i :: (List.range 8).drop (i + 1) := by rw [List.drop_eq_getElem_cons (by simp; omega), List.getElem_range]
        by_cases hk : (decD lv (ws.getD (t.toNat * 8 + i) 0)).fKind = 1
        · cases hm : tabsAt ws n k (lv + 1) (decD lv (ws.getD (t.toNat * 8 + i) 0)).fFrame with
          | none => rw [tabsFrom_no (by omega) rfl hk hm] at hr; cases hr
          | some m =>
            rw [tabsFrom_go (by omega) rfl hk hm] at hr
            obtain ⟨h1, h2⟩ := ihj (i + 1) (by omega) _ _ hr
            have hf : f i = m := by show (if _ then _ else _) = _; rw [if_pos hk, hm]; rfl
            refine ⟨by rw [h1, hd, List.flatMap_cons, hf, List.append_assoc], fun a ha hb hka => ?_⟩
            by_cases e : a = i
            · subst e; rw [hf]; exact hm
            · exact h2 a (by omega) hb hka
        · rw [tabsFrom_skip (by omega) rfl hk] at hr
          obtain ⟨h1, h2⟩ := ihj (i + 1) (by omega) _ _ hr
          have hf : f i = [] := by show (if _ then _ else _) = _; rw [if_neg hk]
          refine ⟨by rw [h1, hd, List.flatMap_cons, hf]; rfl, fun a ha hb hka => ?_⟩
          by_cases e : a = i
          · subst e; exact absurd hka hk
          · exact h2 a (by omega) hb hka
    obtain ⟨h1, h2⟩ := key 8 0 rfl [t] r h
    exact ⟨f, by rw [h1]; rfl, fun i hi hk => h2 i (by omega) hi hk⟩
  · rw [tabsAt_out ht] at h; cases h
theorem placeN_nat (lv page : Int) : (placeN lv page).toNat < 8 := by have := placeN_lo lv page; have := placeN_hi lv page; omega
/-- A table that a walk comes by is one of all. -/
theorem sees_in : ∀ (k : Nat) (lv tb L T : Int) (r : List Int), tabsAt ws n k lv tb = some r → Sees ws n p k lv tb L T → T ∈ r := by
  intro k
  induction k with
  | zero => intro lv tb L T r _ h; cases h
  | succ k ih =>
    intro lv tb L T r hr h
    obtain ⟨_, f, rfl, hf⟩ := tabs_parts hr
    obtain ⟨_, h | ⟨hk, h⟩⟩ := sees_succ.1 h
    · rw [h.2]; exact .head _
    · refine .tail _ (List.mem_flatMap.2 ⟨(placeN lv p).toNat, by simpa using placeN_nat lv p, ?_⟩)
      exact ih _ _ _ _ _ (hf _ (placeN_nat lv p) hk) h
theorem flat_apart {f : Nat → List Int} {t : Int} (h : (t :: (List.range 8).flatMap f).Nodup) : (∀ i, i < 8 → t ∉ f i) ∧ (∀ i, i < 8 → (f i).Nodup) ∧ ∀ i j x, i < 8 → j < 8 → x ∈ f i → x ∈ f j → i = j := by
  obtain ⟨h1, h2⟩ := List.nodup_cons.1 h
  have h3 := List.pairwise_flatMap.1 h2
  refine ⟨fun i hi hm => h1 (List.mem_flatMap.2 ⟨i, by simpa using hi, hm⟩), fun i hi => h3.1 i (by simpa using hi), fun i j x hi hj hxi hxj => ?_⟩
  by_cases e : i = j
  · exact e
  · exfalso
    have key : ∀ a b, a < b → b < 8 → x ∈ f a → x ∈ f b → False := by
      intro a b hab hb ha hbx
      have hp := List.pairwise_iff_getElem.1 h3.2 a b (by simp; omega) (by simpa using hb) hab
      rw [List.getElem_range, List.getElem_range] at hp
      exact hp x ha x hbx rfl
    rcases Nat.lt_or_gt_of_ne e with hlt | hgt
    · exact key i j hlt hj hxi hxj
    · exact key j i hgt hi hxj hxi
/-- Where all tables are unlike, walks that come by one table come by it at one level, and went the same way. -/
theorem sees_one : ∀ (k : Nat) (lv tb L L' T : Int) (r : List Int), tabsAt ws n k lv tb = some r → r.Nodup → Sees ws n p k lv tb L T → Sees ws n q k lv tb L' T → L = L' ∧ ∀ m, lv ≤ m → m < L → placeN m p = placeN m q := by
  intro k
  induction k with
  | zero => intro lv tb L L' T r _ _ h; cases h
  | succ k ih =>
    intro lv tb L L' T r hr hn hp hq
    obtain ⟨_, f, rfl, hf⟩ := tabs_parts hr
    obtain ⟨h1, h2, h3⟩ := flat_apart hn
    obtain ⟨_, hp | ⟨hkp, hp⟩⟩ := sees_succ.1 hp
    · obtain ⟨_, hq | ⟨hkq, hq⟩⟩ := sees_succ.1 hq
      · exact ⟨by omega, fun m a b => by omega⟩
      · have := sees_in _ _ _ _ _ _ (hf _ (placeN_nat lv q) hkq) hq
        rw [hp.2] at this
        exact absurd this (h1 _ (placeN_nat lv q))
    · obtain ⟨_, hq | ⟨hkq, hq⟩⟩ := sees_succ.1 hq
      · have := sees_in _ _ _ _ _ _ (hf _ (placeN_nat lv p) hkp) hp
        rw [hq.2] at this
        exact absurd this (h1 _ (placeN_nat lv p))
      · have mp := sees_in _ _ _ _ _ _ (hf _ (placeN_nat lv p) hkp) hp
        have mq := sees_in _ _ _ _ _ _ (hf _ (placeN_nat lv q) hkq) hq
        have e := h3 _ _ T (placeN_nat lv p) (placeN_nat lv q) mp mq
        have e2 : placeN lv p = placeN lv q := by have := placeN_lo lv p; have := placeN_lo lv q; omega
        unfold sayD at hp hq hkp hkq
        rw [← e2] at hq
        obtain ⟨h4, h5⟩ := ih _ _ _ _ _ _ (hf _ (placeN_nat lv p) hkp) (h2 _ (placeN_nat lv p)) hp hq
        refine ⟨h4, fun m a b => ?_⟩
        by_cases em : m = lv
        · rw [em]; exact e2
        · exact h5 m (by omega) b
/-- A walk hangs on the words of the tables that it comes by. -/
theorem walk_same : ∀ (k : Nat) (lv tb : Int), (∀ L T, Sees ws n q k lv tb L T → us.getD (T.toNat * 8 + (placeN L q).toNat) 0 = ws.getD (T.toNat * 8 + (placeN L q).toNat) 0) → walkAt us n q k lv tb = walkAt ws n q k lv tb := by
  intro k
  induction k with
  | zero => intro lv tb _; rfl
  | succ k ih =>
    intro lv tb h
    conv => lhs; unfold walkAt
    conv => rhs; unfold walkAt
    by_cases ht : 0 ≤ tb ∧ tb < n
    · have e := h lv tb (sees_succ.2 ⟨ht, .inl ⟨rfl, rfl⟩⟩)
      rw [if_pos ht, if_pos ht, e]
      by_cases hk : (decD lv (ws.getD (tb.toNat * 8 + (placeN lv q).toNat) 0)).fKind = 1
      · rw [if_pos hk, if_pos hk]
        exact ih _ _ fun L T hs => h L T (sees_succ.2 ⟨ht, .inr ⟨hk, hs⟩⟩)
      · rw [if_neg hk, if_neg hk]
    · rw [if_neg ht, if_neg ht]
/-- The same of the tables that it comes by. -/
theorem sees_same : ∀ (k : Nat) (lv tb : Int), (∀ L T, Sees ws n q k lv tb L T → us.getD (T.toNat * 8 + (placeN L q).toNat) 0 = ws.getD (T.toNat * 8 + (placeN L q).toNat) 0) → ∀ L T, Sees us n q k lv tb L T ↔ Sees ws n q k lv tb L T := by
  intro k
  induction k with
  | zero => intro lv tb _ L T; exact Iff.rfl
  | succ k ih =>
    intro lv tb h L T
    rw [sees_succ, sees_succ]
    by_cases ht : 0 ≤ tb ∧ tb < n
    · have e := h lv tb (sees_succ.2 ⟨ht, .inl ⟨rfl, rfl⟩⟩)
      unfold sayD
      rw [e]
      by_cases hk : (decD lv (ws.getD (tb.toNat * 8 + (placeN lv q).toNat) 0)).fKind = 1
      · rw [ih _ _ (fun L T hs => h L T (sees_succ.2 ⟨ht, .inr ⟨hk, hs⟩⟩))]
      · exact ⟨fun h => ⟨h.1, h.2.elim .inl fun h => absurd h.1 hk⟩, fun h => ⟨h.1, h.2.elim .inl fun h => absurd h.1 hk⟩⟩
    · exact ⟨fun h => absurd h.1 ht, fun h => absurd h.1 ht⟩
/-- A walk goes on from each table that it comes by, as long as the words before it are as they were. -/
theorem walk_to : ∀ (k : Nat) (lv tb L T : Int), Sees ws n q k lv tb L T → (∀ L' T', L' < L → Sees ws n q k lv tb L' T' → us.getD (T'.toNat * 8 + (placeN L' q).toNat) 0 = ws.getD (T'.toNat * 8 + (placeN L' q).toNat) 0) → ∃ j : Nat, (j : Int) = lv + k - L ∧ walkAt us n q k lv tb = walkAt us n q j L T := by
  intro k
  induction k with
  | zero => intro lv tb L T h; cases h
  | succ k ih =>
    intro lv tb L T h hs
    obtain ⟨ht, h | ⟨hk, h⟩⟩ := sees_succ.1 h
    · obtain ⟨rfl, rfl⟩ := h
      exact ⟨k + 1, by omega, rfl⟩
    · have hl := sees_lo _ _ _ _ _ h
      have e := hs lv tb (by omega) (sees_succ.2 ⟨ht, .inl ⟨rfl, rfl⟩⟩)
      obtain ⟨j, hj, hw⟩ := ih _ _ _ _ h fun L' T' hlt hs' => hs L' T' hlt (sees_succ.2 ⟨ht, .inr ⟨hk, hs'⟩⟩)
      refine ⟨j, by omega, ?_⟩
      conv => lhs; unfold walkAt
      unfold sayD at hk hw
      rw [if_pos ht, e, if_pos hk]
      exact hw
/-- One step of a walk. -/
theorem walk_step {k : Nat} {lv tb : Int} {d : Desc} (ht : 0 ≤ tb ∧ tb < n) (hd : decD lv (ws.getD (tb.toNat * 8 + (placeN lv q).toNat) 0) = d) : walkAt ws n q (k + 1) lv tb = if d.fKind = 1 then walkAt ws n q k (lv + 1) d.fFrame else some (foundD d lv tb (placeN lv q) q) := by
  subst hd
  conv => lhs; unfold walkAt
  rw [if_pos ht]
end

end Go.Proofs.Ythcdecgecabgaaa

/- Plain laws: steps done to words; what the steps that lay tables come to. -/
namespace Go.Proofs.Ythcdecgecabgaaa
open Go.RowKit
set_option linter.unusedVariables false
set_option linter.unusedSimpArgs false

theorem getD_setI (ws : List Int) (i j : Nat) (x : Int) : (ws.set i x).getD j 0 = if i = j ∧ i < ws.length then x else ws.getD j 0 := by
  simp only [List.getD, List.getElem?_set]
  by_cases h : i = j
  · subst h
    by_cases h2 : i < ws.length <;> simp [h2]
  · simp [h]
theorem clearW_len (ws : List Int) (t : Nat) : (clearW ws t).length = ws.length := by simp [clearW]
theorem clearW_off (ws : List Int) (t j : Nat) (h : j < t * 8 ∨ t * 8 + 8 ≤ j) : (clearW ws t).getD j 0 = ws.getD j 0 := by
  unfold clearW
  repeat (rw [getD_setI, if_neg (by omega)])
theorem clearW_at (ws : List Int) (t i : Nat) (hi : i < 8) (h : t * 8 + 8 ≤ ws.length) : (clearW ws t).getD (t * 8 + i) 0 = 0 := by
  unfold clearW
  simp only [getD_setI, List.length_set]
  match i, hi with
  | 0, _ => simp; omega
  | 1, _ => simp; omega
  | 2, _ => simp; omega
  | 3, _ => simp; omega
  | 4, _ => simp; omega
  | 5, _ => simp; omega
  | 6, _ => simp; omega
  | 7, _ => simp; omega

def hasB (n : Nat) (f i : Int) : Bool := decide (0 ≤ f ∧ f < n ∧ 0 ≤ i ∧ i < 8)
/-- A step that is done to words. -/
def stepW (n : Nat) (ws : List Int) (s : Step) : List Int :=
  if s.fKind = 1 then (if hasB n s.fTable s.fPlace then ws.set (s.fTable.toNat * 8 + s.fPlace.toNat) s.fValue else ws)
  else if s.fKind = 4 then (if hasB n s.fTo 0 then clearW ws s.fTo.toNat else ws)
  else if s.fKind = 5 then (if hasB n s.fTo s.fI && hasB n s.fFrom s.fI then ws.set (s.fTo.toNat * 8 + s.fI.toNat) (ws.getD (s.fFrom.toNat * 8 + s.fI.toNat) 0) else ws)
  else ws
def doW (n : Nat) (ws : List Int) (l : List Step) : List Int := l.foldl (stepW n) ws
theorem stepW_len (n : Nat) (ws : List Int) (s : Step) : (stepW n ws s).length = ws.length := by
  unfold stepW
  split
  · split <;> simp
  · split
    · split
      · exact clearW_len _ _
      · rfl
    · split
      · split <;> simp
      · rfl
theorem doW_len (n : Nat) : ∀ (l : List Step) (ws : List Int), (doW n ws l).length = ws.length := by
  intro l
  induction l with
  | nil => intro ws; rfl
  | cons s l ih => intro ws; exact (ih (stepW n ws s)).trans (stepW_len n ws s)
theorem doW_cons (n : Nat) (ws : List Int) (s : Step) (l : List Step) : doW n ws (s :: l) = doW n (stepW n ws s) l := rfl
theorem doW_append (n : Nat) (ws : List Int) (l m : List Step) : doW n ws (l ++ m) = doW n (doW n ws l) m := by unfold doW; rw [List.foldl_append]
theorem stepW_write {n : Nat} {ws : List Int} {s : Step} (hk : s.fKind = 1) (h : 0 ≤ s.fTable ∧ s.fTable < n ∧ 0 ≤ s.fPlace ∧ s.fPlace < 8) : stepW n ws s = ws.set (s.fTable.toNat * 8 + s.fPlace.toNat) s.fValue := by
  unfold stepW
  rw [if_pos hk, if_pos (show hasB n s.fTable s.fPlace = true from decide_eq_true h)]
theorem stepW_clear {n : Nat} {ws : List Int} {f : Int} (h : 0 ≤ f ∧ f < n) : stepW n ws (clearS f) = clearW ws f.toNat := by
  unfold stepW clearS
  dsimp only
  rw [if_neg (by omega), if_pos rfl, if_pos (show hasB n f 0 = true from decide_eq_true ⟨h.1, h.2, by omega, by omega⟩)]

/-- The word that leads to the first of fresh tables; none: 0. -/
def headW : List Int → Int
  | [] => 0
  | g :: _ => g * 4096 + 3
/-- Fresh tables that lead down along a page's places, from a table of a level on; all else of them is none. -/
def ChainW (us : List Int) (page : Int) : Int → List Int → Prop
  | _, [] => True
  | l, f :: fs => (∀ i : Nat, i < 8 → us.getD (f.toNat * 8 + i) 0 = if i = (placeN l page).toNat then headW fs else 0) ∧ ChainW us page (l + 1) fs
theorem chain_kept {us vs : List Int} {page : Int} : ∀ (fs : List Int) (l : Int), (∀ f ∈ fs, ∀ i : Nat, i < 8 → vs.getD (f.toNat * 8 + i) 0 = us.getD (f.toNat * 8 + i) 0) → ChainW us page l fs → ChainW vs page l fs := by
  intro fs
  induction fs with
  | nil => intro l _ _; trivial
  | cons f fs ih => intro l h hc; exact ⟨fun i hi => (h f (.head _) i hi).trans (hc.1 i hi), ih _ (fun g hg => h g (.tail _ hg)) hc.2⟩
/-- What the steps that lay tables come to. -/
theorem path_done {n : Nat} {asid page : Int} : ∀ (fs : List Int) (l : Nat) (tb pl : Int) (ws : List Int), ws.length = n * 8 → (∀ f ∈ fs, 0 ≤ f ∧ f < n) → fs.Nodup → tb ∉ fs → 0 ≤ tb → tb < n → 0 ≤ pl → pl < 8 →
    (∀ t i : Nat, i < 8 → t < n → (t : Int) ∉ fs → ¬ ((t : Int) = tb ∧ (i : Int) = pl) → (doW n ws (pathS asid page l tb pl fs).1).getD (t * 8 + i) 0 = ws.getD (t * 8 + i) 0) ∧
    (doW n ws (pathS asid page l tb pl fs).1).getD (tb.toNat * 8 + pl.toNat) 0 = (match fs with | [] => ws.getD (tb.toNat * 8 + pl.toNat) 0 | f :: _ => f * 4096 + 3) ∧
    ChainW (doW n ws (pathS asid page l tb pl fs).1) page (l + 1) fs := by
  intro fs
  induction fs with
  | nil => intro l tb pl ws hw _ _ _ _ _ _ _; exact ⟨fun t i _ _ _ _ => rfl, rfl, trivial⟩
  | cons f fs ih =>
    intro l tb pl ws hw hin hnd htb t0 t1 p0 p1
    obtain ⟨hf0, hf1⟩ := hin f (.head _)
    obtain ⟨hnf, hnd'⟩ := List.nodup_cons.1 hnd
    have hne : tb ≠ f := fun e => htb (by rw [e]; exact .head _)
    have hst : doW n ws (pathS asid page l tb pl (f :: fs)).1 = doW n ((clearW ws f.toNat).set (tb.toNat * 8 + pl.toNat) (f * 4096 + 3)) (pathS asid page (l + 1) f (placeN ((l : Int) + 1) page) fs).1 := by
      show doW n ws (clearS f :: _ :: _) = _
      rw [doW_cons, doW_cons, stepW_clear ⟨hf0, hf1⟩, stepW_write rfl ⟨t0, t1, p0, p1⟩]
    have hl1 : (clearW ws f.toNat).length = n * 8 := by rw [clearW_len, hw]
    have hl2 : ((clearW ws f.toNat).set (tb.toNat * 8 + pl.toNat) (f * 4096 + 3)).length = n * 8 := by rw [List.length_set, hl1]
    obtain ⟨h1, h2, h3⟩ := ih (l + 1) f (placeN ((l : Int) + 1) page) _ hl2 (fun g hg => hin g (.tail _ hg)) hnd' hnf hf0 hf1 (placeN_lo _ _) (placeN_hi _ _)
    rw [hst]
    generalize hus : doW n ((clearW ws f.toNat).set (tb.toNat * 8 + pl.toNat) (f * 4096 + 3)) (pathS asid page (l + 1) f (placeN ((l : Int) + 1) page) fs).1 = us at *
    have g0 := placeN_lo ((l : Int) + 1) page
    have g1 := placeN_hi ((l : Int) + 1) page
    refine ⟨fun t i hi ht hnt hslot => ?_, ?_, ?_, ?_⟩
    · have hnt' : (t : Int) ∉ fs := fun h => hnt (.tail _ h)
      have htf : (t : Int) ≠ f := fun h => hnt (by rw [h]; exact .head _)
      rw [h1 t i hi ht hnt' (fun h => htf h.1), getD_setI, if_neg (by omega), clearW_off _ _ _ (by omega)]
    · have hnt' : tb ∉ fs := fun h => htb (.tail _ h)
      have := h1 tb.toNat pl.toNat (by omega) (by omega) (by rwa [Int.toNat_of_nonneg t0]) (by omega)
      rw [this, getD_setI, if_pos ⟨rfl, by rw [hl1]; omega⟩]
    · intro i hi
      by_cases e : i = (placeN ((l : Int) + 1) page).toNat
      · rw [if_pos e, e, h2]
        cases fs with
        | nil =>
          show _ = (0 : Int)
          dsimp only
          rw [getD_setI, if_neg (by omega)]
          exact clearW_at _ _ _ (by omega) (by omega)
        | cons g gs => rfl
      · rw [if_neg e]
        have := h1 f.toNat i hi (by omega) (by rwa [Int.toNat_of_nonneg hf0]) (by omega)
        rw [this, getD_setI, if_neg (by omega)]
        exact clearW_at _ _ _ hi (by omega)
    · have e : ((l + 1 : Nat) : Int) + 1 = (l : Int) + 1 + 1 := by omega
      rw [← e]
      exact h3
/-- A table's word, decoded. -/
theorem dec_tab {lv g : Int} (h0 : 0 ≤ lv) (h2 : lv ≤ 2) (g0 : 0 ≤ g) (g1 : g < 512) : decD lv (g * 4096 + 3) = tableD g := by
  have h := dec_enc (okD_tab h0 h2 g0 g1)
  rwa [show encW (tableD g) = g * 4096 + 3 from rfl] at h
theorem dec_nil (lv : Int) (h0 : 0 ≤ lv) (h1 : lv ≤ 3) : decD lv 0 = noneD := by
  have : lv = 0 ∨ lv = 1 ∨ lv = 2 ∨ lv = 3 := by omega
  rcases this with rfl | rfl | rfl | rfl <;> decide +kernel
/-- A walk that comes into such tables finds none. -/
theorem chain_walk {us : List Int} {n : Nat} {page q : Int} (hn : n ≤ 512) : ∀ (fs : List Int) (f : Int) (l : Int) (j : Nat), 0 ≤ l → l + j = 4 → (f :: fs).length ≤ j → (∀ g ∈ f :: fs, 0 ≤ g ∧ g < n) → ChainW us page l (f :: fs) → ∃ x, walkAt us n q j l f = some x ∧ x.fKind = 0 := by
  intro fs
  induction fs with
  | nil =>
    intro f l j l0 hj hlen hin hc
    obtain ⟨f0, f1⟩ := hin f (.head _)
    obtain ⟨j, rfl⟩ : ∃ k, j = k + 1 := ⟨j - 1, by simp at hlen; omega⟩
    have hw := hc.1 (placeN l q).toNat (placeN_nat l q)
    have hz : us.getD (f.toNat * 8 + (placeN l q).toNat) 0 = 0 := by rw [hw]; split <;> rfl
    rw [walk_step (d := noneD) ⟨f0, f1⟩ (by rw [hz]; exact dec_nil l l0 (by omega)), if_neg (by decide)]
    exact ⟨_, rfl, (foundD_parts _ _ _ _ _).2.2.2⟩
  | cons g gs ih =>
    intro f l j l0 hj hlen hin hc
    obtain ⟨f0, f1⟩ := hin f (.head _)
    obtain ⟨g0, g1⟩ := hin g (.tail _ (.head _))
    obtain ⟨j, rfl⟩ : ∃ k, j = k + 1 := ⟨j - 1, by simp at hlen; omega⟩
    have hw := hc.1 (placeN l q).toNat (placeN_nat l q)
    simp only [List.length_cons] at hlen
    by_cases e : (placeN l q).toNat = (placeN l page).toNat
    · rw [if_pos e] at hw
      change _ = g * 4096 + 3 at hw
      rw [walk_step (d := tableD g) ⟨f0, f1⟩ (by rw [hw]; exact dec_tab l0 (by omega) g0 (by omega)), if_pos (show (tableD g).fKind = 1 from rfl)]
      exact ih g (l + 1) j (by omega) (by omega) (by simp; omega) (fun x hx => hin x (.tail _ hx)) hc.2
    · rw [if_neg e] at hw
      rw [walk_step (d := noneD) ⟨f0, f1⟩ (by rw [hw]; exact dec_nil l l0 (by omega)), if_neg (by decide)]
      exact ⟨_, rfl, (foundD_parts _ _ _ _ _).2.2.2⟩

end Go.Proofs.Ythcdecgecabgaaa
