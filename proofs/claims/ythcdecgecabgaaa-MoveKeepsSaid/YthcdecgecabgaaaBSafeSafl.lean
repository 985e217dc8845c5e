import Derived.Test.YthcdecgecabgaaaShut
import Derived.Test.YthcdecgecabgaaaBSemwSamqPrunsKeeq
import Derived.Test.YthcdecgecabgaaaBStepsSamePart
/- Plain laws: steps that a watch sees and is not broken by. -/
namespace Go.Proofs.Ythcdecgecabgaaa
open Go.RowKit
set_option linter.unusedVariables false
set_option linter.unusedSimpArgs false

/-- What matters of an open place. -/
structure GC where
  t : Int
  p : Int
  asid : Int
  first : Int
  told : List Bool
  deriving DecidableEq
def Gap.gc (g : Gap) : GC := ⟨g.t, g.p, g.asid, g.first, g.told⟩
def tellC (asid page : Int) (c : GC) : GC := if c.asid = asid then (if 0 ≤ page - c.first ∧ page - c.first < c.told.length then { c with told := c.told.set (page - c.first).toNat true } else c) else c
theorem tell_gc (asid page : Int) (gs : List Gap) : (gs.map (tellIf asid page)).map Gap.gc = (gs.map Gap.gc).map (tellC asid page) := by
  rw [List.map_map, List.map_map]
  apply List.map_congr_left
  intro g _
  show (tellIf asid page g).gc = tellC asid page g.gc
  unfold tellIf tellG tellC Gap.gc
  dsimp only
  split
  · split <;> rfl
  · rfl
def keyNeC (t p : Int) (c : GC) : Bool := !decide (c.t = t ∧ c.p = p)
theorem key_gc (t p : Int) (gs : List Gap) : (gs.filter fun g => !decide (g.t = t ∧ g.p = p)).map Gap.gc = (gs.map Gap.gc).filter (keyNeC t p) := by
  rw [List.filter_map]
  rfl
def keptC (table : Int) (c : GC) : Bool := !decide (c.t = table ∧ 0 ≤ c.p ∧ c.p < (8 : Nat))
theorem kept_gc (table : Int) (gs : List Gap) : (gs.filter (keptT table 8)).map Gap.gc = (gs.map Gap.gc).filter (keptC table) := by
  rw [List.filter_map]
  rfl
/-- A watch that stands so is not broken by these steps, done to these words. -/
inductive Safe (n : Nat) : List Int → List GC → List Step → Prop
  | nil (ws : List Int) (G : List GC) : Safe n ws G []
  | close {ws : List Int} {G : List GC} {s : Step} {l : List Step} (hk : s.fKind = 1) (L : Nat) (hL : s.fLevel = L) (hm : MayW s.fAsid L s.fTable s.fPlace s.fFirst) (ht : s.fTable < n) (hv : StepOk s) (ho : ws.getD (s.fTable.toNat * 8 + s.fPlace.toNat) 0 % 2 = 1) (hn : s.fValue % 2 = 0)
      (hG : ∀ g ∈ G, ¬ (g.t = s.fTable ∧ g.p = s.fPlace)) (h : Safe n (stepW n ws s) (G ++ [⟨s.fTable, s.fPlace, s.fAsid, s.fFirst, List.replicate (spanL L).toNat false⟩]) l) : Safe n ws G (s :: l)
  | opn {ws : List Int} {G : List GC} {s : Step} {l : List Step} (hk : s.fKind = 1) (L : Nat) (hL : s.fLevel = L) (hm : MayW s.fAsid L s.fTable s.fPlace s.fFirst) (ht : s.fTable < n) (hv : StepOk s) (ho : ws.getD (s.fTable.toNat * 8 + s.fPlace.toNat) 0 % 2 = 0) (hn : s.fValue % 2 = 1)
      (hG : ∀ g ∈ G, g.t = s.fTable ∧ g.p = s.fPlace → g.told.count false = 0) (h : Safe n (stepW n ws s) (G.filter (keyNeC s.fTable s.fPlace)) l) : Safe n ws G (s :: l)
  | tell {ws : List Int} {G : List GC} {s : Step} {l : List Step} (hk : s.fKind = 2) (p0 : 0 ≤ s.fFirst) (p1 : s.fFirst < 4096) (h : Safe n (stepW n ws s) (G.map (tellC s.fAsid s.fFirst)) l) : Safe n ws G (s :: l)
  | pass {ws : List Int} {G : List GC} {s : Step} {l : List Step} (hk : s.fKind = 4 ∨ s.fKind = 5) (hv : StepOk s) (h : Safe n (stepW n ws s) G l) : Safe n ws G (s :: l)
  | drop {ws : List Int} {G : List GC} {s : Step} {l : List Step} (hk : s.fKind = 6) (h : Safe n (stepW n ws s) (G.filter (keptC s.fTable)) l) : Safe n ws G (s :: l)
theorem safe_cases {n : Nat} {ws : List Int} {G : List GC} {s : Step} {l : List Step} (h : Safe n ws G (s :: l)) :
    (s.fKind = 1 ∧ StepOk s ∧ s.fTable < n ∧ ∃ L : Nat, s.fLevel = L ∧ MayW s.fAsid L s.fTable s.fPlace s.fFirst ∧
      ((ws.getD (s.fTable.toNat * 8 + s.fPlace.toNat) 0 % 2 = 1 ∧ s.fValue % 2 = 0 ∧ (∀ g ∈ G, ¬ (g.t = s.fTable ∧ g.p = s.fPlace)) ∧ Safe n (stepW n ws s) (G ++ [⟨s.fTable, s.fPlace, s.fAsid, s.fFirst, List.replicate (spanL L).toNat false⟩]) l) ∨
       (ws.getD (s.fTable.toNat * 8 + s.fPlace.toNat) 0 % 2 = 0 ∧ s.fValue % 2 = 1 ∧ (∀ g ∈ G, g.t = s.fTable ∧ g.p = s.fPlace → g.told.count false = 0) ∧ Safe n (stepW n ws s) (G.filter (keyNeC s.fTable s.fPlace)) l))) ∨
    (s.fKind = 2 ∧ 0 ≤ s.fFirst ∧ s.fFirst < 4096 ∧ Safe n (stepW n ws s) (G.map (tellC s.fAsid s.fFirst)) l) ∨
    ((s.fKind = 4 ∨ s.fKind = 5) ∧ StepOk s ∧ Safe n (stepW n ws s) G l) ∨
    (s.fKind = 6 ∧ Safe n (stepW n ws s) (G.filter (keptC s.fTable)) l) := by
  cases h with
  | close hk L hL hm ht hv ho hn hG h => exact .inl ⟨hk, hv, ht, L, hL, hm, .inl ⟨ho, hn, hG, h⟩⟩
  | opn hk L hL hm ht hv ho hn hG h => exact .inl ⟨hk, hv, ht, L, hL, hm, .inr ⟨ho, hn, hG, h⟩⟩
  | tell hk p0 p1 h => exact .inr (.inl ⟨hk, p0, p1, h⟩)
  | pass hk hv h => exact .inr (.inr (.inl ⟨hk, hv, h⟩))
  | drop hk h => exact .inr (.inr (.inr ⟨hk, h⟩))
theorem stepW_none {n : Nat} {ws : List Int} {s : Step} (h1 : s.fKind ≠ 1) (h4 : s.fKind ≠ 4) (h5 : s.fKind ≠ 5) : stepW n ws s = ws := by unfold stepW; rw [if_neg h1, if_neg h4, if_neg h5]
/-- Pages are told, one behind another. -/
theorem safe_tells {n : Nat} {ws : List Int} : ∀ (T : List Step) (G : List GC) (l : List Step), (∀ s ∈ T, s.fKind = 2 ∧ 0 ≤ s.fFirst ∧ s.fFirst < 4096) → Safe n ws (G.map fun c => T.foldl (fun c s => tellC s.fAsid s.fFirst c) c) l → Safe n ws G (T ++ l) := by
  intro T
  induction T with
  | nil => intro G l _ h; simpa using h
  | cons s T ih =>
    intro G l hT h
    obtain ⟨h1, h2, h3⟩ := hT s (.head _)
    have hw : stepW n ws s = ws := by unfold stepW; rw [if_neg (by omega), if_neg (by omega), if_neg (by omega)]
    refine .tell h1 h2 h3 ?_
    rw [hw]
    refine ih _ l (fun x hx => hT x (.tail _ hx)) ?_
    rw [List.map_map]
    exact h
/-- What stays of a place's pages as they are told. -/
theorem tellC_same (asid page : Int) (c : GC) : (tellC asid page c).t = c.t ∧ (tellC asid page c).p = c.p ∧ (tellC asid page c).asid = c.asid ∧ (tellC asid page c).first = c.first ∧ (tellC asid page c).told.length = c.told.length ∧ ∀ i, c.told.getD i false = true → (tellC asid page c).told.getD i false = true := by
  unfold tellC
  split
  · split
    · refine ⟨rfl, rfl, rfl, rfl, by simp, fun i hi => ?_⟩
      simp only [List.getD, List.getElem?_set]
      split
      · split <;> simp_all
      · simpa [List.getD] using hi
    · exact ⟨rfl, rfl, rfl, rfl, rfl, fun _ h => h⟩
  · exact ⟨rfl, rfl, rfl, rfl, rfl, fun _ h => h⟩
theorem tells_same : ∀ (T : List Step) (c : GC), (T.foldl (fun c s => tellC s.fAsid s.fFirst c) c).t = c.t ∧ (T.foldl (fun c s => tellC s.fAsid s.fFirst c) c).p = c.p ∧ (T.foldl (fun c s => tellC s.fAsid s.fFirst c) c).asid = c.asid ∧ (T.foldl (fun c s => tellC s.fAsid s.fFirst c) c).first = c.first ∧ (T.foldl (fun c s => tellC s.fAsid s.fFirst c) c).told.length = c.told.length ∧ ∀ i, c.told.getD i false = true → (T.foldl (fun c s => tellC s.fAsid s.fFirst c) c).told.getD i false = true := by
  intro T
  induction T with
  | nil => intro c; exact ⟨rfl, rfl, rfl, rfl, rfl, fun _ h => h⟩
  | cons s T ih =>
    intro c
    obtain ⟨a1, a2, a3, a4, a5, a6⟩ := tellC_same s.fAsid s.fFirst c
    obtain ⟨b1, b2, b3, b4, b5, b6⟩ := ih (tellC s.fAsid s.fFirst c)
    exact ⟨b1.trans a1, b2.trans a2, b3.trans a3, b4.trans a4, b5.trans a5, fun i hi => b6 i (a6 i hi)⟩
/-- Where all of a place's pages are among those that are told, none is left. -/
theorem tells_all {T : List Step} {c : GC} (h : ∀ i : Nat, i < c.told.length → ∃ s ∈ T, s.fAsid = c.asid ∧ s.fFirst = c.first + i) : (T.foldl (fun c s => tellC s.fAsid s.fFirst c) c).told.count false = 0 := by
  have key : ∀ (T : List Step) (c : GC) (i : Nat), i < c.told.length → (∃ s ∈ T, s.fAsid = c.asid ∧ s.fFirst = c.first + i) → (T.foldl (fun c s => tellC s.fAsid s.fFirst c) c).told.getD i false = true := by
    intro T
    induction T with
    | nil => intro c i _ ⟨s, hs, _⟩; cases hs
    | cons s T ih =>
      intro c i hi ⟨x, hx, h1, h2⟩
      obtain ⟨a1, a2, a3, a4, a5, a6⟩ := tellC_same s.fAsid s.fFirst c
      show (T.foldl _ (tellC s.fAsid s.fFirst c)).told.getD i false = true
      rcases List.mem_cons.1 hx with rfl | hx
      · refine (tells_same T _).2.2.2.2.2 i ?_
        unfold tellC
        rw [if_pos h1.symm, if_pos ⟨by omega, by omega⟩]
        have e : (x.fFirst - c.first).toNat = i := by omega
        simp [List.getD, e, hi]
      · exact ih _ i (by rw [a5]; exact hi) ⟨x, hx, by rw [a3]; exact h1, by rw [a4]; exact h2⟩
  rw [List.count_eq_zero]
  intro hm
  obtain ⟨i, hi, he⟩ := List.getElem_of_mem hm
  have hlen := (tells_same T c).2.2.2.2.1
  have := key T c i (by rw [← hlen]; exact hi) (h i (by rw [← hlen]; exact hi))
  rw [List.getD_eq_getElem?_getD, List.getElem?_eq_getElem hi, he] at this
  cases this
theorem tellsN_in (asid first : Int) (k : Nat) (f0 : 0 ≤ first) (f1 : first + k ≤ 4096) : ∀ s ∈ tellsN asid first k, s.fKind = 2 ∧ 0 ≤ s.fFirst ∧ s.fFirst < 4096 := by
  intro s hs
  obtain ⟨i, hi, rfl⟩ := List.mem_map.1 hs
  have := List.mem_range.1 hi
  exact ⟨rfl, by show 0 ≤ first + (i : Int); omega, by show first + (i : Int) < 4096; omega⟩
theorem tellsN_has (asid first : Int) (k i : Nat) (hi : i < k) : ∃ s ∈ tellsN asid first k, s.fAsid = asid ∧ s.fFirst = first + i :=
  ⟨_, List.mem_map.2 ⟨i, List.mem_range.2 hi, rfl⟩, rfl, rfl⟩

end Go.Proofs.Ythcdecgecabgaaa

/- Plain laws: writes that open places, one behind another; writes that close them. -/
namespace Go.Proofs.Ythcdecgecabgaaa
open Go.RowKit
set_option linter.unusedVariables false
set_option linter.unusedSimpArgs false

/-- A write at a place that is there, of a level. -/
structure WrOk (n : Nat) (s : Step) : Prop where
  kd : s.fKind = 1
  lv : ∃ L : Nat, s.fLevel = L ∧ MayW s.fAsid L s.fTable s.fPlace s.fFirst
  tn : s.fTable < n
  ok : StepOk s
def idxS (s : Step) : Nat := s.fTable.toNat * 8 + s.fPlace.toNat
def apartS (a b : Step) : Prop := ¬ (a.fTable = b.fTable ∧ a.fPlace = b.fPlace)
theorem WrOk.inn {n : Nat} {s : Step} (h : WrOk n s) : 0 ≤ s.fTable ∧ s.fTable < n ∧ 0 ≤ s.fPlace ∧ s.fPlace < 8 := by
  obtain ⟨L, _, hm⟩ := h.lv
  exact ⟨hm.t0, h.tn, hm.p0, hm.p1⟩
theorem WrOk.step {n : Nat} {s : Step} (h : WrOk n s) (ws : List Int) : stepW n ws s = ws.set (idxS s) s.fValue := stepW_write h.kd h.inn
theorem idx_ne {n : Nat} {a b : Step} (ha : WrOk n a) (hb : WrOk n b) (h : apartS a b) : idxS a ≠ idxS b := by
  obtain ⟨a0, a1, a2, a3⟩ := ha.inn
  obtain ⟨b0, b1, b2, b3⟩ := hb.inn
  intro e
  unfold idxS at e
  exact h ⟨by omega, by omega⟩
theorem idx_lt {n : Nat} {ws : List Int} {a : Step} (ha : WrOk n a) (hl : ws.length = n * 8) : idxS a < ws.length := by
  obtain ⟨a0, a1, a2, a3⟩ := ha.inn
  unfold idxS
  omega
/-- Words behind writes. -/
theorem writes_off {n : Nat} : ∀ (O : List Step) (ws : List Int) (j : Nat), (∀ s ∈ O, WrOk n s) → (∀ s ∈ O, idxS s ≠ j) → (doW n ws O).getD j 0 = ws.getD j 0 := by
  intro O
  induction O with
  | nil => intro ws j _ _; rfl
  | cons s O ih =>
    intro ws j h hj
    rw [doW_cons, ih _ _ (fun x hx => h x (.tail _ hx)) (fun x hx => hj x (.tail _ hx)), (h s (.head _)).step, getD_setI, if_neg (fun hh => hj s (.head _) hh.1)]
theorem writes_at {n : Nat} : ∀ (O : List Step) (ws : List Int), (∀ s ∈ O, WrOk n s) → O.Pairwise apartS → ws.length = n * 8 → ∀ s ∈ O, (doW n ws O).getD (idxS s) 0 = s.fValue := by
  intro O
  induction O with
  | nil => intro ws _ _ _ s hs; cases hs
  | cons x O ih =>
    intro ws h hp hl s hs
    obtain ⟨h1, h2⟩ := List.pairwise_cons.1 hp
    rw [doW_cons]
    rcases List.mem_cons.1 hs with rfl | hs
    · rw [writes_off O _ _ (fun y hy => h y (.tail _ hy)) (fun y hy e => idx_ne (h s (.head _)) (h y (.tail _ hy)) (h1 y hy) e.symm), (h s (.head _)).step, getD_setI, if_pos ⟨rfl, idx_lt (h s (.head _)) hl⟩]
    · exact ih _ (fun y hy => h y (.tail _ hy)) h2 (by rw [stepW_len]; exact hl) s hs
theorem safe_opens {n : Nat} : ∀ (O : List Step) (ws : List Int) (G : List GC) (rest : List Step), (∀ s ∈ O, WrOk n s ∧ s.fValue % 2 = 1 ∧ ws.getD (idxS s) 0 % 2 = 0) → O.Pairwise apartS → (∀ g ∈ G, g.told.count false = 0) →
    (∀ G' : List GC, (∀ g ∈ G', g ∈ G) → Safe n (doW n ws O) G' rest) → Safe n ws G (O ++ rest) := by
  intro O
  induction O with
  | nil => intro ws G rest _ _ _ h; exact h G fun g hg => hg
  | cons s O ih =>
    intro ws G rest h hp hG hr
    obtain ⟨h1, h2⟩ := List.pairwise_cons.1 hp
    obtain ⟨hs, hv, ho⟩ := h s (.head _)
    obtain ⟨L, hL, hm⟩ := hs.lv
    refine .opn hs.kd L hL hm hs.tn hs.ok ho hv (fun g hg _ => hG g hg) (ih _ _ rest (fun x hx => ?_) h2 (fun g hg => hG g (List.mem_filter.1 hg).1) fun G' hG' => hr G' fun g hg => (List.mem_filter.1 (hG' g hg)).1)
    obtain ⟨x1, x2, x3⟩ := h x (.tail _ hx)
    refine ⟨x1, x2, ?_⟩
    rw [hs.step, getD_setI, if_neg (fun hh => idx_ne hs x1 (h1 x hx) hh.1)]
    exact x3
def gapS (s : Step) : GC := ⟨s.fTable, s.fPlace, s.fAsid, s.fFirst, List.replicate (spanL s.fLevel).toNat false⟩
theorem safe_closes {n : Nat} : ∀ (C : List Step) (ws : List Int) (G : List GC) (rest : List Step), (∀ s ∈ C, WrOk n s ∧ s.fValue % 2 = 0 ∧ ws.getD (idxS s) 0 % 2 = 1 ∧ ∀ g ∈ G, ¬ (g.t = s.fTable ∧ g.p = s.fPlace)) → C.Pairwise apartS →
    Safe n (doW n ws C) (G ++ C.map gapS) rest → Safe n ws G (C ++ rest) := by
  intro C
  induction C with
  | nil => intro ws G rest _ _ h; rw [List.map_nil, List.append_nil] at h; exact h
  | cons s C ih =>
    intro ws G rest h hp hr
    obtain ⟨h1, h2⟩ := List.pairwise_cons.1 hp
    obtain ⟨hs, hv, ho, hg⟩ := h s (.head _)
    obtain ⟨L, hL, hm⟩ := hs.lv
    refine .close hs.kd L hL hm hs.tn hs.ok ho hv hg (ih _ _ rest (fun x hx => ?_) h2 ?_)
    · obtain ⟨x1, x2, x3, x4⟩ := h x (.tail _ hx)
      refine ⟨x1, x2, ?_, fun g hg2 => ?_⟩
      · rw [hs.step, getD_setI, if_neg (fun hh => idx_ne hs x1 (h1 x hx) hh.1)]
        exact x3
      · rcases List.mem_append.1 hg2 with hg2 | hg2
        · exact x4 g hg2
        · rw [List.mem_singleton.1 hg2]
          exact h1 x hx
    · have e : G ++ [⟨s.fTable, s.fPlace, s.fAsid, s.fFirst, List.replicate (spanL L).toNat false⟩] ++ C.map gapS = G ++ (s :: C).map gapS := by
        rw [List.map_cons, List.append_assoc]
        unfold gapS
        rw [hL]
        rfl
      rw [e]
      exact hr
/-- Places are closed, their pages told, and places opened again. -/
theorem safe_swap {n : Nat} {ws : List Int} {C T O rest : List Step} (hC : ∀ s ∈ C, WrOk n s ∧ s.fValue % 2 = 0 ∧ ws.getD (idxS s) 0 % 2 = 1) (hp : C.Pairwise apartS) (hT : ∀ s ∈ T, s.fKind = 2 ∧ 0 ≤ s.fFirst ∧ s.fFirst < 4096)
    (hall : ∀ c ∈ C, ∀ i : Nat, i < (spanL c.fLevel).toNat → ∃ s ∈ T, s.fAsid = c.fAsid ∧ s.fFirst = c.fFirst + i)
    (hO : ∀ s ∈ O, WrOk n s ∧ s.fValue % 2 = 1 ∧ (doW n ws C).getD (idxS s) 0 % 2 = 0) (hp2 : O.Pairwise apartS)
    (hr : ∀ G' : List GC, (∀ g ∈ G', g.told.count false = 0) → Safe n (doW n (doW n ws C) O) G' rest) : Safe n ws [] (C ++ (T ++ (O ++ rest))) := by
  refine safe_closes C ws [] _ (fun s hs => ⟨(hC s hs).1, (hC s hs).2.1, (hC s hs).2.2, fun g hg => by cases hg⟩) hp ?_
  refine safe_tells T _ _ hT ?_
  have hz : ∀ g ∈ ([] ++ C.map gapS).map (fun c : GC => T.foldl (fun (c : GC) (s : Step) => tellC s.fAsid s.fFirst c) c), g.told.count false = 0 := by
    intro g hg
    obtain ⟨c, hc, rfl⟩ := List.mem_map.1 hg
    rw [List.nil_append] at hc
    obtain ⟨s, hs, rfl⟩ := List.mem_map.1 hc
    refine tells_all fun i hi => ?_
    unfold gapS at hi
    dsimp only at hi
    rw [List.length_replicate] at hi
    exact hall s hs i hi
  exact safe_opens O _ _ rest hO hp2 hz fun G' hG' => hr G' fun g hg => hz g (hG' g hg)

end Go.Proofs.Ythcdecgecabgaaa
