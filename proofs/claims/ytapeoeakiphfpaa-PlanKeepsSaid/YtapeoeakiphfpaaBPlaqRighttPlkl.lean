import Derived.Test.YtapeoeakiphfpaaBPlapRightsHugp
/- Plain laws behind PlanKeeps and PlanTwice: what the steps of Clear and of Rights do. -/
namespace Go.Proofs.Ytapeoeakiphfpaa
open Go.RowKit
set_option linter.unusedVariables false
set_option linter.unusedSimpArgs false

theorem doW_tells {n : Nat} : ∀ (T : List Step) (vs : List Int), (∀ x ∈ T, x.fKind = 2) → doW n vs T = vs := by
  intro T
  induction T with
  | nil => intro vs _; rfl
  | cons x T ih => intro vs h; rw [doW_cons, stepW_none (by rw [h x (.head _)]; omega) (by rw [h x (.head _)]; omega) (by rw [h x (.head _)]; omega)]; exact ih vs fun y hy => h y (.tail _ hy)
/-- A leaf's word with other rights. -/
def rwF (ws : List Int) (wr ex : Bool) (f : Found) : Int := encW (wxD (decD f.fLevel (ws.getD (idxF f) 0)) wr ex)
def chF (wr ex : Bool) (f : Found) : Bool := !(f.fWrite == wr) || !(f.fExec == ex)
def setL (ws : List Int) (asid : Int) (wr ex : Bool) (l : List Found) : List Step := l.map fun f => wrF asid (rwF ws wr ex f) f
def rightsL (ws : List Int) (asid : Int) (wr ex : Bool) (l : List Found) : List Step := awayL asid (l.filter (chF wr ex)) ++ setL ws asid wr ex (l.filter (chF wr ex))
def rightsRes (ws : List Int) (asid : Int) (wr ex : Bool) : LeavesR → StepsR
  | .no k => .no k
  | .yes l => .yes (rightsL ws asid wr ex l)
def wxF (wr ex : Bool) (f : Found) : Found := { f with fWrite := wr, fExec := ex }
theorem okD_wx {lv : Int} {d : Desc} (h : okD lv d = true) (hk : d.fKind = 2 ∨ d.fKind = 3) (wr ex : Bool) : okD lv (wxD d wr ex) = true := by
  obtain ⟨k, f, w, e, s, fo, so⟩ := d
  dsimp only at hk
  show okD lv ⟨k, f, wr, ex, s, fo, so⟩ = true
  rcases hk with rfl | rfl
  · simp [okD, mayD] at h ⊢
    exact h
  · simp [okD, mayD] at h ⊢
    exact h
theorem foundD_wx {d : Desc} (hk : d.fKind = 2 ∨ d.fKind = 3) (wr ex : Bool) (L T P q : Int) : foundD (wxD d wr ex) L T P q = wxF wr ex (foundD d L T P q) := by
  obtain ⟨k, f, w, e, s, fo, so⟩ := d
  dsimp only at hk
  unfold foundD wxF wxD
  dsimp only
  rcases hk with rfl | rfl
  · rfl
  · cases fo <;> rfl
theorem foundD_we {d : Desc} (hk : d.fKind = 2 ∨ d.fKind = 3) (L T P q : Int) : (foundD d L T P q).fWrite = d.fWrite ∧ (foundD d L T P q).fExec = d.fExec := by
  obtain ⟨k, f, w, e, s, fo, so⟩ := d
  dsimp only at hk
  unfold foundD
  dsimp only
  rcases hk with rfl | rfl
  · exact ⟨rfl, rfl⟩
  · cases fo <;> exact ⟨rfl, rfl⟩
section
variable {ws : List Int} {n : Nat} {root : Int}
/-- Leaves of a root whose tables are all unlike, one behind another. -/
structure LeavesAt (ws : List Int) (n : Nat) (root asid : Int) (r : List Int) (S : List Found) : Prop where
  hr : tabsAt ws n 4 0 root = some r
  hnd : r.Nodup
  leaf : ∀ f ∈ S, LeafAt ws n root f
  ord : S.Pairwise fun f g => ownF f < ownF g
  a0 : 0 ≤ asid
  a1 : asid ≤ 255
  n1 : n ≤ 512
  len : ws.length = n * 8
theorem LeavesAt.filter {asid : Int} {r : List Int} {S : List Found} (h : LeavesAt ws n root asid r S) (p : Found → Bool) : LeavesAt ws n root asid r (S.filter p) :=
  { h with leaf := fun f hf => h.leaf f (List.mem_filter.1 hf).1, ord := h.ord.filter p }
theorem LeafAt.wrOk {asid : Int} {f : Found} (h : LeafAt ws n root f) (a0 : 0 ≤ asid) (a1 : asid ≤ 255) (n1 : n ≤ 512) {v : Int} (v0 : 0 ≤ v) (v1 : v < 18446744073709551616) : WrOk n (wrF asid v f) := by
  obtain ⟨d, _, _, _, _, _, t0, t1, p0, p1, _, hkl⟩ := leaf_word h.wk h.kd
  have o0 := h.o0
  have o1 := h.o1
  rcases hkl with ⟨hk, hl⟩ | ⟨hk, hl⟩
  · have hal := leaf_al h hk
    exact ⟨rfl, ⟨2, hl, ⟨a0, a1, by omega, t0, by show f.fTable < 512; omega, p0, p1, o0, o1, by
      show firstP (ownF f) ((2 : Nat) : Int) = ownF f
      have := firstP_block (ownF f)
      rw [hal, Int.sub_zero] at this
      exact this⟩⟩, t1, ⟨v0, v1⟩⟩
  · exact ⟨rfl, ⟨3, hl, ⟨a0, a1, by omega, t0, by show f.fTable < 512; omega, p0, p1, o0, o1, firstP_page _⟩⟩, t1, ⟨v0, v1⟩⟩
theorem wr_apart {asid : Int} {r : List Int} {S : List Found} (h : LeavesAt ws n root asid r S) (v : Found → Int) : (S.map fun f => wrF asid (v f) f).Pairwise apartS := by
  rw [List.pairwise_map]
  refine List.Pairwise.imp_of_mem ?_ h.ord
  intro f g hf hg hlt
  exact leaf_apart h.hr h.hnd (h.leaf f hf) (h.leaf g hg) (by omega)
theorem tellA_in {asid : Int} {S : List Found} (h : ∀ f ∈ S, LeafAt ws n root f) : ∀ x ∈ tellA asid S, x.fKind = 2 ∧ 0 ≤ x.fFirst ∧ x.fFirst < 4096 := by
  intro x hx
  obtain ⟨l, hl, hx⟩ := List.mem_flatten.1 hx
  obtain ⟨f, hf, rfl⟩ := List.mem_map.1 hl
  have hL := h f hf
  have o0 := hL.o0
  have o1 := hL.o1
  refine tellsN_in asid (ownF f) _ o0 ?_ x hx
  unfold pagesF
  split
  · rename_i hk
    have := leaf_al hL hk
    omega
  · omega
theorem odd_leaf {f : Found} (h : LeafAt ws n root f) : ws.getD (idxF f) 0 % 2 = 1 := by
  obtain ⟨d, _, _, he, hdk, _, _⟩ := leaf_word h.wk h.kd
  rw [← he]
  have := h.kd
  exact encW_odd (by omega)
theorem rwF_ok {f : Found} (h : LeafAt ws n root f) (wr ex : Bool) : 0 ≤ rwF ws wr ex f ∧ rwF ws wr ex f < 18446744073709551616 ∧ rwF ws wr ex f % 2 = 1 := by
  obtain ⟨d, hd, hok, he, hdk, _, _⟩ := leaf_word h.wk h.kd
  have hk : d.fKind = 2 ∨ d.fKind = 3 := by have := h.kd; omega
  unfold rwF
  rw [hd]
  have := encW_range (okD_wx hok hk wr ex)
  exact ⟨this.1, this.2, encW_odd (d := wxD d wr ex) (.inr hk)⟩
theorem tells_leaf {asid : Int} {S : List Found} {f : Found} (hf : f ∈ S) (hL : LeafAt ws n root f) (i : Nat) (hi : i < (spanL f.fLevel).toNat) : ∃ s ∈ tellA asid S, s.fAsid = asid ∧ s.fFirst = ownF f + i := by
  obtain ⟨d, _, _, _, _, _, _, _, _, _, _, hkl⟩ := leaf_word hL.wk hL.kd
  have hp : i < (pagesF f).toNat := by
    unfold pagesF
    rcases hkl with ⟨hk, hl⟩ | ⟨hk, hl⟩
    · rw [if_pos hk]
      rw [hl, show spanL 2 = 8 by decide] at hi
      omega
    · rw [if_neg (by omega)]
      rw [hl, show spanL 3 = 1 by decide] at hi
      omega
  obtain ⟨s, hs, h1, h2⟩ := tellsN_has asid (ownF f) _ i hp
  exact ⟨s, List.mem_flatten.2 ⟨_, List.mem_map.2 ⟨f, hf, rfl⟩, hs⟩, h1, h2⟩
/-- What the steps that take leaves away leave. -/
theorem away_behind {asid : Int} {r : List Int} {S : List Found} (h : LeavesAt ws n root asid r S) :
    (∀ x ∈ awayL asid S, StepOk x) ∧ Safe n ws [] (awayL asid S) ∧ Turned ws (doW n ws (awayL asid S)) n root r S ∧ (∀ f ∈ S, (doW n ws (awayL asid S)).getD (idxF f) 0 = 0) ∧ ∀ x ∈ awayL asid S, WrOk n x ∨ x.fKind = 2 := by
  have hW : ∀ s ∈ S.map (wrF asid 0), WrOk n s ∧ s.fValue % 2 = 0 ∧ ws.getD (idxS s) 0 % 2 = 1 := by
    intro s hs
    obtain ⟨f, hf, rfl⟩ := List.mem_map.1 hs
    exact ⟨(h.leaf f hf).wrOk h.a0 h.a1 h.n1 (by omega) (by omega), rfl, odd_leaf (h.leaf f hf)⟩
  have hT := tellA_in (asid := asid) h.leaf
  have hd : doW n ws (awayL asid S) = doW n ws (S.map (wrF asid 0)) := by
    unfold awayL
    rw [doW_append, doW_tells _ _ fun x hx => (hT x hx).1]
  have hA := wr_apart h fun _ => 0
  refine ⟨fun x hx => ?_, ?_, ⟨h.hr, h.hnd, h.leaf, fun j hj => ?_⟩, fun f hf => ?_, fun x hx => ?_⟩
  · rcases List.mem_append.1 hx with hx | hx
    · exact (hW x hx).1.ok
    · obtain ⟨l, hl, hx⟩ := List.mem_flatten.1 hx
      obtain ⟨f, hf, rfl⟩ := List.mem_map.1 hl
      obtain ⟨i, _, rfl⟩ := List.mem_map.1 hx
      exact ⟨show (0 : Int) ≤ 0 by omega, show (0 : Int) < 18446744073709551616 by omega⟩
  · unfold awayL
    refine safe_closes _ ws [] _ (fun s hs => ⟨(hW s hs).1, (hW s hs).2.1, (hW s hs).2.2, fun g hg => by cases hg⟩) hA ?_
    have := safe_tells (n := n) (ws := doW n ws (S.map (wrF asid 0))) (tellA asid S) ([] ++ (S.map (wrF asid 0)).map gapS) [] hT (.nil _ _)
    rwa [List.append_nil] at this
  · rw [hd]
    refine writes_off _ _ _ (fun s hs => (hW s hs).1) fun s hs => ?_
    obtain ⟨f, hf, rfl⟩ := List.mem_map.1 hs
    exact hj f hf
  · rw [hd]
    exact writes_at _ _ (fun s hs => (hW s hs).1) hA h.len _ (List.mem_map.2 ⟨f, hf, rfl⟩)
  · rcases List.mem_append.1 hx with hx | hx
    · exact .inl (hW x hx).1
    · exact .inr (hT x hx).1
/-- What the steps that turn leaves' rights leave. -/
theorem rights_behind {asid : Int} {r : List Int} {S : List Found} (h : LeavesAt ws n root asid r S) (wr ex : Bool) :
    (∀ x ∈ awayL asid S ++ setL ws asid wr ex S, StepOk x) ∧ Safe n ws [] (awayL asid S ++ setL ws asid wr ex S) ∧ Turned ws (doW n ws (awayL asid S ++ setL ws asid wr ex S)) n root r S ∧ (∀ f ∈ S, (doW n ws (awayL asid S ++ setL ws asid wr ex S)).getD (idxF f) 0 = rwF ws wr ex f) ∧ ∀ x ∈ awayL asid S ++ setL ws asid wr ex S, WrOk n x ∨ x.fKind = 2 := by
  obtain ⟨h1, h2, h3, h4, h5⟩ := away_behind h
  have hT := tellA_in (asid := asid) h.leaf
  have hd : doW n ws (awayL asid S) = doW n ws (S.map (wrF asid 0)) := by
    unfold awayL
    rw [doW_append, doW_tells _ _ fun x hx => (hT x hx).1]
  have hO : ∀ s ∈ setL ws asid wr ex S, WrOk n s ∧ s.fValue % 2 = 1 := by
    intro s hs
    obtain ⟨f, hf, rfl⟩ := List.mem_map.1 hs
    obtain ⟨v0, v1, v2⟩ := rwF_ok (h.leaf f hf) wr ex
    exact ⟨(h.leaf f hf).wrOk h.a0 h.a1 h.n1 v0 v1, v2⟩
  have hA := wr_apart h (rwF ws wr ex)
  have hl2 : (doW n ws (awayL asid S)).length = n * 8 := by rw [doW_len]; exact h.len
  refine ⟨fun x hx => ?_, ?_, ⟨h.hr, h.hnd, h.leaf, fun j hj => ?_⟩, fun f hf => ?_, fun x hx => ?_⟩
  · rcases List.mem_append.1 hx with hx | hx
    · exact h1 x hx
    · exact (hO x hx).1.ok
  · have hs := safe_swap (n := n) (ws := ws) (C := S.map (wrF asid 0)) (T := tellA asid S) (O := setL ws asid wr ex S) (rest := [])
      (fun s hs => by
        obtain ⟨f, hf, rfl⟩ := List.mem_map.1 hs
        exact ⟨(h.leaf f hf).wrOk h.a0 h.a1 h.n1 (by omega) (by omega), rfl, odd_leaf (h.leaf f hf)⟩) (wr_apart h fun _ => 0) hT
      (fun c hc i hi => by
        obtain ⟨f, hf, rfl⟩ := List.mem_map.1 hc
        exact tells_leaf hf (h.leaf f hf) i hi)
      (fun s hs => ⟨(hO s hs).1, (hO s hs).2, by
        obtain ⟨f, hf, rfl⟩ := List.mem_map.1 hs
        have := h4 f hf
        rw [hd] at this
        show (doW n ws (S.map (wrF asid 0))).getD (idxF f) 0 % 2 = 0
        rw [this]
        rfl⟩) hA (fun G' _ => .nil _ _)
    unfold awayL
    rw [List.append_nil] at hs
    rw [List.append_assoc]
    exact hs
  · rw [doW_append, writes_off _ _ _ (fun s hs => (hO s hs).1) fun s hs => ?_]
    · exact h3.off j hj
    · obtain ⟨f, hf, rfl⟩ := List.mem_map.1 hs
      exact hj f hf
  · rw [doW_append]
    exact writes_at _ _ (fun s hs => (hO s hs).1) hA hl2 _ (List.mem_map.2 ⟨f, hf, rfl⟩)
  · rcases List.mem_append.1 hx with hx | hx
    · exact h5 x hx
    · exact .inl (hO x hx).1

/-- All leaves of pages, none of which is one of more. -/
structure PlanAt (ws : List Int) (n : Nat) (root asid a b : Int) (r : List Int) (l : List Found) : Prop where
  lv : LeavesAt ws n root asid r l
  inn : ∀ f, LeafAt ws n root f → (f ∈ l ↔ inF a b f = true)
  bey : ∀ f ∈ l, beyF a b f = false
  ab0 : 0 ≤ a
  ab1 : b ≤ 4096
theorem plan_at {asid a b : Int} {r : List Int} {l : List Found} (hl : wholeRes asid a b (leavesRes ws n root a b) = .yes l) (hr : tabsAt ws n 4 0 root = some r) (hnd : r.Nodup) (n1 : n ≤ 512) (hw : ws.length = n * 8) : PlanAt ws n root asid a b r l := by
  unfold leavesRes at hl
  by_cases h1 : a < 0 ∨ b ≤ a ∨ 4096 < b
  · rw [if_pos h1] at hl; cases hl
  · rw [if_neg h1] at hl
    by_cases h2 : 0 ≤ root ∧ root < n
    · rw [if_neg (by simpa using h2)] at hl
      cases hall : wholeAt ws n root 4097 0 with
      | none => rw [hall] at hl; cases hl
      | some all =>
        rw [hall] at hl
        unfold wholeRes at hl
        dsimp only at hl
        split at hl
        · cases hl
        · rename_i ha
          split at hl
          · cases hl
          · rename_i hb
            injection hl with hl
            rw [whole_pages] at hall
            obtain ⟨m1, m2, m3⟩ := pages_mem 4097 0 all (by omega) hall
            subst hl
            refine ⟨⟨hr, hnd, fun f hf => (m1 f (List.mem_filter.1 hf).1).1, m2.filter _, by omega, by omega, n1, hw⟩, fun f hf => ?_, fun f hf => ?_, by omega, by omega⟩
            · rw [List.mem_filter]
              exact ⟨fun h => h.2, fun h => ⟨m3 f hf hf.o0, h⟩⟩
            · cases hq : beyF a b f with
              | false => rfl
              | true => exact absurd (List.any_eq_true.2 ⟨f, hf, hq⟩) hb
    · rw [if_pos (by simpa using h2)] at hl; cases hl
/-- Is a page one of these, of a leaf? -/
def hitP (a b q : Int) (x : Found) : Prop := a ≤ q ∧ q < b ∧ (x.fKind = 2 ∨ x.fKind = 3)
theorem PlanAt.hit {asid a b : Int} {r : List Int} {l : List Found} (h : PlanAt ws n root asid a b r l) {q : Int} (q0 : 0 ≤ q) (q1 : q < 4096) {x : Found} (hx : walkAt ws n q 4 0 root = some x) : hitP a b q x ↔ ∃ f ∈ l, f.fTable = x.fTable ∧ f.fPlace = x.fPlace := by
  constructor
  · rintro ⟨h1, h2, h3⟩
    obtain ⟨f, hf, e1, e2, e3, e4, e5⟩ := leaf_of q0 q1 hx h3
    refine ⟨f, (h.inn f hf).2 ?_, e1, e2⟩
    unfold inF pagesF
    rw [Bool.and_eq_true, decide_eq_true_eq, decide_eq_true_eq, e4]
    rcases e5 with ⟨hk, _, ho⟩ | ⟨hk, ho⟩
    · rw [if_neg (by omega)]; omega
    · rw [if_pos hk]; omega
  · rintro ⟨f, hf, e1, e2⟩
    have hL := h.lv.leaf f hf
    obtain ⟨f1, f2, f3⟩ := leaf_same h.lv.hr h.lv.hnd q0 q1 hL hx e1.symm e2.symm
    have hb := h.bey f hf
    have hi := (h.inn f hL).1 hf
    unfold inF pagesF at hi
    rw [Bool.and_eq_true, decide_eq_true_eq, decide_eq_true_eq] at hi
    unfold beyF at hb
    rw [Bool.or_eq_false_iff, decide_eq_false_iff_not, decide_eq_false_iff_not] at hb
    have hk := hL.kd
    rcases f3 with ⟨hk3, ho⟩ | ⟨hk2, ho⟩
    · rw [if_neg (by omega)] at hi
      exact ⟨by omega, by omega, by omega⟩
    · have hfk : f.fKind = 2 := by omega
      obtain ⟨d, _, _, _, hdk, hfx, _⟩ := leaf_word hL.wk hL.kd
      have hord : f.fOrder = 3 := by rw [hfx]; unfold foundD; rw [if_pos (by omega)]
      have hof : ownF f = f.fFirst := by unfold ownF; rw [if_pos hfk]
      unfold powF at hb
      rw [if_pos hord] at hb
      exact ⟨by omega, by omega, by omega⟩
theorem tabs_walk' {r : List Int} (hr : tabsAt ws n 4 0 root = some r) (q : Int) : ∃ x, walkAt ws n q 4 0 root = some x := tabs_walk (page := q) 3 0 root r (by omega) (by omega) hr
/-- What is found behind Clear's steps. -/
theorem clear_finds {asid a b : Int} {r : List Int} {l : List Found} (h : PlanAt ws n root asid a b r l) {us : List Int} (hT : Turned ws us n root r l) (hz : ∀ f ∈ l, us.getD (idxF f) 0 = 0) (q : Int) (q0 : 0 ≤ q) (q1 : q < 4096) :
    ∃ x y, walkAt ws n q 4 0 root = some x ∧ walkAt us n q 4 0 root = some y ∧ (hitP a b q x → y.fKind = 0) ∧ (¬ hitP a b q x → y = x) := by
  obtain ⟨x, hx⟩ := tabs_walk' h.lv.hr q
  by_cases hh : hitP a b q x
  · obtain ⟨f, hf, e1, e2⟩ := (h.hit q0 q1 hx).1 hh
    obtain ⟨d, _, _, _, _, _, _, _, _, _, _, hkl⟩ := leaf_word hx hh.2.2
    have hzz : us.getD (idxF x) 0 = 0 := by
      have := hz f hf
      unfold idxF at this ⊢
      rwa [e1, e2] at this
    have hat := hT.at_ hx (d := noneD) (by rw [hzz]; exact dec_nil _ (by omega) (by omega)) (by decide)
    exact ⟨x, _, hx, hat, fun _ => (foundD_parts _ _ _ _ _).2.2.2, fun hn => absurd hh hn⟩
  · exact ⟨x, x, hx, hT.else_ hx (fun f hf hc => hh ((h.hit q0 q1 hx).2 ⟨f, hf, hc⟩)), fun hc => absurd hc hh, fun _ => rfl⟩
/-- What is found behind the steps of Rights. -/
theorem rights_finds {asid a b : Int} {r : List Int} {l : List Found} (h : PlanAt ws n root asid a b r l) (wr ex : Bool) {us : List Int} (hT : Turned ws us n root r (l.filter (chF wr ex))) (hz : ∀ f ∈ l.filter (chF wr ex), us.getD (idxF f) 0 = rwF ws wr ex f) (q : Int) (q0 : 0 ≤ q) (q1 : q < 4096) :
    ∃ x y, walkAt ws n q 4 0 root = some x ∧ walkAt us n q 4 0 root = some y ∧ (hitP a b q x → y = wxF wr ex x) ∧ (¬ hitP a b q x → y = x) := by
  obtain ⟨x, hx⟩ := tabs_walk' h.lv.hr q
  by_cases hh : hitP a b q x
  · obtain ⟨f, hf, e1, e2⟩ := (h.hit q0 q1 hx).1 hh
    obtain ⟨d, hd, hok, _, hdk, hxx, _, _, _, _, _, hkl⟩ := leaf_word hx hh.2.2
    have hkd : d.fKind = 2 ∨ d.fKind = 3 := by have := hh.2.2; omega
    have hL := h.lv.leaf f hf
    obtain ⟨f1, f2, f3⟩ := leaf_same h.lv.hr h.lv.hnd q0 q1 hL hx e1.symm e2.symm
    have hidx : idxF f = idxF x := by unfold idxF; rw [e1, e2]
    obtain ⟨d', hd', _, _, hdk', hff, _⟩ := leaf_word hL.wk hL.kd
    have hdd : d' = d := by rw [← hd', ← hd, hidx, f1]
    subst hdd
    obtain ⟨w1, w2⟩ := foundD_we hkd f.fLevel f.fTable f.fPlace (ownF f)
    rw [← hff] at w1 w2
    obtain ⟨x1, x2⟩ := foundD_we hkd x.fLevel x.fTable x.fPlace q
    rw [← hxx] at x1 x2
    cases hc : chF wr ex f with
    | true =>
      have hz := hz f (List.mem_filter.2 ⟨hf, hc⟩)
      rw [hidx] at hz
      have hrw : rwF ws wr ex f = encW (wxD d' wr ex) := by unfold rwF; rw [hd']
      rw [hrw] at hz
      have hat := hT.at_ hx (d := wxD d' wr ex) (by rw [hz]; exact dec_enc (okD_wx hok hkd wr ex)) (by show d'.fKind ≠ 1; omega)
      rw [foundD_wx hkd, ← hxx] at hat
      exact ⟨x, _, hx, hat, fun _ => rfl, fun hn => absurd hh hn⟩
    | false =>
      unfold chF at hc
      rw [Bool.or_eq_false_iff] at hc
      have c1 : f.fWrite = wr := by simpa using hc.1
      have c2 : f.fExec = ex := by simpa using hc.2
      have hxe : x = wxF wr ex x := by
        unfold wxF
        rw [← c1, ← c2, w1, w2, ← x1, ← x2]
      refine ⟨x, x, hx, hT.else_ hx fun g hg hgc => ?_, fun _ => hxe, fun _ => rfl⟩
      obtain ⟨hg, hgch⟩ := List.mem_filter.1 hg
      have hG := h.lv.leaf g hg
      have hfg : ownF g = ownF f := by
        by_cases e : ownF g = ownF f
        · exact e
        · exact absurd ⟨by omega, by omega⟩ (leaf_apart h.lv.hr h.lv.hnd hG hL e)
      have : g = f := by
        have h1 := hG.wk
        have h2 := hL.wk
        rw [hfg, h2] at h1
        exact (Option.some.inj h1).symm
      subst this
      unfold chF at hgch
      simp [c1, c2] at hgch
  · exact ⟨x, x, hx, hT.else_ hx (fun f hf hc => hh ((h.hit q0 q1 hx).2 ⟨f, (List.mem_filter.1 hf).1, hc⟩)), fun hc => absurd hc hh, fun _ => rfl⟩
end

end Go.Proofs.Ytapeoeakiphfpaa

/- The contract of plan.Rights. -/
namespace Go.Proofs.Ytapeoeakiphfpaa
open Go.RowKit
set_option linter.unusedVariables false
set_option linter.unusedSimpArgs false
attribute [local go_sem] setCell_drewN alloc_drewN lt_moreE le_moreE lt_moreK le_moreK cell_more frozen_more set_more drew_more drewN_more

/-- A leaf whose word may bear other rights. -/
structure WithOk (ws : List Int) (n : Nat) (wr ex : Bool) (f : Found) : Prop where
  l0 : 0 ≤ f.fLevel
  l1 : f.fLevel ≤ 3
  t0 : 0 ≤ f.fTable
  t1 : f.fTable < n
  q0 : 0 ≤ f.fPlace
  q1 : f.fPlace < 8
  ok : okD f.fLevel (wxD (decD f.fLevel (ws.getD (f.fTable.toNat * 8 + f.fPlace.toNat) 0)) wr ex) = true
theorem with_ok {ws : List Int} {n : Nat} {root asid a b : Int} {l : List Found} (h : wholeRes asid a b (leavesRes ws n root a b) = .yes l) (wr ex : Bool) : ∀ f ∈ l, WithOk ws n wr ex f := by
  intro f hf
  unfold leavesRes at h
  split at h
  · cases h
  · split at h
    · cases h
    · split at h
      · cases h
      · rename_i all hall
        unfold wholeRes at h
        dsimp only at h
        split at h
        · cases h
        · split at h
          · cases h
          · injection h with h
            subst h
            obtain ⟨hk, q, _, _, hq⟩ := whole_mem 4097 0 all (by omega) hall f (List.mem_filter.1 hf).1
            obtain ⟨d, hd, hok, _, hdk, _, t0, t1, p0, p1, _, hl⟩ := leaf_word hq hk
            refine ⟨by omega, by omega, t0, t1, p0, p1, ?_⟩
            have hd : decD f.fLevel (ws.getD (f.fTable.toNat * 8 + f.fPlace.toNat) 0) = d := hd
            rw [hd]
            exact okD_wx hok (by omega) wr ex
set_option maxRecDepth 100000 in
set_option maxHeartbeats 8000000 in
theorem plan_Rights (w : World) {b g n c : Nat} {ws : List Int} (hm : MemAt w b g n c ws) (hw : WOk ws) (root asid from_ to : Int) (hto : (Lit.int .i64 to).wf = true) (wr ex : Bool) (Q : LeavesR) (hQ : wholeRes asid from_ to (leavesRes ws n root from_ to) = Q) :
    Calls Try.prog 47 #[.pointer (some ⟨b, 0, none⟩), .int .i64 root, .int .i64 asid, .int .i64 from_, .int .i64 to, .bool wr, .bool ex] w fun e w' => Ext w w' ∧ StepsRet w.heap.size w' (rightsRes ws asid wr ex Q) e := by
  have HL := Lib.hid (plan_whole w hm hw root asid from_ to hto _ rfl Q hQ)
  have hok := whole_ok2 (leaves_ok ws n root from_ to) hQ
  cases Q with
  | no k =>
    clear hm hw hQ hto hok
    go_enter Try.func47, Try.ntmps47
    go_wp2_with fail
    refine HL.out.mono ?_
    rintro e w' ⟨⟨ex1, rfl⟩, rfl⟩
    go_wp2_with fail
    go_ret2
    exact ⟨(by repeat (first | exact Ext.refl _ | apply Ext.more | apply Ext.alloc | apply Ext.drew | apply Ext.drewN)), rfl⟩
  | yes l =>
    obtain ⟨hln, hk⟩ := hok l rfl
    have hwo := with_ok hQ wr ex
    have HA := Lib.hid (fun w B cap a (S : List Found) (hS : ∀ f ∈ S, FOk f) (hSl : S.length ≤ 5000) hO => plan_away w (B := B) (cap := cap) (a := a) (l := S) hO hS hSl asid)
    have HK := Lib.hid hk
    have HWO := Lib.hid hwo
    have HM := Lib.hid hm
    have HWs := Lib.hid hw
    clear hm hw hQ hto hok hk hwo
    go_enter Try.func47, Try.ntmps47
    go_wp2_with fail
    refine HL.out.mono ?_
    rintro e w' ⟨⟨ex1, rfl⟩, a, cap, rfl, hO⟩
    have hoc := own_cap hO
    have hm' : cap ≤ 9223372036854775807 := by have := hoc.2.2; unfold maxLen at this; exact this
    have hcl := hoc.2.1
    have HAt := Lib.hid (own_at hO)
    clear hO hoc
    go_wp2_with fail
    go_loopw [18, 40] (fun o i wr' => ∃ q : Nat, q ≤ l.length ∧ i = .int .i64 q ∧ Ext (more w ex1) wr' ∧ Hid (wr'.ownsRow (more w ex1).heap.size 80 11 o ((l.take q).filter (chF wr ex)).length (((l.take q).filter (chF wr ex)).map Found.cells).flatten)) (fun _ i _ => l.length - (intOf i).toNat)
    case atStart => exact ⟨0, by omega, rfl, (by repeat (first | exact Ext.refl _ | apply Ext.more | apply Ext.alloc | apply Ext.drew | apply Ext.drewN)), World.ownsRow_nil _ _ _ _⟩
    case round =>
      obtain ⟨q, hq, rfl, ⟨x, rfl⟩, HO⟩ := hrel
      by_cases hlt : q < l.length
      · obtain ⟨gr, rfl, _, hgr, _, hx, _⟩ := HAt.out (by omega)
        have hz : l[q]? = some l[q] := List.getElem?_eq_getElem hlt
        obtain ⟨x0, x1, x2, x3, x4, x5, x6, x7, x8, x9, x10⟩ := found_at hx q _ hz
        have htk : (l.take (q + 1)).filter (chF wr ex) = (l.take q).filter (chF wr ex) ++ (if chF wr ex l[q] then [l[q]] else []) := by rw [take_snoc hz, filter_snoc]
        have HTk := Lib.hid htk
        have HFl : ((l.take q).filter (chF wr ex)).length ≤ q := by have := List.length_filter_le (chF wr ex) (l.take q); rw [List.length_take] at this; omega
        obtain ⟨out, hout⟩ : ∃ out, (l.take q).filter (chF wr ex) = out := ⟨_, rfl⟩
        rw [hout] at HTk HO HFl
        have hchf : ∀ f, chF wr ex f = (!(f.fWrite == wr) || !(f.fExec == ex)) := fun f => rfl
        rw [hchf] at HTk
        clear htk hz hx hout hchf
        generalize l[q] = z at *
        obtain ⟨F0, F1, F2, F3, F4, F5, F6, F7, F8, F9, F10⟩ := z
        dsimp only at x0 x1 x2 x3 x4 x5 x6 x7 x8 x9 x10 HTk
        cases h8 : (F8 == wr) with
        | false =>
          have hn8 : (F8 != wr) = true := by rw [bne, h8]; rfl
          have HTy := Lib.hid (show (l.take (q + 1)).filter (chF wr ex) = out ++ [⟨F0, F1, F2, F3, F4, F5, F6, F7, F8, F9, F10⟩] from by rw [HTk.out, h8]; rfl)
          clear HTk
          go_wp2_with ((at_builtin; refine wpList_append_new (more w ex1) el_Found rfl _ _ rfl u18 out.length _ rfl (by repeat (first | exact HO.out | apply own_more | apply own_alloc | apply own_drew | apply own_drewN)) (by repeat (first | exact Ext.refl _ | apply Ext.more | apply Ext.alloc | apply Ext.drew | apply Ext.drewN)) _ _ 1 _ rfl (by simp) rfl rfl (by omega) ?_); intro v' x' HO' keep; clear keep)
          go_roundw
          case rel => exact ⟨q + 1, by omega, by go_num, (by repeat (first | exact Ext.refl _ | apply Ext.more | apply Ext.alloc | apply Ext.drew | apply Ext.drewN)), by
            show World.ownsRow _ _ _ _ _ _ _
            rw [HTy.out]
            simpa [Found.cells] using HO'.out⟩
          case measure => simp [intOf]; omega
        | true =>
          have hn8 : (F8 != wr) = false := by rw [bne, h8]; rfl
          cases h9 : (F9 == ex) with
          | false =>
            have hn9 : (F9 != ex) = true := by rw [bne, h9]; rfl
            have HTy := Lib.hid (show (l.take (q + 1)).filter (chF wr ex) = out ++ [⟨F0, F1, F2, F3, F4, F5, F6, F7, F8, F9, F10⟩] from by rw [HTk.out, h8, h9]; rfl)
            clear HTk
            go_wp2_with ((at_builtin; refine wpList_append_new (more w ex1) el_Found rfl _ _ rfl u18 out.length _ rfl (by repeat (first | exact HO.out | apply own_more | apply own_alloc | apply own_drew | apply own_drewN)) (by repeat (first | exact Ext.refl _ | apply Ext.more | apply Ext.alloc | apply Ext.drew | apply Ext.drewN)) _ _ 1 _ rfl (by simp) rfl rfl (by omega) ?_); intro v' x' HO' keep; clear keep)
            go_roundw
            case rel => exact ⟨q + 1, by omega, by go_num, (by repeat (first | exact Ext.refl _ | apply Ext.more | apply Ext.alloc | apply Ext.drew | apply Ext.drewN)), by
              show World.ownsRow _ _ _ _ _ _ _
              rw [HTy.out]
              simpa [Found.cells] using HO'.out⟩
            case measure => simp [intOf]; omega
          | true =>
            have hn9 : (F9 != ex) = false := by rw [bne, h9]; rfl
            have HTn := Lib.hid (show (l.take (q + 1)).filter (chF wr ex) = out from by rw [HTk.out, h8, h9]; exact List.append_nil _)
            clear HTk
            go_wp2_with fail
            go_roundw
            case rel => exact ⟨q + 1, by omega, by go_num, (by repeat (first | exact Ext.refl _ | apply Ext.more | apply Ext.alloc | apply Ext.drew | apply Ext.drewN)), by
              show World.ownsRow _ _ _ _ _ _ _
              rw [HTn.out]
              exact (by repeat (first | (with_reducible apply own_alloc) | (with_reducible apply own_drew) | (with_reducible apply own_drewN) | exact HO.out | (with_reducible apply own_more)))⟩
            case measure => simp [intOf]; omega
      · obtain rfl : q = l.length := by omega
        rw [List.take_length] at HO
        clear HAt hlt
        have HKs := Lib.hid (show ∀ f ∈ l.filter (chF wr ex), FOk f from fun f hf => HK.out f (List.mem_filter.1 hf).1)
        have HWs2 := Lib.hid (show ∀ f ∈ l.filter (chF wr ex), WithOk ws n wr ex f from fun f hf => HWO.out f (List.mem_filter.1 hf).1)
        have hSl : (l.filter (chF wr ex)).length ≤ 5000 := by have := List.length_filter_le (chF wr ex) l; omega
        have hres : rightsRes ws asid wr ex (.yes l) = .yes (awayL asid (l.filter (chF wr ex)) ++ setL ws asid wr ex (l.filter (chF wr ex))) := rfl
        have HRes := Lib.hid hres
        clear hres
        generalize l.filter (chF wr ex) = S at *
        obtain ⟨a, cap, rfl⟩ := own_form HO.out
        have HMc := Lib.hid (show MemAt (more (more w ex1) x) b g n c ws from (by repeat (first | exact HM.out | apply MemAt.more | apply MemAt.alloc | apply MemAt.drew | apply MemAt.drewN)))
        have hBc : w.heap.size ≤ (more (more w ex1) x).heap.size := by simp only [size_more]; omega
        have HEc := Lib.hid (show Ext w (more (more w ex1) x) from (by repeat (first | exact Ext.refl _ | apply Ext.more | apply Ext.alloc | apply Ext.drew | apply Ext.drewN)))
        generalize more (more w ex1) x = Wc at *
        have hoc := own_cap HO.out
        have hm' : cap ≤ 9223372036854775807 := by have := hoc.2.2; unfold maxLen at this; exact this
        have hcl := hoc.2.1
        have HAt := Lib.hid (own_at HO.out)
        clear hoc HM HK HWO HL
        go_wp2_with fail
        refine (HA.out _ _ _ _ S HKs.out hSl HO.out).mono ?_
        rintro e w' ⟨⟨ex2, rfl⟩, a2, c2, rfl, hO2⟩
        have hAl : (awayL asid S).length ≤ 50000 := by unfold awayL; have := tellA_len asid S; simp; omega
        generalize awayL asid S = A at *
        have HO2 := Lib.hid hO2
        clear hO2 HA
        go_wp2_with fail
        go_loopw [21, 64] (fun o i wr' => ∃ q : Nat, q ≤ S.length ∧ i = .int .i64 q ∧ Ext Wc wr' ∧ Hid (wr'.ownsRow Wc.heap.size 73 10 o (A.length + q) (CS A ++ CS (setL ws asid wr ex (S.take q))))) (fun _ i _ => S.length - (intOf i).toNat)
        case atStart => exact ⟨0, by omega, rfl, (by repeat (first | exact Ext.refl _ | apply Ext.more | apply Ext.alloc | apply Ext.drew | apply Ext.drewN)), by
          show World.ownsRow _ _ _ _ _ (A.length + 0) (CS A ++ [])
          rw [List.append_nil]
          exact HO2.out⟩
        case round =>
          obtain ⟨q, hq, rfl, ⟨x, rfl⟩, HO3⟩ := hrel
          by_cases hlt : q < S.length
          · obtain ⟨gr, rfl, _, hgr, _, hx, _⟩ := HAt.out (by omega)
            obtain ⟨hg1, hg2, hg3⟩ := lt_facts hgr
            have hz : S[q]? = some S[q] := List.getElem?_eq_getElem hlt
            obtain ⟨x0, x1, x2, x3, x4, x5, x6, x7, x8, x9, x10⟩ := found_at hx q _ hz
            have hok := HKs.out _ (List.getElem_mem hlt)
            have hwo := HWs2.out _ (List.getElem_mem hlt)
            have E := Lib.hid (show CS (setL ws asid wr ex (S.take (q + 1))) = CS (setL ws asid wr ex (S.take q)) ++ (wrF asid (rwF ws wr ex S[q]) S[q]).cells from by
              unfold setL
              rw [take_snoc hz, List.map_append, List.map_cons, List.map_nil, CS_snoc])
            have HWi := Lib.hid (fun w (hm : MemAt w b g n c ws) => plan_with w hm HWs.out S[q] wr ex _ hwo.l0 hwo.l1 hwo.t0 hwo.t1 hwo.q0 hwo.q1 rfl hwo.ok)
            have hrw : encW (wxD (decD S[q].fLevel (ws.getD (S[q].fTable.toNat * 8 + S[q].fPlace.toNat) 0)) wr ex) = rwF ws wr ex S[q] := rfl
            rw [hrw] at HWi
            generalize rwF ws wr ex S[q] = V at *
            have HWr := Lib.hid (fun w => plan_write w _ hok asid V)
            have hwf : wrF asid V S[q] = ⟨1, asid, S[q].fLevel, S[q].fTable, S[q].fPlace, ownF S[q], V, 0, 0, 0⟩ := rfl
            rw [hwf] at E
            clear hz hx hok hwo hrw hwf
            generalize S[q] = z at *
            generalize ownF z = O at *
            obtain ⟨F0, F1, F2, F3, F4, F5, F6, F7, F8, F9, F10⟩ := z
            dsimp only at x0 x1 x2 x3 x4 x5 x6 x7 x8 x9 x10 E HWr HWi
            go_wp2_with fail
            refine (HWi.out _ (by repeat (first | exact HMc.out | apply MemAt.more | apply MemAt.alloc | apply MemAt.drew | apply MemAt.drewN))).mono ?_
            rintro e w' ⟨⟨ex3, rfl⟩, rfl⟩
            go_wp2_with fail
            refine (HWr.out _).mono ?_
            rintro e w' ⟨⟨ex4, rfl⟩, rfl⟩
            go_wp2_with ((at_builtin; refine wpList_append_new Wc el_Step rfl _ _ rfl u21 (A.length + q) _ rfl (by repeat (first | exact HO3.out | apply own_more | apply own_alloc | apply own_drew | apply own_drewN)) (by repeat (first | exact Ext.refl _ | apply Ext.more | apply Ext.alloc | apply Ext.drew | apply Ext.drewN)) _ _ 1 _ rfl (by simp) rfl rfl (by omega) ?_); intro v' x' HO' keep; clear keep)
            go_roundw
            case rel => exact ⟨q + 1, by omega, by go_num, (by repeat (first | exact Ext.refl _ | apply Ext.more | apply Ext.alloc | apply Ext.drew | apply Ext.drewN)), by
              show World.ownsRow _ _ _ _ _ _ _
              rw [E.out, ← List.append_assoc]
              exact HO'.out⟩
            case measure => simp [intOf]; omega
          · obtain rfl : q = S.length := by omega
            rw [List.take_length] at HO3
            go_wp2_with fail
            go_ret2
            exact ⟨(by repeat (first | exact HEc.out | apply Ext.more | apply Ext.alloc | apply Ext.drew | apply Ext.drewN)), stepsRet_yes HRes.out HO3.out hBc (by simp [setL]) (by rw [← CS_append])⟩

end Go.Proofs.Ytapeoeakiphfpaa

/- Plain: how many steps Clear and Rights tell. -/
namespace Go.Proofs.Ytapeoeakiphfpaa
open Go.RowKit
set_option linter.unusedVariables false
set_option linter.unusedSimpArgs false

theorem rightsL_len (ws : List Int) (asid : Int) (wr ex : Bool) (l : List Found) : (rightsL ws asid wr ex l).length ≤ 10 * l.length := by
  unfold rightsL setL awayL
  have h1 := tellA_len asid (l.filter (chF wr ex))
  have h2 := List.length_filter_le (chF wr ex) l
  simp only [List.length_append, List.length_map]
  omega
theorem awayL_len (asid : Int) (l : List Found) : (awayL asid l).length ≤ 9 * l.length := by
  unfold awayL
  have h1 := tellA_len asid l
  simp only [List.length_append, List.length_map]
  omega

end Go.Proofs.Ytapeoeakiphfpaa
