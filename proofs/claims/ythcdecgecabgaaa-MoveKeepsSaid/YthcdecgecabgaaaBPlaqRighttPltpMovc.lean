import Derived.Test.YthcdecgecabgaaaBPlapHugp
import Derived.Test.YthcdecgecabgaaaBMerglMerkMovdRights
import Derived.Test.YthcdecgecabgaaaMovb
import Derived.Test.YthcdecgecabgaaaBSemwSamqPrunsKeeq
import Derived.StillTailTactics
/- Plain laws behind PlanKeeps and PlanTwice: what the steps of Clear and of Rights do. -/
namespace Go.Proofs.Ythcdecgecabgaaa
open Go.RowKit
set_option linter.unusedVariables false
set_option linter.unusedSimpArgs false

theorem doW_tells {n : Nat} : ∀ (T : List Step) (vs : List Int), (∀ x ∈ T, x.fKind = 2) → doW n vs T = vs := by
  intro T
  induction T with
  | nil => intro vs _; rfl
  | cons x T ih => intro vs h; rw [doW_cons, stepW_none (by rw [h x (.head _)]; omega) (by rw [h x (.head _)]; omega) (by rw [h x (.head _)]; omega)]; exact ih vs fun y hy => h y (.tail _ hy)
/-- A leaf's word with other rights. -/
def rwF (ws : List Int) (wr ex : Bool) (f : Found) : Int := encW (wxD (decD f.fLevel (ws.getD (idxF f) 0)) wr ex)
def chF (wr ex : Bool) (f : Found) : Bool := !(f.fWrite == wr) || !(f.fExec == ex)
def setL (ws : List Int) (asid : Int) (wr ex : Bool) (l : List Found) : List Step := l.map fun f => wrF asid (rwF ws wr ex f) f
def rightsL (ws : List Int) (asid : Int) (wr ex : Bool) (l : List Found) : List Step := awayL asid (l.filter (chF wr ex)) ++ setL ws asid wr ex (l.filter (chF wr ex))
def rightsRes (ws : List Int) (asid : Int) (wr ex : Bool) : LeavesR → StepsR
  | .no k => .no k
  | .yes l => .yes (rightsL ws asid wr ex l)
def wxF (wr ex : Bool) (f : Found) : Found := { f with fWrite := wr, fExec := ex }
theorem okD_wx {lv : Int} {d : Desc} (h : okD lv d = true) (hk : d.fKind = 2 ∨ d.fKind = 3) (wr ex : Bool) : okD lv (wxD d wr ex) = true := by
  obtain ⟨k, f, w, e, s, fo, so⟩ := d
  dsimp only at hk
  show okD lv ⟨k, f, wr, ex, s, fo, so⟩ = true
  rcases hk with rfl | rfl
  · simp [okD, mayD] at h ⊢
    exact h
  · simp [okD, mayD] at h ⊢
    exact h
theorem foundD_wx {d : Desc} (hk : d.fKind = 2 ∨ d.fKind = 3) (wr ex : Bool) (L T P q : Int) : foundD (wxD d wr ex) L T P q = wxF wr ex (foundD d L T P q) := by
  obtain ⟨k, f, w, e, s, fo, so⟩ := d
  dsimp only at hk
  unfold foundD wxF wxD
  dsimp only
  rcases hk with rfl | rfl
  · rfl
  · cases fo <;> rfl
theorem foundD_we {d : Desc} (hk : d.fKind = 2 ∨ d.fKind = 3) (L T P q : Int) : (foundD d L T P q).fWrite = d.fWrite ∧ (foundD d L T P q).fExec = d.fExec := by
  obtain ⟨k, f, w, e, s, fo, so⟩ := d
  dsimp only at hk
  unfold foundD
  dsimp only
  rcases hk with rfl | rfl
  · exact ⟨rfl, rfl⟩
  · cases fo <;> exact ⟨rfl, rfl⟩
section
variable {ws : List Int} {n : Nat} {root : Int}
/-- Leaves of a root whose tables are all unlike, one behind another. -/
structure LeavesAt (ws : List Int) (n : Nat) (root asid : Int) (r : List Int) (S : List Found) : Prop where
  hr : tabsAt ws n 4 0 root = some r
  hnd : r.Nodup
  leaf : ∀ f ∈ S, LeafAt ws n root f
  ord : S.Pairwise fun f g => ownF f < ownF g
  a0 : 0 ≤ asid
  a1 : asid ≤ 255
  n1 : n ≤ 512
  len : ws.length = n * 8
theorem LeavesAt.filter {asid : Int} {r : List Int} {S : List Found} (h : LeavesAt ws n root asid r S) (p : Found → Bool) : LeavesAt ws n root asid r (S.filter p) :=
  { h with leaf := fun f hf => h.leaf f (List.mem_filter.1 hf).1, ord := h.ord.filter p }
theorem LeafAt.wrOk {asid : Int} {f : Found} (h : LeafAt ws n root f) (a0 : 0 ≤ asid) (a1 : asid ≤ 255) (n1 : n ≤ 512) {v : Int} (v0 : 0 ≤ v) (v1 : v < 18446744073709551616) : WrOk n (wrF asid v f) := by
  obtain ⟨d, _, _, _, _, _, t0, t1, p0, p1, _, hkl⟩ := leaf_word h.wk h.kd
  have o0 := h.o0
  have o1 := h.o1
  rcases hkl with ⟨hk, hl⟩ | ⟨hk, hl⟩
  · have hal := leaf_al h hk
    exact ⟨rfl, ⟨2, hl, ⟨a0, a1, by omega, t0, by show f.fTable < 512; omega, p0, p1, o0, o1, by
      show firstP (ownF f) ((2 : Nat) : Int) = ownF f
      have := firstP_block (ownF f)
      rw [hal, Int.sub_zero] at this
      exact this⟩⟩, t1, ⟨v0, v1⟩⟩
  · exact ⟨rfl, ⟨3, hl, ⟨a0, a1, by omega, t0, by show f.fTable < 512; omega, p0, p1, o0, o1, firstP_page _⟩⟩, t1, ⟨v0, v1⟩⟩
theorem wr_apart {asid : Int} {r : List Int} {S : List Found} (h : LeavesAt ws n root asid r S) (v : Found → Int) : (S.map fun f => wrF asid (v f) f).Pairwise apartS := by
  rw [List.pairwise_map]
  refine List.Pairwise.imp_of_mem ?_ h.ord
  intro f g hf hg hlt
  exact leaf_apart h.hr h.hnd (h.leaf f hf) (h.leaf g hg) (by omega)
theorem tellA_in {asid : Int} {S : List Found} (h : ∀ f ∈ S, LeafAt ws n root f) : ∀ x ∈ tellA asid S, x.fKind = 2 ∧ 0 ≤ x.fFirst ∧ x.fFirst < 4096 := by
  intro x hx
  obtain ⟨l, hl, hx⟩ := List.mem_flatten.1 hx
  obtain ⟨f, hf, rfl⟩ := List.mem_map.1 hl
  have hL := h f hf
  have o0 := hL.o0
  have o1 := hL.o1
  refine tellsN_in asid (ownF f) _ o0 ?_ x hx
  unfold pagesF
  split
  · rename_i hk
    have := leaf_al hL hk
    omega
  · omega
theorem odd_leaf {f : Found} (h : LeafAt ws n root f) : ws.getD (idxF f) 0 % 2 = 1 := by
  obtain ⟨d, _, _, he, hdk, _, _⟩ := leaf_word h.wk h.kd
  rw [← he]
  have := h.kd
  exact encW_odd (by omega)
theorem rwF_ok {f : Found} (h : LeafAt ws n root f) (wr ex : Bool) : 0 ≤ rwF ws wr ex f ∧ rwF ws wr ex f < 18446744073709551616 ∧ rwF ws wr ex f % 2 = 1 := by
  obtain ⟨d, hd, hok, he, hdk, _, _⟩ := leaf_word h.wk h.kd
  have hk : d.fKind = 2 ∨ d.fKind = 3 := by have := h.kd; omega
  unfold rwF
  rw [hd]
  have := encW_range (okD_wx hok hk wr ex)
  exact ⟨this.1, this.2, encW_odd (d := wxD d wr ex) (.inr hk)⟩
theorem tells_leaf {asid : Int} {S : List Found} {f : Found} (hf : f ∈ S) (hL : LeafAt ws n root f) (i : Nat) (hi : i < (spanL f.fLevel).toNat) : ∃ s ∈ tellA asid S, s.fAsid = asid ∧ s.fFirst = ownF f + i := by
  obtain ⟨d, _, _, _, _, _, _, _, _, _, _, hkl⟩ := leaf_word hL.wk hL.kd
  have hp : i < (pagesF f).toNat := by
    unfold pagesF
    rcases hkl with ⟨hk, hl⟩ | ⟨hk, hl⟩
    · rw [if_pos hk]
      rw [hl, show spanL 2 = 8 by decide] at hi
      omega
    · rw [if_neg (by omega)]
      rw [hl, show spanL 3 = 1 by decide] at hi
      omega
  obtain ⟨s, hs, h1, h2⟩ := tellsN_has asid (ownF f) _ i hp
  exact ⟨s, List.mem_flatten.2 ⟨_, List.mem_map.2 ⟨f, hf, rfl⟩, hs⟩, h1, h2⟩
/-- What the steps that take leaves away leave. -/
theorem away_behind {asid : Int} {r : List Int} {S : List Found} (h : LeavesAt ws n root asid r S) :
    (∀ x ∈ awayL asid S, StepOk x) ∧ Safe n ws [] (awayL asid S) ∧ Turned ws (doW n ws (awayL asid S)) n root r S ∧ (∀ f ∈ S, (doW n ws (awayL asid S)).getD (idxF f) 0 = 0) ∧ ∀ x ∈ awayL asid S, WrOk n x ∨ x.fKind = 2 := by
  have hW : ∀ s ∈ S.map (wrF asid 0), WrOk n s ∧ s.fValue % 2 = 0 ∧ ws.getD (idxS s) 0 % 2 = 1 := by
    intro s hs
    obtain ⟨f, hf, rfl⟩ := List.mem_map.1 hs
    exact ⟨(h.leaf f hf).wrOk h.a0 h.a1 h.n1 (by omega) (by omega), rfl, odd_leaf (h.leaf f hf)⟩
  have hT := tellA_in (asid := asid) h.leaf
  have hd : doW n ws (awayL asid S) = doW n ws (S.map (wrF asid 0)) := by
    unfold awayL
    rw [doW_append, doW_tells _ _ fun x hx => (hT x hx).1]
  have hA := wr_apart h fun _ => 0
  refine ⟨fun x hx => ?_, ?_, ⟨h.hr, h.hnd, h.leaf, fun j hj => ?_⟩, fun f hf => ?_, fun x hx => ?_⟩
  · rcases List.mem_append.1 hx with hx | hx
    · exact (hW x hx).1.ok
    · obtain ⟨l, hl, hx⟩ := List.mem_flatten.1 hx
      obtain ⟨f, hf, rfl⟩ := List.mem_map.1 hl
      obtain ⟨i, _, rfl⟩ := List.mem_map.1 hx
      exact ⟨show (0 : Int) ≤ 0 by omega, show (0 : Int) < 18446744073709551616 by omega⟩
  · unfold awayL
    refine safe_closes _ ws [] _ (fun s hs => ⟨(hW s hs).1, (hW s hs).2.1, (hW s hs).2.2, fun g hg => by cases hg⟩) hA ?_
    have := safe_tells (n := n) (ws := doW n ws (S.map (wrF asid 0))) (tellA asid S) ([] ++ (S.map (wrF asid 0)).map gapS) [] hT (.nil _ _)
    rwa [List.append_nil] at this
  · rw [hd]
    refine writes_off _ _ _ (fun s hs => (hW s hs).1) fun s hs => ?_
    obtain ⟨f, hf, rfl⟩ := List.mem_map.1 hs
    exact hj f hf
  · rw [hd]
    exact writes_at _ _ (fun s hs => (hW s hs).1) hA h.len _ (List.mem_map.2 ⟨f, hf, rfl⟩)
  · rcases List.mem_append.1 hx with hx | hx
    · exact .inl (hW x hx).1
    · exact .inr (hT x hx).1
/-- What the steps that turn leaves' rights leave. -/
theorem rights_behind {asid : Int} {r : List Int} {S : List Found} (h : LeavesAt ws n root asid r S) (wr ex : Bool) :
    (∀ x ∈ awayL asid S ++ setL ws asid wr ex S, StepOk x) ∧ Safe n ws [] (awayL asid S ++ setL ws asid wr ex S) ∧ Turned ws (doW n ws (awayL asid S ++ setL ws asid wr ex S)) n root r S ∧ (∀ f ∈ S, (doW n ws (awayL asid S ++ setL ws asid wr ex S)).getD (idxF f) 0 = rwF ws wr ex f) ∧ ∀ x ∈ awayL asid S ++ setL ws asid wr ex S, WrOk n x ∨ x.fKind = 2 := by
  obtain ⟨h1, h2, h3, h4, h5⟩ := away_behind h
  have hT := tellA_in (asid := asid) h.leaf
  have hd : doW n ws (awayL asid S) = doW n ws (S.map (wrF asid 0)) := by
    unfold awayL
    rw [doW_append, doW_tells _ _ fun x hx => (hT x hx).1]
  have hO : ∀ s ∈ setL ws asid wr ex S, WrOk n s ∧ s.fValue % 2 = 1 := by
    intro s hs
    obtain ⟨f, hf, rfl⟩ := List.mem_map.1 hs
    obtain ⟨v0, v1, v2⟩ := rwF_ok (h.leaf f hf) wr ex
    exact ⟨(h.leaf f hf).wrOk h.a0 h.a1 h.n1 v0 v1, v2⟩
  have hA := wr_apart h (rwF ws wr ex)
  have hl2 : (doW n ws (awayL asid S)).length = n * 8 := by rw [doW_len]; exact h.len
  refine ⟨fun x hx => ?_, ?_, ⟨h.hr, h.hnd, h.leaf, fun j hj => ?_⟩, fun f hf => ?_, fun x hx => ?_⟩
  · rcases List.mem_append.1 hx with hx | hx
    · exact h1 x hx
    · exact (hO x hx).1.ok
  · have hs := safe_swap (n := n) (ws := ws) (C := S.map (wrF asid 0)) (T := tellA asid S) (O := setL ws asid wr ex S) (rest := [])
      (fun s hs => by
        obtain ⟨f, hf, rfl⟩ := List.mem_map.1 hs
        exact ⟨(h.leaf f hf).wrOk h.a0 h.a1 h.n1 (by omega) (by omega), rfl, odd_leaf (h.leaf f hf)⟩) (wr_apart h fun _ => 0) hT
      (fun c hc i hi => by
        obtain ⟨f, hf, rfl⟩ := List.mem_map.1 hc
        exact tells_leaf hf (h.leaf f hf) i hi)
      (fun s hs => ⟨(hO s hs).1, (hO s hs).2, by
        obtain ⟨f, hf, rfl⟩ := List.mem_map.1 hs
        have := h4 f hf
        rw [hd] at this
        show (doW n ws (S.map (wrF asid 0))).getD (idxF f) 0 % 2 = 0
        rw [this]
        rfl⟩) hA (fun G' _ => .nil _ _)
    unfold awayL
    rw [List.append_nil] at hs
    rw [List.append_assoc]
    exact hs
  · rw [doW_append, writes_off _ _ _ (fun s hs => (hO s hs).1) fun s hs => ?_]
    · exact h3.off j hj
    · obtain ⟨f, hf, rfl⟩ := List.mem_map.1 hs
      exact hj f hf
  · rw [doW_append]
    exact writes_at _ _ (fun s hs => (hO s hs).1) hA hl2 _ (List.mem_map.2 ⟨f, hf, rfl⟩)
  · rcases List.mem_append.1 hx with hx | hx
    · exact h5 x hx
    · exact .inl (hO x hx).1

/-- All leaves of pages, none of which is one of more. -/
structure PlanAt (ws : List Int) (n : Nat) (root asid a b : Int) (r : List Int) (l : List Found) : Prop where
  lv : LeavesAt ws n root asid r l
  inn : ∀ f, LeafAt ws n root f → (f ∈ l ↔ inF a b f = true)
  bey : ∀ f ∈ l, beyF a b f = false
  ab0 : 0 ≤ a
  ab1 : b ≤ 4096
theorem plan_at {asid a b : Int} {r : List Int} {l : List Found} (hl : wholeRes asid a b (leavesRes ws n root a b) = .yes l) (hr : tabsAt ws n 4 0 root = some r) (hnd : r.Nodup) (n1 : n ≤ 512) (hw : ws.length = n * 8) : PlanAt ws n root asid a b r l := by
  unfold leavesRes at hl
  by_cases h1 : a < 0 ∨ b ≤ a ∨ 4096 < b
  · rw [if_pos h1] at hl; cases hl
  · rw [if_neg h1] at hl
    by_cases h2 : 0 ≤ root ∧ root < n
    · rw [if_neg (by simpa using h2)] at hl
      cases hall : wholeAt ws n root 4097 0 with
      | none => rw [hall] at hl; cases hl
      | some all =>
        rw [hall] at hl
        unfold wholeRes at hl
        dsimp only at hl
        split at hl
        · cases hl
        · rename_i ha
          split at hl
          · cases hl
          · rename_i hb
            injection hl with hl
            rw [whole_pages] at hall
            obtain ⟨m1, m2, m3⟩ := pages_mem 4097 0 all (by omega) hall
            subst hl
            refine ⟨⟨hr, hnd, fun f hf => (m1 f (List.mem_filter.1 hf).1).1, m2.filter _, by omega, by omega, n1, hw⟩, fun f hf => ?_, fun f hf => ?_, by omega, by omega⟩
            · rw [List.mem_filter]
              exact ⟨fun h => h.2, fun h => ⟨m3 f hf hf.o0, h⟩⟩
            · cases hq : beyF a b f with
              | false => rfl
              | true => exact absurd (List.any_eq_true.2 ⟨f, hf, hq⟩) hb
    · rw [if_pos (by simpa using h2)] at hl; cases hl
/-- Is a page one of these, of a leaf? -/
def hitP (a b q : Int) (x : Found) : Prop := a ≤ q ∧ q < b ∧ (x.fKind = 2 ∨ x.fKind = 3)
theorem PlanAt.hit {asid a b : Int} {r : List Int} {l : List Found} (h : PlanAt ws n root asid a b r l) {q : Int} (q0 : 0 ≤ q) (q1 : q < 4096) {x : Found} (hx : walkAt ws n q 4 0 root = some x) : hitP a b q x ↔ ∃ f ∈ l, f.fTable = x.fTable ∧ f.fPlace = x.fPlace := by
  constructor
  · rintro ⟨h1, h2, h3⟩
    obtain ⟨f, hf, e1, e2, e3, e4, e5⟩ := leaf_of q0 q1 hx h3
    refine ⟨f, (h.inn f hf).2 ?_, e1, e2⟩
    unfold inF pagesF
    rw [Bool.and_eq_true, decide_eq_true_eq, decide_eq_true_eq, e4]
    rcases e5 with ⟨hk, _, ho⟩ | ⟨hk, ho⟩
    · rw [if_neg (by omega)]; omega
    · rw [if_pos hk]; omega
  · rintro ⟨f, hf, e1, e2⟩
    have hL := h.lv.leaf f hf
    obtain ⟨f1, f2, f3⟩ := leaf_same h.lv.hr h.lv.hnd q0 q1 hL hx e1.symm e2.symm
    have hb := h.bey f hf
    have hi := (h.inn f hL).1 hf
    unfold inF pagesF at hi
    rw [Bool.and_eq_true, decide_eq_true_eq, decide_eq_true_eq] at hi
    unfold beyF at hb
    rw [Bool.or_eq_false_iff, decide_eq_false_iff_not, decide_eq_false_iff_not] at hb
    have hk := hL.kd
    rcases f3 with ⟨hk3, ho⟩ | ⟨hk2, ho⟩
    · rw [if_neg (by omega)] at hi
      exact ⟨by omega, by omega, by omega⟩
    · have hfk : f.fKind = 2 := by omega
      obtain ⟨d, _, _, _, hdk, hfx, _⟩ := leaf_word hL.wk hL.kd
      have hord : f.fOrder = 3 := by rw [hfx]; unfold foundD; rw [if_pos (by omega)]
      have hof : ownF f = f.fFirst := by unfold ownF; rw [if_pos hfk]
      unfold powF at hb
      rw [if_pos hord] at hb
      exact ⟨by omega, by omega, by omega⟩
theorem tabs_walk' {r : List Int} (hr : tabsAt ws n 4 0 root = some r) (q : Int) : ∃ x, walkAt ws n q 4 0 root = some x := tabs_walk (page := q) 3 0 root r (by omega) (by omega) hr
/-- What is found behind Clear's steps. -/
theorem clear_finds {asid a b : Int} {r : List Int} {l : List Found} (h : PlanAt ws n root asid a b r l) {us : List Int} (hT : Turned ws us n root r l) (hz : ∀ f ∈ l, us.getD (idxF f) 0 = 0) (q : Int) (q0 : 0 ≤ q) (q1 : q < 4096) :
    ∃ x y, walkAt ws n q 4 0 root = some x ∧ walkAt us n q 4 0 root = some y ∧ (hitP a b q x → y.fKind = 0) ∧ (¬ hitP a b q x → y = x) := by
  obtain ⟨x, hx⟩ := tabs_walk' h.lv.hr q
  by_cases hh : hitP a b q x
  · obtain ⟨f, hf, e1, e2⟩ := (h.hit q0 q1 hx).1 hh
    obtain ⟨d, _, _, _, _, _, _, _, _, _, _, hkl⟩ := leaf_word hx hh.2.2
    have hzz : us.getD (idxF x) 0 = 0 := by
      have := hz f hf
      unfold idxF at this ⊢
      rwa [e1, e2] at this
    have hat := hT.at_ hx (d := noneD) (by rw [hzz]; exact dec_nil _ (by omega) (by omega)) (by decide)
    exact ⟨x, _, hx, hat, fun _ => (foundD_parts _ _ _ _ _).2.2.2, fun hn => absurd hh hn⟩
  · exact ⟨x, x, hx, hT.else_ hx (fun f hf hc => hh ((h.hit q0 q1 hx).2 ⟨f, hf, hc⟩)), fun hc => absurd hc hh, fun _ => rfl⟩
/-- What is found behind the steps of Rights. -/
theorem rights_finds {asid a b : Int} {r : List Int} {l : List Found} (h : PlanAt ws n root asid a b r l) (wr ex : Bool) {us : List Int} (hT : Turned ws us n root r (l.filter (chF wr ex))) (hz : ∀ f ∈ l.filter (chF wr ex), us.getD (idxF f) 0 = rwF ws wr ex f) (q : Int) (q0 : 0 ≤ q) (q1 : q < 4096) :
    ∃ x y, walkAt ws n q 4 0 root = some x ∧ walkAt us n q 4 0 root = some y ∧ (hitP a b q x → y = wxF wr ex x) ∧ (¬ hitP a b q x → y = x) := by
  obtain ⟨x, hx⟩ := tabs_walk' h.lv.hr q
  by_cases hh : hitP a b q x
  · obtain ⟨f, hf, e1, e2⟩ := (h.hit q0 q1 hx).1 hh
    obtain ⟨d, hd, hok, _, hdk, hxx, _, _, _, _, _, hkl⟩ := leaf_word hx hh.2.2
    have hkd : d.fKind = 2 ∨ d.fKind = 3 := by have := hh.2.2; omega
    have hL := h.lv.leaf f hf
    obtain ⟨f1, f2, f3⟩ := leaf_same h.lv.hr h.lv.hnd q0 q1 hL hx e1.symm e2.symm
    have hidx : idxF f = idxF x := by unfold idxF; rw [e1, e2]
    obtain ⟨d', hd', _, _, hdk', hff, _⟩ := leaf_word hL.wk hL.kd
    have hdd : d' = d := by rw [← hd', ← hd, hidx, f1]
    subst hdd
    obtain ⟨w1, w2⟩ := foundD_we hkd f.fLevel f.fTable f.fPlace (ownF f)
    rw [← hff] at w1 w2
    obtain ⟨x1, x2⟩ := foundD_we hkd x.fLevel x.fTable x.fPlace q
    rw [← hxx] at x1 x2
    cases hc : chF wr ex f with
    | true =>
      have hz := hz f (List.mem_filter.2 ⟨hf, hc⟩)
      rw [hidx] at hz
      have hrw : rwF ws wr ex f = encW (wxD d' wr ex) := by unfold rwF; rw [hd']
      rw [hrw] at hz
      have hat := hT.at_ hx (d := wxD d' wr ex) (by rw [hz]; exact dec_enc (okD_wx hok hkd wr ex)) (by show d'.fKind ≠ 1; omega)
      rw [foundD_wx hkd, ← hxx] at hat
      exact ⟨x, _, hx, hat, fun _ => rfl, fun hn => absurd hh hn⟩
    | false =>
      unfold chF at hc
      rw [Bool.or_eq_false_iff] at hc
      have c1 : f.fWrite = wr := by simpa using hc.1
      have c2 : f.fExec = ex := by simpa using hc.2
      have hxe : x = wxF wr ex x := by
        unfold wxF
        rw [← c1, ← c2, w1, w2, ← x1, ← x2]
      refine ⟨x, x, hx, hT.else_ hx fun g hg hgc => ?_, fun _ => hxe, fun _ => rfl⟩
      obtain ⟨hg, hgch⟩ := List.mem_filter.1 hg
      have hG := h.lv.leaf g hg
      have hfg : ownF g = ownF f := by
        by_cases e : ownF g = ownF f
        · exact e
        · exact absurd ⟨by omega, by omega⟩ (leaf_apart h.lv.hr h.lv.hnd hG hL e)
      have : g = f := by
        have h1 := hG.wk
        have h2 := hL.wk
        rw [hfg, h2] at h1
        exact (Option.some.inj h1).symm
      subst this
      unfold chF at hgch
      simp [c1, c2] at hgch
  · exact ⟨x, x, hx, hT.else_ hx (fun f hf hc => hh ((h.hit q0 q1 hx).2 ⟨f, (List.mem_filter.1 hf).1, hc⟩)), fun hc => absurd hc hh, fun _ => rfl⟩
end

end Go.Proofs.Ythcdecgecabgaaa

/- The contract of plan.Rights. -/
namespace Go.Proofs.Ythcdecgecabgaaa
open Go.RowKit
set_option linter.unusedVariables false
set_option linter.unusedSimpArgs false
attribute [local go_sem] setCell_drewN alloc_drewN lt_moreE le_moreE lt_moreK le_moreK cell_more frozen_more set_more drew_more drewN_more

/-- A leaf whose word may bear other rights. -/
structure WithOk (ws : List Int) (n : Nat) (wr ex : Bool) (f : Found) : Prop where
  l0 : 0 ≤ f.fLevel
  l1 : f.fLevel ≤ 3
  t0 : 0 ≤ f.fTable
  t1 : f.fTable < n
  q0 : 0 ≤ f.fPlace
  q1 : f.fPlace < 8
  ok : okD f.fLevel (wxD (decD f.fLevel (ws.getD (f.fTable.toNat * 8 + f.fPlace.toNat) 0)) wr ex) = true
theorem with_ok {ws : List Int} {n : Nat} {root asid a b : Int} {l : List Found} (h : wholeRes asid a b (leavesRes ws n root a b) = .yes l) (wr ex : Bool) : ∀ f ∈ l, WithOk ws n wr ex f := by
  intro f hf
  unfold leavesRes at h
  split at h
  · cases h
  · split at h
    · cases h
    · split at h
      · cases h
      · rename_i all hall
        unfold wholeRes at h
        dsimp only at h
        split at h
        · cases h
        · split at h
          · cases h
          · injection h with h
            subst h
            obtain ⟨hk, q, _, _, hq⟩ := whole_mem 4097 0 all (by omega) hall f (List.mem_filter.1 hf).1
            obtain ⟨d, hd, hok, _, hdk, _, t0, t1, p0, p1, _, hl⟩ := leaf_word hq hk
            refine ⟨by omega, by omega, t0, t1, p0, p1, ?_⟩
            have hd : decD f.fLevel (ws.getD (f.fTable.toNat * 8 + f.fPlace.toNat) 0) = d := hd
            rw [hd]
            exact okD_wx hok (by omega) wr ex
end Go.Proofs.Ythcdecgecabgaaa

/- Plain laws behind PlanTwice; the contract of phys.Memory.Store that tells what it keeps. -/
namespace Go.Proofs.Ythcdecgecabgaaa
open Go.RowKit
set_option linter.unusedVariables false
set_option linter.unusedSimpArgs false

/-- All blocks but those of a memory's frames are kept. -/
def KeepM (w w' : World) : Prop := ∀ (k : Nat) (ob : Obj), w.heap[k]? = some ob → (∀ cs fr, ob ≠ .cells cs 185 fr) → w'.heap[k]? = some ob
theorem own_keepM {w w' : World} {B sz n : Nat} {T : TypeId} {v : Value} {xs : List Value} (k : KeepM w w') (h : w.ownsRow B T sz v n xs) (h1 : T ≠ 185) : w'.ownsRow B T sz v n xs := by
  refine ⟨h.1, h.2.imp id fun ⟨g, cap, cur, a, b, c, d⟩ => ⟨g, cap, cur, a, b, k g _ c (fun cs fr e => by injection e with _ e; exact h1 e), d⟩⟩
theorem phys_Store_keep (w : World) {b g n c : Nat} {ws : List Int} (hm : MemAt w b g n c ws) (f i : Nat) (x : Int) (h1 : f < n) (h2 : i < 8) :
    Calls Try.prog 58 #[.pointer (some ⟨b, 0, none⟩), .int .i64 f, .int .i64 i, .int .u64 x] w fun e w' => e = .returned .nilIface ∧ MemAt w' b g n c (ws.set (f * 8 + i) x) ∧ w.grownBy w' (some g) ∧ KeepM w w' := by
  refine (phys_Store_yes0 w hm f i x h1 h2).mono ?_
  rintro e w' ⟨rfl, rfl⟩
  refine ⟨rfl, hm.put _ _ (by omega), grow_setCell (grow_refl _ _) _ _ (.inr rfl), fun k ob hk hn => ?_⟩
  obtain ⟨cur, hg, _⟩ := hm.row
  have hkg : k ≠ g := by
    rintro rfl
    rw [hg] at hk
    cases hk
    exact hn _ _ rfl
  rw [heap_setCell_other _ _ _ _ hkg]
  exact hk
section
variable {ws : List Int} {n : Nat} {root : Int}
theorem inF_same {a b : Int} {f x : Found} (h1 : ownF f = ownF x) (h2 : f.fKind = x.fKind) : inF a b f = inF a b x := by unfold inF pagesF; rw [h1, h2]
theorem PlanAt.hitF {asid a b : Int} {r : List Int} {l : List Found} (h : PlanAt ws n root asid a b r l) {q : Int} (q0 : 0 ≤ q) (q1 : q < 4096) {x : Found} (hx : walkAt ws n q 4 0 root = some x) : hitP a b q x ↔ (x.fKind = 2 ∨ x.fKind = 3) ∧ inF a b x = true := by
  have key : ∀ (hk : x.fKind = 2 ∨ x.fKind = 3), ∃ f, LeafAt ws n root f ∧ f.fTable = x.fTable ∧ f.fPlace = x.fPlace ∧ inF a b f = inF a b x := by
    intro hk
    obtain ⟨f, hf, e1, e2, e3, e4, e5⟩ := leaf_of q0 q1 hx hk
    obtain ⟨d, _, _, _, hdk, hxx, _⟩ := leaf_word hx hk
    refine ⟨f, hf, e1, e2, inF_same ?_ e4⟩
    rcases e5 with ⟨_, e, _⟩ | ⟨hk2, e⟩
    · rw [e]
    · rw [e, hxx, own_blk (by omega)]
  constructor
  · intro hh
    have hk := hh.2.2
    obtain ⟨f, hf, e1, e2, e3⟩ := key hk
    obtain ⟨g, hg, g1, g2⟩ := (h.hit q0 q1 hx).1 hh
    have hG := h.lv.leaf g hg
    have hfg : ownF g = ownF f := by
      by_cases e : ownF g = ownF f
      · exact e
      · exact absurd ⟨by omega, by omega⟩ (leaf_apart h.lv.hr h.lv.hnd hG hf e)
    have : g = f := by
      have h1 := hG.wk
      rw [hfg, hf.wk] at h1
      exact (Option.some.inj h1).symm
    subst this
    exact ⟨hk, by rw [← e3]; exact (h.inn g hG).1 hg⟩
  · rintro ⟨hk, hi⟩
    obtain ⟨f, hf, e1, e2, e3⟩ := key hk
    exact (h.hit q0 q1 hx).2 ⟨f, (h.inn f hf).2 (by rw [e3]; exact hi), e1, e2⟩
/-- What leaves of pages are told of. -/
theorem leaves_yes {a b asid : Int} {l : List Found} (h : wholeRes asid a b (leavesRes ws n root a b) = .yes l) : 0 ≤ a ∧ a < b ∧ b ≤ 4096 ∧ 0 ≤ asid ∧ asid ≤ 255 ∧ 0 ≤ root ∧ root < n ∧ ∃ all, wholeAt ws n root 4097 0 = some all ∧ l = all.filter (inF a b) ∧ l.any (beyF a b) = false := by
  unfold leavesRes at h
  by_cases h1 : a < 0 ∨ b ≤ a ∨ 4096 < b
  · rw [if_pos h1] at h; cases h
  · rw [if_neg h1] at h
    by_cases h2 : 0 ≤ root ∧ root < n
    · rw [if_neg (by simpa using h2)] at h
      cases hall : wholeAt ws n root 4097 0 with
      | none => rw [hall] at h; cases h
      | some all =>
        rw [hall] at h
        unfold wholeRes at h
        dsimp only at h
        split at h
        · cases h
        · split at h
          · cases h
          · rename_i hb
            injection h with h
            subst h
            exact ⟨by omega, by omega, by omega, by omega, by omega, h2.1, h2.2, all, rfl, rfl, by simpa using hb⟩
    · rw [if_pos (by simpa using h2)] at h; cases h
theorem leaves_mk {a b : Int} {all l : List Found} (a0 : 0 ≤ a) (ab : a < b) (b1 : b ≤ 4096) (r0 : 0 ≤ root) (r1 : root < n) (h : wholeAt ws n root 4097 0 = some all) (hl : all.filter (inF a b) = l) : leavesRes ws n root a b = .yes l := by
  unfold leavesRes
  rw [if_neg (by omega), if_neg (by simp; omega), h]
  dsimp only
  rw [hl]
theorem whole_mk {asid a b : Int} {l : List Found} (s0 : 0 ≤ asid) (s1 : asid ≤ 255) (hl : l.any (beyF a b) = false) : wholeRes asid a b (.yes l) = .yes l := by
  unfold wholeRes
  dsimp only
  rw [if_neg (by omega), if_neg (by simp [hl])]
theorem inF_wx (a b : Int) (wr ex : Bool) (f : Found) : inF a b (wxF wr ex f) = inF a b f := rfl
theorem beyF_wx (a b : Int) (wr ex : Bool) (f : Found) : beyF a b (wxF wr ex f) = beyF a b f := rfl
theorem away_wx (asid : Int) (wr ex : Bool) (l : List Found) : awayL asid (l.map (wxF wr ex)) = awayL asid l := by
  unfold awayL tellA
  rw [List.map_map, List.map_map]
  rfl
theorem rights_wx (ws : List Int) (asid : Int) (wr ex : Bool) (l : List Found) : rightsL ws asid wr ex (l.map (wxF wr ex)) = [] := by
  have : (l.map (wxF wr ex)).filter (chF wr ex) = [] := by
    rw [List.filter_eq_nil_iff]
    intro f hf
    obtain ⟨g, _, rfl⟩ := List.mem_map.1 hf
    unfold chF wxF
    simp
  unfold rightsL setL awayL tellA
  rw [this]
  rfl
/-- The leaves behind the steps of Rights. -/
theorem rights_leaves {a b asid : Int} {r : List Int} {l : List Found} (hl : wholeRes asid a b (leavesRes ws n root a b) = .yes l) (h : PlanAt ws n root asid a b r l) (wr ex : Bool) {vs : List Int} (hw : ∀ q, 0 ≤ q → q < 4096 → ∃ x y, walkAt ws n q 4 0 root = some x ∧ walkAt vs n q 4 0 root = some y ∧ (hitP a b q x → y = wxF wr ex x) ∧ (¬ hitP a b q x → y = x)) :
    wholeRes asid a b (leavesRes vs n root a b) = .yes (l.map (wxF wr ex)) := by
  obtain ⟨a0, ab, b1, s0, s1, r0, r1, all, hall, rfl, hb⟩ := leaves_yes hl
  rw [whole_pages] at hall
  have hm := pages_map (ws := ws) (us := vs) (n := n) (root := root) (fun x => if (x.fKind = 2 ∨ x.fKind = 3) ∧ inF a b x = true then wxF wr ex x else x) (fun q q0 q1 => by
    obtain ⟨x, y, hx, hy, h1, h2⟩ := hw q q0 q1
    refine ⟨x, hx, ?_⟩
    by_cases hc : (x.fKind = 2 ∨ x.fKind = 3) ∧ inF a b x = true
    · rw [if_pos hc, ← h1 ((h.hitF q0 q1 hx).2 hc)]
      have := h1 ((h.hitF q0 q1 hx).2 hc)
      exact ⟨hy, by rw [this]; rfl, by rw [this]; rfl⟩
    · rw [if_neg hc]
      have := h2 (fun hh => hc ((h.hitF q0 q1 hx).1 hh))
      rw [this] at hy
      exact ⟨hy, rfl, rfl⟩) 4097 0 (by omega)
  rw [hall] at hm
  have hin : ∀ x : Found, inF a b (if (x.fKind = 2 ∨ x.fKind = 3) ∧ inF a b x = true then wxF wr ex x else x) = inF a b x := by
    intro x
    split
    · rfl
    · rfl
  obtain ⟨m1, _, _⟩ := pages_mem 4097 0 all (by omega) hall
  rw [leaves_mk (l := (all.filter (inF a b)).map (wxF wr ex)) a0 ab b1 r0 r1 (by rw [whole_pages]; exact hm) ?_]
  · refine whole_mk s0 s1 ?_
    rw [List.any_map]
    exact hb
  · rw [List.filter_map]
    have e1 : (inF a b ∘ fun x : Found => if (x.fKind = 2 ∨ x.fKind = 3) ∧ inF a b x = true then wxF wr ex x else x) = inF a b := funext hin
    rw [e1]
    apply List.map_congr_left
    intro f hf
    obtain ⟨hf1, hf2⟩ := List.mem_filter.1 hf
    rw [if_pos ⟨(m1 f hf1).1.kd, hf2⟩]
/-- No leaves behind the steps of Clear. -/
theorem clear_leaves {a b asid : Int} {r : List Int} {l : List Found} (hl : wholeRes asid a b (leavesRes ws n root a b) = .yes l) (h : PlanAt ws n root asid a b r l) {us : List Int} (hw : ∀ q, 0 ≤ q → q < 4096 → ∃ x y, walkAt ws n q 4 0 root = some x ∧ walkAt us n q 4 0 root = some y ∧ (hitP a b q x → y.fKind = 0) ∧ (¬ hitP a b q x → y = x)) :
    leavesRes us n root a b = .yes [] := by
  obtain ⟨a0, ab, b1, s0, s1, r0, r1, all, hall, rfl, hb⟩ := leaves_yes hl
  obtain ⟨all2, h2⟩ := pages_some (us := us) (n := n) (root := root) (fun q q0 q1 => by
    obtain ⟨x, y, _, hy, _⟩ := hw q q0 q1
    exact ⟨y, hy⟩) 4097 0 (by omega) (by omega) (by omega)
  refine leaves_mk a0 ab b1 r0 r1 (by rw [whole_pages]; exact h2) ?_
  rw [List.filter_eq_nil_iff]
  intro g hg hi
  obtain ⟨m1, _, _⟩ := pages_mem 4097 0 all2 (by omega) h2
  have hG := (m1 g hg).1
  obtain ⟨x, y, hx, hy, h3, h4⟩ := hw (ownF g) hG.o0 hG.o1
  rw [hG.wk] at hy
  obtain rfl := Option.some.inj hy
  by_cases hh : hitP a b (ownF g) x
  · have := h3 hh
    have := hG.kd
    omega
  · have e := h4 hh
    subst e
    exact hh ((h.hitF hG.o0 hG.o1 hx).2 ⟨hG.kd, hi⟩)
/-- Behind the steps of Rights those of Clear turn the same words. -/
theorem clear_after {asid : Int} {r : List Int} {S : List Found} (h : LeavesAt ws n root asid r S) {vs : List Int} (hl : vs.length = n * 8) (hoff : ∀ j, (∀ f ∈ S, idxF f ≠ j) → vs.getD j 0 = ws.getD j 0) :
    Turned ws (doW n vs (awayL asid S)) n root r S ∧ ∀ f ∈ S, (doW n vs (awayL asid S)).getD (idxF f) 0 = 0 := by
  have hW : ∀ s ∈ S.map (wrF asid 0), WrOk n s := by
    intro s hs
    obtain ⟨f, hf, rfl⟩ := List.mem_map.1 hs
    exact (h.leaf f hf).wrOk h.a0 h.a1 h.n1 (by omega) (by omega)
  have hT := tellA_in (asid := asid) h.leaf
  have hd : doW n vs (awayL asid S) = doW n vs (S.map (wrF asid 0)) := by
    unfold awayL
    rw [doW_append, doW_tells _ _ fun x hx => (hT x hx).1]
  refine ⟨⟨h.hr, h.hnd, h.leaf, fun j hj => ?_⟩, fun f hf => ?_⟩
  · rw [hd, writes_off _ _ _ hW fun s hs => ?_]
    · exact hoff j hj
    · obtain ⟨f, hf, rfl⟩ := List.mem_map.1 hs
      exact hj f hf
  · rw [hd]
    exact writes_at _ _ hW (wr_apart h fun _ => 0) hl _ (List.mem_map.2 ⟨f, hf, rfl⟩)
end

end Go.Proofs.Ythcdecgecabgaaa

/- The law paviorlaw18.MoveBack. -/
namespace Go.Proofs.Ythcdecgecabgaaa
open Go.RowKit
set_option linter.unusedVariables false
set_option linter.unusedSimpArgs false
attribute [local go_sem] setCell_drewN alloc_drewN lt_moreE le_moreE lt_moreK le_moreK cell_more frozen_more set_more drew_more drewN_more

theorem tabs_range {ws : List Int} {n : Int} : ∀ (k : Nat) (lv t : Int) (r : List Int), tabsAt ws n k lv t = some r → ∀ T ∈ r, 0 ≤ T ∧ T < n := by
  intro k
  induction k with
  | zero => intro lv t r h; simp [tabsAt] at h
  | succ k ih =>
    intro lv t r h
    by_cases ht : 0 ≤ t ∧ t < n
    · rw [tabsAt_in ht] at h
      have key : ∀ (j i : Nat), i + j = 8 → ∀ (l r : List Int), (∀ T ∈ l, 0 ≤ T ∧ T < n) → tabsFrom ws n k lv t i l = some r → ∀ T ∈ r, 0 ≤ T ∧ T < n := by
        intro j
        induction j with
        | zero =>
          intro i hi l r hl hr
          obtain rfl : i = 8 := by omega
          rw [tabsFrom_end] at hr
          cases hr
          exact hl
        | succ j ihj =>
          intro i hi l r hl hr
          by_cases hk : (decD lv (ws.getD (t.toNat * 8 + i) 0)).fKind = 1
          · cases hm : tabsAt ws n k (lv + 1) (decD lv (ws.getD (t.toNat * 8 + i) 0)).fFrame with
            | none => rw [tabsFrom_no (by omega) rfl hk hm] at hr; cases hr
            | some m =>
              rw [tabsFrom_go (by omega) rfl hk hm] at hr
              exact ihj (i + 1) (by omega) _ _ (fun T hT => (List.mem_append.1 hT).elim (hl T) (ih _ _ _ hm T)) hr
          · rw [tabsFrom_skip (by omega) rfl hk] at hr
            exact ihj (i + 1) (by omega) _ _ hl hr
      exact key 8 0 rfl [t] r (fun T hT => by rw [List.mem_singleton.1 hT]; exact ht) h
    · rw [tabsAt_out ht] at h; cases h
/-- The tables of the first roots. -/
structure TabsTo (ws : List Int) (n : Nat) (rs : List (Int × Int)) (i : Nat) (ts : List (List Int)) : Prop where
  len : ts.length = i
  all : ∀ (j : Nat) t, ts[j]? = some t → tabsAt ws n 4 0 (rs.getD j (0, 0)).2 = some t
theorem tabsTo_succ {ws : List Int} {n : Nat} {rs : List (Int × Int)} {i : Nat} {ts : List (List Int)} (h : TabsTo ws n rs i ts) {z : Int × Int} (hz : rs[i]? = some z) {t : List Int} (ht : tabsAt ws n 4 0 z.2 = some t) : TabsTo ws n rs (i + 1) (ts ++ [t]) := by
  refine ⟨by rw [List.length_append, h.len]; rfl, fun j u hu => ?_⟩
  by_cases hj : j < ts.length
  · rw [List.getElem?_append_left hj] at hu
    exact h.all j u hu
  · rw [List.getElem?_append_right (by omega)] at hu
    have h0 : j - ts.length = 0 := by have := (List.getElem?_eq_some_iff.1 hu).1; simp at this; omega
    rw [h0] at hu
    have hji : j = i := by have := h.len; omega
    subst hji
    have : t = u := by simpa using hu
    rw [← this, List.getD_eq_getElem?_getD, hz]
    exact ht
def allI (frm to : Int) (ts : List (List Int)) : List Int := frm :: to :: ts.flatten
theorem allI_snoc (frm to : Int) (ts : List (List Int)) (t : List Int) : allI frm to (ts ++ [t]) = allI frm to ts ++ t := by simp [allI]
theorem tabs_to_tabs {ws : List Int} {n : Nat} {rs : List (Int × Int)} {frm to : Int} {ts : List (List Int)} (h : TabsTo ws n rs rs.length ts) (hnd : (allI frm to ts).Nodup) : MoveTabs ws n rs frm to ts := ⟨h.len, h.all, hnd⟩
theorem keepM_grow {w w' : World} {g : Nat} {cs : Array Value} {fr : Nat × Nat} (h : w.grownBy w' (some g)) (hg : w.heap[g]? = some (.cells cs 185 fr)) : KeepM w w' := by
  intro k ob hk hn
  refine (h.block k (Array.getElem?_eq_some_iff.1 hk).1 ?_).trans hk
  intro e
  injection e with e
  subst e
  rw [hg] at hk
  cases hk
  exact hn _ _ rfl
theorem copy_off {ws : List Int} {t f j : Nat} (h : j / 8 ≠ t) : (copyW ws t f).getD j 0 = ws.getD j 0 := by
  unfold copyW
  repeat (rw [getD_setI, if_neg (by omega)])
theorem copy_len (ws : List Int) (t f : Nat) : (copyW ws t f).length = ws.length := by simp [copyW]
theorem WOk_copy {ws : List Int} (h : WOk ws) (t f : Nat) : WOk (copyW ws t f) := by
  unfold copyW
  repeat refine WOk_set ?_ _ _ (h.getD _).1 (h.getD _).2
  exact h
theorem doX_succ {n k : Nat} {C : List Step} (ws : List Int) {s : Step} (hz : C[k]? = some s) : doX n ws (C.take (k + 1)) = stepX n (doX n ws (C.take k)) s := by
  rw [take_snoc hz, doX_append]
  rfl
theorem WOk_doX {n : Nat} : ∀ (l : List Step) (ws : List Int), WOk ws → (∀ s ∈ l, WrOk n s ∨ s.fKind ≠ 1) → WOk (doX n ws l) := by
  intro l
  induction l with
  | nil => intro ws h _; exact h
  | cons s l ih =>
    intro ws h hs
    show WOk (doX n (stepX n ws s) l)
    refine ih _ ?_ fun x hx => hs x (.tail _ hx)
    unfold stepX
    split
    · rename_i hk
      exact WOk_stepW h ((hs s (.head _)).elim (fun h => h.ok) (fun hn => absurd hk hn))
    · exact h

end Go.Proofs.Ythcdecgecabgaaa
