import Derived.Test.YtapeoeakiphfpaaPland
import Derived.Test.YtapeoeakiphfpaaBSplpKey
import Derived.Test.YtapeoeakiphfpaaBSafeSafl
/- Plain laws behind PlanKeeps and PlanTwice: the leaves of a root; what walks find behind leaves' words that are turned. -/
namespace Go.Proofs.Ytapeoeakiphfpaa
open Go.RowKit
set_option linter.unusedVariables false
set_option linter.unusedSimpArgs false

def idxF (f : Found) : Nat := f.fTable.toNat * 8 + f.fPlace.toNat
/-- A leaf of a root: what the walk of its own page finds. -/
structure LeafAt (ws : List Int) (n : Nat) (root : Int) (f : Found) : Prop where
  kd : f.fKind = 2 ∨ f.fKind = 3
  o0 : 0 ≤ ownF f
  o1 : ownF f < 4096
  wk : walkAt ws n (ownF f) 4 0 root = some f
theorem own_page {d : Desc} {L T P p : Int} (h : d.fKind = 3) : ownF (foundD d L T P p) = p := by
  unfold ownF
  rw [if_neg (by rw [(foundD_parts _ _ _ _ _).2.2.2]; omega)]
  unfold foundD
  rw [if_neg (by omega), if_pos h]
  split
  · dsimp only; omega
  · dsimp only; omega
theorem own_blk {d : Desc} {L T P p : Int} (h : d.fKind = 2) : ownF (foundD d L T P p) = p - p % 8 := by
  unfold ownF
  rw [if_pos (by rw [(foundD_parts _ _ _ _ _).2.2.2]; exact h)]
  unfold foundD
  rw [if_pos h]
section
variable {ws us : List Int} {n : Nat} {root : Int}
/-- A leaf's word. -/
theorem leaf_word {q : Int} {x : Found} (h : walkAt ws n q 4 0 root = some x) (hk : x.fKind = 2 ∨ x.fKind = 3) : ∃ d, decD x.fLevel (ws.getD (idxF x) 0) = d ∧ okD x.fLevel d = true ∧ encW d = ws.getD (idxF x) 0 ∧ d.fKind = x.fKind ∧ x = foundD d x.fLevel x.fTable x.fPlace q ∧ 0 ≤ x.fTable ∧ x.fTable < n ∧ 0 ≤ x.fPlace ∧ x.fPlace < 8 ∧ x.fPlace = placeN x.fLevel q ∧ ((x.fKind = 2 ∧ x.fLevel = 2) ∨ (x.fKind = 3 ∧ x.fLevel = 3)) := by
  obtain ⟨t0, t1, hp, l0, l1, h1, hf⟩ := walkAt_word 4 0 root x (by omega) (by omega) h
  have z0 := placeN_lo x.fLevel q
  have z1 := placeN_hi x.fLevel q
  have hkk : (decD x.fLevel (ws.getD (idxF x) 0)).fKind = x.fKind := by
    conv => rhs; rw [hf]
    rw [(foundD_parts _ _ _ _ _).2.2.2]
    rfl
  obtain ⟨o1, o2⟩ := decD_ok (level := x.fLevel) (x := ws.getD (idxF x) 0) (by omega)
  refine ⟨_, rfl, o1, o2, hkk, hf, t0, t1, by omega, by omega, hp, ?_⟩
  rcases hk with hk | hk
  · exact .inl ⟨hk, decD_block _ _ (by rw [hkk]; exact hk)⟩
  · exact .inr ⟨hk, decD_page _ _ (by rw [hkk]; exact hk)⟩
/-- The leaf at which a page's walk ends. -/
theorem leaf_of {q : Int} {x : Found} (q0 : 0 ≤ q) (q1 : q < 4096) (h : walkAt ws n q 4 0 root = some x) (hk : x.fKind = 2 ∨ x.fKind = 3) : ∃ f, LeafAt ws n root f ∧ f.fTable = x.fTable ∧ f.fPlace = x.fPlace ∧ f.fLevel = x.fLevel ∧ f.fKind = x.fKind ∧ ((x.fKind = 3 ∧ f = x ∧ ownF f = q) ∨ (x.fKind = 2 ∧ ownF f = q - q % 8)) := by
  obtain ⟨d, hd, _, _, hdk, hx, t0, t1, _, _, hp, hkl⟩ := leaf_word h hk
  rcases hkl with ⟨hk2, hl⟩ | ⟨hk3, hl⟩
  · obtain ⟨d', t, pl, _, _, hs⟩ := walkAt_same 4 0 root x (by omega) (by omega) h
    rw [hl] at hs
    have e1 := hs q rfl
    have e2 := hs (q - q % 8) (by have : spanL 2 = 8 := by decide
                                  rw [this]; omega)
    rw [h] at e1
    have e1 := Option.some.inj e1
    obtain ⟨a1, a2, a3, a4⟩ := foundD_parts d' 2 t pl q
    obtain ⟨b1, b2, b3, b4⟩ := foundD_parts d' 2 t pl (q - q % 8)
    rw [← e1] at a1 a2 a3 a4
    have ho := own_blk (d := d') (L := 2) (T := t) (P := pl) (p := q - q % 8) (by omega)
    have ho : ownF (foundD d' 2 t pl (q - q % 8)) = q - q % 8 := by rw [ho]; omega
    exact ⟨_, ⟨.inl (by omega), by omega, by omega, by rw [ho]; exact e2⟩, by omega, by omega, by omega, by omega, .inr ⟨hk2, ho⟩⟩
  · have ho : ownF x = q := by rw [hx]; exact own_page (by omega)
    exact ⟨x, ⟨.inr hk3, by omega, by omega, by rw [ho]; exact h⟩, rfl, rfl, rfl, rfl, .inl ⟨hk3, rfl, ho⟩⟩
theorem leaf_al {f : Found} (h : LeafAt ws n root f) (hk : f.fKind = 2) : ownF f % 8 = 0 := by
  obtain ⟨d, _, _, _, hdk, hx, _⟩ := leaf_word h.wk h.kd
  have := own_blk (d := d) (L := f.fLevel) (T := f.fTable) (P := f.fPlace) (p := ownF f) (by omega)
  rw [← hx] at this
  omega
/-- A walk that comes by a leaf's word ends there. -/
theorem leaf_hit {r : List Int} (hr : tabsAt ws n 4 0 root = some r) (hnd : r.Nodup) {f x : Found} {q L T : Int} (hf : LeafAt ws n root f) (hx : walkAt ws n q 4 0 root = some x) (hs : Sees ws n q 4 0 root L T) (hT : T = f.fTable) (hP : placeN L q = f.fPlace) : L = f.fLevel ∧ x.fLevel = L ∧ x.fTable = T ∧ x.fPlace = f.fPlace := by
  obtain ⟨d, hd, _, _, hdk, _, t0, t1, _, _, hp, hkl⟩ := leaf_word hf.wk hf.kd
  have hsf := walk_sees _ _ _ _ hf.wk
  subst hT
  obtain ⟨e1, e2⟩ := sees_one _ _ _ _ _ _ _ hr hnd hs hsf
  subst e1
  obtain ⟨l0, l1, _, _⟩ := sees_lo _ _ _ _ _ hs
  obtain ⟨j, hj, hwk⟩ := walk_to (us := ws) _ _ _ _ _ hs (fun _ _ _ _ => rfl)
  obtain ⟨i, rfl⟩ : ∃ i, j = i + 1 := ⟨j - 1, by omega⟩
  have hdd : decD f.fLevel (ws.getD (f.fTable.toNat * 8 + (placeN f.fLevel q).toNat) 0) = d := by rw [hP]; exact hd
  have hk := hf.kd
  rw [hx, walk_step ⟨t0, t1⟩ hdd, if_neg (by omega)] at hwk
  have hxe := Option.some.inj hwk
  obtain ⟨a1, a2, a3, a4⟩ := foundD_parts d f.fLevel f.fTable (placeN f.fLevel q) q
  rw [← hxe] at a1 a2 a3 a4
  exact ⟨rfl, a1, a2, by rw [a3, hP]⟩
/-- Walks that end at one leaf's word. -/
theorem leaf_same {r : List Int} (hr : tabsAt ws n 4 0 root = some r) (hnd : r.Nodup) {f x : Found} {q : Int} (q0 : 0 ≤ q) (q1 : q < 4096) (hf : LeafAt ws n root f) (hx : walkAt ws n q 4 0 root = some x) (hT : x.fTable = f.fTable) (hP : x.fPlace = f.fPlace) : x.fLevel = f.fLevel ∧ x.fKind = f.fKind ∧ ((x.fKind = 3 ∧ q = ownF f) ∨ (x.fKind = 2 ∧ q - q % 8 = ownF f)) := by
  have hsx := walk_sees _ _ _ _ hx
  obtain ⟨_, _, hpx, _, _, _, hxf⟩ := walkAt_word 4 0 root x (by omega) (by omega) hx
  obtain ⟨d, hd, _, _, hdk, hff, t0, t1, p0, p1, hpf, hkl⟩ := leaf_word hf.wk hf.kd
  have hsf := walk_sees _ _ _ _ hf.wk
  rw [hT] at hsx
  obtain ⟨e1, e2⟩ := sees_one _ _ _ _ _ _ _ hr hnd hsx hsf
  have hk : x.fKind = f.fKind := by
    rw [hxf, (foundD_parts _ _ _ _ _).2.2.2, hT, hP, e1, ← hdk, ← hd]
    rfl
  refine ⟨e1, hk, ?_⟩
  have hpl : ∀ m, 0 ≤ m → m ≤ f.fLevel → placeN m q = placeN m (ownF f) := by
    intro m m0 m1
    by_cases hm : m = f.fLevel
    · rw [hm, ← hpf, ← hP, hpx, e1]
    · exact e2 m m0 (by omega)
  have o0 := hf.o0
  have o1 := hf.o1
  rcases hkl with ⟨hk2, hl⟩ | ⟨hk3, hl⟩
  · have := (same_block q0 q1 o0 o1).1 fun m m0 m2 => hpl m m0 (by omega)
    have := leaf_al hf hk2
    exact .inr ⟨by omega, by omega⟩
  · have h8 := (same_block q0 q1 o0 o1).1 fun m m0 m2 => hpl m m0 (by omega)
    have h3 := hpl 3 (by omega) (by omega)
    rw [place3, place3] at h3
    exact .inl ⟨by omega, by omega⟩
theorem leaf_apart {r : List Int} (hr : tabsAt ws n 4 0 root = some r) (hnd : r.Nodup) {f g : Found} (hf : LeafAt ws n root f) (hg : LeafAt ws n root g) (h : ownF f ≠ ownF g) : ¬ (f.fTable = g.fTable ∧ f.fPlace = g.fPlace) := by
  rintro ⟨h1, h2⟩
  obtain ⟨e1, e2, e3⟩ := leaf_same hr hnd hf.o0 hf.o1 hg hf.wk h1 h2
  rcases e3 with ⟨_, e⟩ | ⟨hk, e⟩
  · exact h e
  · have := leaf_al hf hk
    omega
/-- Words that are as they were but for leaves'. -/
structure Turned (ws us : List Int) (n : Nat) (root : Int) (r : List Int) (S : List Found) : Prop where
  hr : tabsAt ws n 4 0 root = some r
  hnd : r.Nodup
  leaf : ∀ f ∈ S, LeafAt ws n root f
  off : ∀ j, (∀ f ∈ S, idxF f ≠ j) → us.getD j 0 = ws.getD j 0
theorem Turned.same {r : List Int} {S : List Found} (h : Turned ws us n root r S) {q : Int} {x : Found} (hx : walkAt ws n q 4 0 root = some x) {L T : Int} (hs : Sees ws n q 4 0 root L T) (hno : ∀ f ∈ S, f.fTable = x.fTable → f.fPlace = x.fPlace → x.fLevel = L → False) : us.getD (T.toNat * 8 + (placeN L q).toNat) 0 = ws.getD (T.toNat * 8 + (placeN L q).toNat) 0 := by
  refine h.off _ fun f hf he => ?_
  obtain ⟨d, hd, _, _, hdk, _, t0, t1, p0, p1, hp, hkl⟩ := leaf_word (h.leaf f hf).wk (h.leaf f hf).kd
  obtain ⟨_, _, s0, s1⟩ := sees_lo _ _ _ _ _ hs
  have z0 := placeN_lo L q
  have z1 := placeN_hi L q
  unfold idxF at he
  obtain ⟨e1, e2, e3, e4⟩ := leaf_hit h.hr h.hnd (h.leaf f hf) hx hs (by omega) (by omega)
  exact hno f hf (by omega) e4.symm e2
/-- A walk that ends elsewhere finds what it found. -/
theorem Turned.else_ {r : List Int} {S : List Found} (h : Turned ws us n root r S) {q : Int} {x : Found} (hx : walkAt ws n q 4 0 root = some x) (hno : ∀ f ∈ S, ¬ (f.fTable = x.fTable ∧ f.fPlace = x.fPlace)) : walkAt us n q 4 0 root = some x := by
  rw [walk_same _ _ _ fun L T hs => h.same hx hs fun f hf h1 h2 _ => hno f hf ⟨h1, h2⟩]
  exact hx
/-- A walk that ends at a turned word. -/
theorem Turned.at_ {r : List Int} {S : List Found} (h : Turned ws us n root r S) {q : Int} {x : Found} (hx : walkAt ws n q 4 0 root = some x) {d : Desc} (hd : decD x.fLevel (us.getD (idxF x) 0) = d) (hk : d.fKind ≠ 1) : walkAt us n q 4 0 root = some (foundD d x.fLevel x.fTable x.fPlace q) := by
  have hsx := walk_sees _ _ _ _ hx
  obtain ⟨t0, t1, hpx, l0, l1, _, _⟩ := walkAt_word 4 0 root x (by omega) (by omega) hx
  obtain ⟨j, hj, hwk⟩ := walk_to (us := us) _ _ _ _ _ hsx (fun L' T' hlt hs' => h.same hx hs' fun f hf h1 h2 h3 => by omega)
  obtain ⟨i, rfl⟩ : ∃ i, j = i + 1 := ⟨j - 1, by omega⟩
  rw [hwk, walk_step (d := d) ⟨t0, t1⟩ (by rw [← hpx]; exact hd), if_neg hk, ← hpx]
/-- All leaves, page by page. -/
theorem pages_mem : ∀ (k : Nat) (p : Int) (l : List Found), 0 ≤ p → pagesW ws n root k p = some l → (∀ f ∈ l, LeafAt ws n root f ∧ p ≤ ownF f) ∧ l.Pairwise (fun f g => ownF f < ownF g) ∧ ∀ f, LeafAt ws n root f → p ≤ ownF f → f ∈ l := by
  intro k
  induction k with
  | zero => intro p l _ h; simp [pagesW] at h
  | succ k ih =>
    intro p l p0 h
    unfold pagesW at h
    split at h
    · rename_i p1
      split at h
      · cases h
      · rename_i g hg
        rw [Option.map_eq_some_iff] at h
        obtain ⟨l', h1, h2⟩ := h
        obtain ⟨i1, i2, i3⟩ := ih _ _ (by omega) h1
        have hle : ∀ f, LeafAt ws n root f → ownF f = p → f = g := by
          intro f hf ho
          have := hf.wk
          rw [ho, hg] at this
          exact (Option.some.inj this).symm
        split at h2
        · rename_i hc
          have hgl : g.fKind = 2 ∨ g.fKind = 3 := by omega
          obtain ⟨d, _, _, _, hdk, hgx, _⟩ := leaf_word hg hgl
          have hgo : ownF g = p := by
            rcases hc with hc | ⟨hc, hf⟩
            · rw [hgx]; exact own_page (by omega)
            · unfold ownF; rw [if_pos hc]; exact hf
          subst h2
          refine ⟨fun f hf => ?_, List.pairwise_cons.2 ⟨fun f hf => ?_, i2⟩, fun f hf hp => ?_⟩
          · rcases List.mem_cons.1 hf with rfl | hf
            · exact ⟨⟨hgl, by omega, by omega, by rw [hgo]; exact hg⟩, by omega⟩
            · have := i1 f hf; exact ⟨this.1, by omega⟩
          · have := (i1 f hf).2; omega
          · by_cases e : ownF f = p
            · rw [hle f hf e]; exact .head _
            · exact .tail _ (i3 f hf (by omega))
        · rename_i hc
          subst h2
          refine ⟨fun f hf => ⟨(i1 f hf).1, by have := (i1 f hf).2; omega⟩, i2, fun f hf hp => ?_⟩
          by_cases e : ownF f = p
          · exfalso
            have hfg := hle f hf e
            subst hfg
            apply hc
            rcases hf.kd with hk | hk
            · refine .inr ⟨hk, ?_⟩
              rw [← e]
              unfold ownF
              rw [if_pos hk]
            · exact .inl hk
          · exact i3 f hf (by omega)
    · cases h
      refine ⟨fun f hf => (by cases hf), List.Pairwise.nil, fun f hf hp => ?_⟩
      have := hf.o1
      omega
/-- Where each walk finds what it found, turned so, all leaves are those, turned so. -/
theorem pages_map (u : Found → Found) (h : ∀ q, 0 ≤ q → q < 4096 → ∃ x, walkAt ws n q 4 0 root = some x ∧ walkAt us n q 4 0 root = some (u x) ∧ (u x).fKind = x.fKind ∧ (u x).fFirst = x.fFirst) : ∀ (k : Nat) (p : Int), 0 ≤ p → pagesW us n root k p = (pagesW ws n root k p).map (List.map u) := by
  intro k
  induction k with
  | zero => intro p _; rfl
  | succ k ih =>
    intro p p0
    conv => lhs; unfold pagesW
    conv => rhs; unfold pagesW
    by_cases p1 : p < 4096
    · rw [if_pos p1, if_pos p1]
      obtain ⟨x, h1, h2, h3, h4⟩ := h p p0 p1
      rw [h1, h2]
      dsimp only
      rw [ih _ (by omega), h3, h4]
      cases pagesW ws n root k (p + 1) with
      | none => rfl
      | some l =>
        simp only [Option.map_some]
        split <;> rfl
    · rw [if_neg p1, if_neg p1]
      rfl
theorem pages_some (h : ∀ q, 0 ≤ q → q < 4096 → ∃ x, walkAt us n q 4 0 root = some x) : ∀ (k : Nat) (p : Int), 0 ≤ p → p ≤ 4096 → 4096 - p < k → ∃ l, pagesW us n root k p = some l := by
  intro k
  induction k with
  | zero =>
    intro p _ _ hk
    exfalso; omega
  | succ k ih =>
    intro p p0 p2 hk
    unfold pagesW
    by_cases p1 : p < 4096
    · rw [if_pos p1]
      obtain ⟨x, h1⟩ := h p p0 p1
      rw [h1]
      dsimp only
      obtain ⟨l, hl⟩ := ih (p + 1) (by omega) (by omega) (by omega)
      rw [hl]
      exact ⟨_, rfl⟩
    · rw [if_neg p1]
      exact ⟨_, rfl⟩
end

end Go.Proofs.Ytapeoeakiphfpaa
