import Derived.Test.YthcdecgecabgaaaBLawePlanPlancPland
import Derived.Test.YthcdecgecabgaaaBBacpSplpKeyKez
import Derived.Test.YthcdecgecabgaaaBSafeSafl
/- Plain laws behind PlanKeeps and PlanTwice: the leaves of a root; what walks find behind leaves' words that are turned. -/
namespace Go.Proofs.Ythcdecgecabgaaa
open Go.RowKit
set_option linter.unusedVariables false
set_option linter.unusedSimpArgs false

def idxF (f : Found) : Nat := f.fTable.toNat * 8 + f.fPlace.toNat
/-- A leaf of a root: what the walk of its own page finds. -/
structure LeafAt (ws : List Int) (n : Nat) (root : Int) (f : Found) : Prop where
  kd : f.fKind = 2 ∨ f.fKind = 3
  o0 : 0 ≤ ownF f
  o1 : ownF f < 4096
  wk : walkAt ws n (ownF f) 4 0 root = some f
theorem own_page {d : Desc} {L T P p : Int} (h : d.fKind = 3) : ownF (foundD d L T P p) = p := by
  unfold ownF
  rw [if_neg (by rw [(foundD_parts _ _ _ _ _).2.2.2]; omega)]
  unfold foundD
  rw [if_neg (by omega), if_pos h]
  split
  · dsimp only; omega
  · dsimp only; omega
theorem own_blk {d : Desc} {L T P p : Int} (h : d.fKind = 2) : ownF (foundD d L T P p) = p - p % 8 := by
  unfold ownF
  rw [if_pos (by rw [(foundD_parts _ _ _ _ _).2.2.2]; exact h)]
  unfold foundD
  rw [if_pos h]
section
variable {ws us : List Int} {n : Nat} {root : Int}
/-- A leaf's word. -/
theorem leaf_word {q : Int} {x : Found} (h : walkAt ws n q 4 0 root = some x) (hk : x.fKind = 2 ∨ x.fKind = 3) : ∃ d, decD x.fLevel (ws.getD (idxF x) 0) = d ∧ okD x.fLevel d = true ∧ encW d = ws.getD (idxF x) 0 ∧ d.fKind = x.fKind ∧ x = foundD d x.fLevel x.fTable x.fPlace q ∧ 0 ≤ x.fTable ∧ x.fTable < n ∧ 0 ≤ x.fPlace ∧ x.fPlace < 8 ∧ x.fPlace = placeN x.fLevel q ∧ ((x.fKind = 2 ∧ x.fLevel = 2) ∨ (x.fKind = 3 ∧ x.fLevel = 3)) := by
  obtain ⟨t0, t1, hp, l0, l1, h1, hf⟩ := walkAt_word 4 0 root x (by omega) (by omega) h
  have z0 := placeN_lo x.fLevel q
  have z1 := placeN_hi x.fLevel q
  have hkk : (decD x.fLevel (ws.getD (idxF x) 0)).fKind = x.fKind := by
    conv => rhs; rw [hf]
    rw [(foundD_parts _ _ _ _ _).2.2.2]
    rfl
  obtain ⟨o1, o2⟩ := decD_ok (level := x.fLevel) (x := ws.getD (idxF x) 0) (by omega)
  refine ⟨_, rfl, o1, o2, hkk, hf, t0, t1, by omega, by omega, hp, ?_⟩
  rcases hk with hk | hk
  · exact .inl ⟨hk, decD_block _ _ (by rw [hkk]; exact hk)⟩
  · exact .inr ⟨hk, decD_page _ _ (by rw [hkk]; exact hk)⟩
/-- The leaf at which a page's walk ends. -/
theorem leaf_of {q : Int} {x : Found} (q0 : 0 ≤ q) (q1 : q < 4096) (h : walkAt ws n q 4 0 root = some x) (hk : x.fKind = 2 ∨ x.fKind = 3) : ∃ f, LeafAt ws n root f ∧ f.fTable = x.fTable ∧ f.fPlace = x.fPlace ∧ f.fLevel = x.fLevel ∧ f.fKind = x.fKind ∧ ((x.fKind = 3 ∧ f = x ∧ ownF f = q) ∨ (x.fKind = 2 ∧ ownF f = q - q % 8)) := by
  obtain ⟨d, hd, _, _, hdk, hx, t0, t1, _, _, hp, hkl⟩ := leaf_word h hk
  rcases hkl with ⟨hk2, hl⟩ | ⟨hk3, hl⟩
  · obtain ⟨d', t, pl, _, _, hs⟩ := walkAt_same 4 0 root x (by omega) (by omega) h
    rw [hl] at hs
    have e1 := hs q rfl
    have e2 := hs (q - q % 8) (by have : spanL 2 = 8 := by decide
                                  rw [this]; omega)
    rw [h] at e1
    have e1 := Option.some.inj e1
    obtain ⟨a1, a2, a3, a4⟩ := foundD_parts d' 2 t pl q
    obtain ⟨b1, b2, b3, b4⟩ := foundD_parts d' 2 t pl (q - q % 8)
    rw [← e1] at a1 a2 a3 a4
    have ho := own_blk (d := d') (L := 2) (T := t) (P := pl) (p := q - q % 8) (by omega)
    have ho : ownF (foundD d' 2 t pl (q - q % 8)) = q - q % 8 := by rw [ho]; omega
    exact ⟨_, ⟨.inl (by omega), by omega, by omega, by rw [ho]; exact e2⟩, by omega, by omega, by omega, by omega, .inr ⟨hk2, ho⟩⟩
  · have ho : ownF x = q := by rw [hx]; exact own_page (by omega)
    exact ⟨x, ⟨.inr hk3, by omega, by omega, by rw [ho]; exact h⟩, rfl, rfl, rfl, rfl, .inl ⟨hk3, rfl, ho⟩⟩
theorem leaf_al {f : Found} (h : LeafAt ws n root f) (hk : f.fKind = 2) : ownF f % 8 = 0 := by
  obtain ⟨d, _, _, _, hdk, hx, _⟩ := leaf_word h.wk h.kd
  have := own_blk (d := d) (L := f.fLevel) (T := f.fTable) (P := f.fPlace) (p := ownF f) (by omega)
  rw [← hx] at this
  omega
/-- A walk that comes by a leaf's word ends there. -/
theorem leaf_hit {r : List Int} (hr : tabsAt ws n 4 0 root = some r) (hnd : r.Nodup) {f x : Found} {q L T : Int} (hf : LeafAt ws n root f) (hx : walkAt ws n q 4 0 root = some x) (hs : Sees ws n q 4 0 root L T) (hT : T = f.fTable) (hP : placeN L q = f.fPlace) : L = f.fLevel ∧ x.fLevel = L ∧ x.fTable = T ∧ x.fPlace = f.fPlace := by
  obtain ⟨d, hd, _, _, hdk, _, t0, t1, _, _, hp, hkl⟩ := leaf_word hf.wk hf.kd
  have hsf := walk_sees _ _ _ _ hf.wk
  subst hT
  obtain ⟨e1, e2⟩ := sees_one _ _ _ _ _ _ _ hr hnd hs hsf
  subst e1
  obtain ⟨l0, l1, _, _⟩ := sees_lo _ _ _ _ _ hs
  obtain ⟨j, hj, hwk⟩ := walk_to (us := ws) _ _ _ _ _ hs (fun _ _ _ _ => rfl)
  obtain ⟨i, rfl⟩ : ∃ i, j = i + 1 := ⟨j - 1, by omega⟩
  have hdd : decD f.fLevel (ws.getD (f.fTable.toNat * 8 + (placeN f.fLevel q).toNat) 0) = d := by rw [hP]; exact hd
  have hk := hf.kd
  rw [hx, walk_step ⟨t0, t1⟩ hdd, if_neg (by omega)] at hwk
  have hxe := Option.some.inj hwk
  obtain ⟨a1, a2, a3, a4⟩ := foundD_parts d f.fLevel f.fTable (placeN f.fLevel q) q
  rw [← hxe] at a1 a2 a3 a4
  exact ⟨rfl, a1, a2, by rw [a3, hP]⟩
/-- Walks that end at one leaf's word. -/
theorem leaf_same {r : List Int} (hr : tabsAt ws n 4 0 root = some r) (hnd : r.Nodup) {f x : Found} {q : Int} (q0 : 0 ≤ q) (q1 : q < 4096) (hf : LeafAt ws n root f) (hx : walkAt ws n q 4 0 root = some x) (hT : x.fTable = f.fTable) (hP : x.fPlace = f.fPlace) : x.fLevel = f.fLevel ∧ x.fKind = f.fKind ∧ ((x.fKind = 3 ∧ q = ownF f) ∨ (x.fKind = 2 ∧ q - q % 8 = ownF f)) := by
  have hsx := walk_sees _ _ _ _ hx
  obtain ⟨_, _, hpx, _, _, _, hxf⟩ := walkAt_word 4 0 root x (by omega) (by omega) hx
  obtain ⟨d, hd, _, _, hdk, hff, t0, t1, p0, p1, hpf, hkl⟩ := leaf_word hf.wk hf.kd
  have hsf := walk_sees _ _ _ _ hf.wk
  rw [hT] at hsx
  obtain ⟨e1, e2⟩ := sees_one _ _ _ _ _ _ _ hr hnd hsx hsf
  have hk : x.fKind = f.fKind := by
    rw [hxf, (foundD_parts _ _ _ _ _).2.2.2, hT, hP, e1, ← hdk, ← hd]
    rfl
  refine ⟨e1, hk, ?_⟩
  have hpl : ∀ m, 0 ≤ m → m ≤ f.fLevel → placeN m q = placeN m (ownF f) := by
    intro m m0 m1
    by_cases hm : m = f.fLevel
    · rw [hm, ← hpf, ← hP, hpx, e1]
    · exact e2 m m0 (by omega)
  have o0 := hf.o0
  have o1 := hf.o1
  rcases hkl with ⟨hk2, hl⟩ | ⟨hk3, hl⟩
  · have := (same_block q0 q1 o0 o1).1 fun m m0 m2 => hpl m m0 (by omega)
    have := leaf_al hf hk2
    exact .inr ⟨by omega, by omega⟩
  · have h8 := (same_block q0 q1 o0 o1).1 fun m m0 m2 => hpl m m0 (by omega)
    have h3 := hpl 3 (by omega) (by omega)
    rw [place3, place3] at h3
    exact .inl ⟨by omega, by omega⟩
theorem leaf_apart {r : List Int} (hr : tabsAt ws n 4 0 root = some r) (hnd : r.Nodup) {f g : Found} (hf : LeafAt ws n root f) (hg : LeafAt ws n root g) (h : ownF f ≠ ownF g) : ¬ (f.fTable = g.fTable ∧ f.fPlace = g.fPlace) := by
  rintro ⟨h1, h2⟩
  obtain ⟨e1, e2, e3⟩ := leaf_same hr hnd hf.o0 hf.o1 hg hf.wk h1 h2
  rcases e3 with ⟨_, e⟩ | ⟨hk, e⟩
  · exact h e
  · have := leaf_al hf hk
    omega
/-- Words that are as they were but for leaves'. -/
structure Turned (ws us : List Int) (n : Nat) (root : Int) (r : List Int) (S : List Found) : Prop where
  hr : tabsAt ws n 4 0 root = some r
  hnd : r.Nodup
  leaf : ∀ f ∈ S, LeafAt ws n root f
  off : ∀ j, (∀ f ∈ S, idxF f ≠ j) → us.getD j 0 = ws.getD j 0
theorem Turned.same {r : List Int} {S : List Found} (h : Turned ws us n root r S) {q : Int} {x : Found} (hx : walkAt ws n q 4 0 root = some x) {L T : Int} (hs : Sees ws n q 4 0 root L T) (hno : ∀ f ∈ S, f.fTable = x.fTable → f.fPlace = x.fPlace → x.fLevel = L → False) : us.getD (T.toNat * 8 + (placeN L q).toNat) 0 = ws.getD (T.toNat * 8 + (placeN L q).toNat) 0 := by
  refine h.off _ fun f hf he => ?_
  obtain ⟨d, hd, _, _, hdk, _, t0, t1, p0, p1, hp, hkl⟩ := leaf_word (h.leaf f hf).wk (h.leaf f hf).kd
  obtain ⟨_, _, s0, s1⟩ := sees_lo _ _ _ _ _ hs
  have z0 := placeN_lo L q
  have z1 := placeN_hi L q
  unfold idxF at he
  obtain ⟨e1, e2, e3, e4⟩ := leaf_hit h.hr h.hnd (h.leaf f hf) hx hs (by omega) (by omega)
  exact hno f hf (by omega) e4.symm e2
/-- A walk that ends elsewhere finds what it found. -/
theorem Turned.else_ {r : List Int} {S : List Found} (h : Turned ws us n root r S) {q : Int} {x : Found} (hx : walkAt ws n q 4 0 root = some x) (hno : ∀ f ∈ S, ¬ (f.fTable = x.fTable ∧ f.fPlace = x.fPlace)) : walkAt us n q 4 0 root = some x := by
  rw [walk_same _ _ _ fun L T hs => h.same hx hs fun f hf h1 h2 _ => hno f hf ⟨h1, h2⟩]
  exact hx
/-- A walk that ends at a turned word. -/
theorem Turned.at_ {r : List Int} {S : List Found} (h : Turned ws us n root r S) {q : Int} {x : Found} (hx : walkAt ws n q 4 0 root = some x) {d : Desc} (hd : decD x.fLevel (us.getD (idxF x) 0) = d) (hk : d.fKind ≠ 1) : walkAt us n q 4 0 root = some (foundD d x.fLevel x.fTable x.fPlace q) := by
  have hsx := walk_sees _ _ _ _ hx
  obtain ⟨t0, t1, hpx, l0, l1, _, _⟩ := walkAt_word 4 0 root x (by omega) (by omega) hx
  obtain ⟨j, hj, hwk⟩ := walk_to (us := us) _ _ _ _ _ hsx (fun L' T' hlt hs' => h.same hx hs' fun f hf h1 h2 h3 => by omega)
  obtain ⟨i, rfl⟩ : ∃ i, j = i + 1 := ⟨j - 1, by omega⟩
  rw [hwk, walk_step (d := d) ⟨t0, t1⟩ (by rw [← hpx]; exact hd), if_neg hk, ← hpx]
/-- All leaves, page by page. -/
theorem pages_mem : ∀ (k : Nat) (p : Int) (l : List Found), 0 ≤ p → pagesW ws n root k p = some l → (∀ f ∈ l, LeafAt ws n root f ∧ p ≤ ownF f) ∧ l.Pairwise (fun f g => ownF f < ownF g) ∧ ∀ f, LeafAt ws n root f → p ≤ ownF f → f ∈ l := by
  intro k
  induction k with
  | zero => intro p l _ h; simp [pagesW] at h
  | succ k ih =>
    intro p l p0 h
    unfold pagesW at h
    split at h
    · rename_i p1
      split at h
      · cases h
      · rename_i g hg
        rw [Option.map_eq_some_iff] at h
        obtain ⟨l', h1, h2⟩ := h
        obtain ⟨i1, i2, i3⟩ := ih _ _ (by omega) h1
        have hle : ∀ f, LeafAt ws n root f → ownF f = p → f = g := by
          intro f hf ho
          have := hf.wk
          rw [ho, hg] at this
          exact (Option.some.inj this).symm
        split at h2
        · rename_i hc
          have hgl : g.fKind = 2 ∨ g.fKind = 3 := by omega
          obtain ⟨d, _, _, _, hdk, hgx, _⟩ := leaf_word hg hgl
          have hgo : ownF g = p := by
            rcases hc with hc | ⟨hc, hf⟩
            · rw [hgx]; exact own_page (by omega)
            · unfold ownF; rw [if_pos hc]; exact hf
          subst h2
          refine ⟨fun f hf => ?_, List.pairwise_cons.2 ⟨fun f hf => ?_, i2⟩, fun f hf hp => ?_⟩
          · rcases List.mem_cons.1 hf with rfl | hf
            · exact ⟨⟨hgl, by omega, by omega, by rw [hgo]; exact hg⟩, by omega⟩
            · have := i1 f hf; exact ⟨this.1, by omega⟩
          · have := (i1 f hf).2; omega
          · by_cases e : ownF f = p
            · rw [hle f hf e]; exact .head _
            · exact .tail _ (i3 f hf (by omega))
        · rename_i hc
          subst h2
          refine ⟨fun f hf => ⟨(i1 f hf).1, by have := (i1 f hf).2; omega⟩, i2, fun f hf hp => ?_⟩
          by_cases e : ownF f = p
          · exfalso
            have hfg := hle f hf e
            subst hfg
            apply hc
            rcases hf.kd with hk | hk
            · refine .inr ⟨hk, ?_⟩
              rw [← e]
              unfold ownF
              rw [if_pos hk]
            · exact .inl hk
          · exact i3 f hf (by omega)
    · cases h
      refine ⟨fun f hf => (by cases hf), List.Pairwise.nil, fun f hf hp => ?_⟩
      have := hf.o1
      omega
/-- Where each walk finds what it found, turned so, all leaves are those, turned so. -/
theorem pages_map (u : Found → Found) (h : ∀ q, 0 ≤ q → q < 4096 → ∃ x, walkAt ws n q 4 0 root = some x ∧ walkAt us n q 4 0 root = some (u x) ∧ (u x).fKind = x.fKind ∧ (u x).fFirst = x.fFirst) : ∀ (k : Nat) (p : Int), 0 ≤ p → pagesW us n root k p = (pagesW ws n root k p).map (List.map u) := by
  intro k
  induction k with
  | zero => intro p _; rfl
  | succ k ih =>
    intro p p0
    conv => lhs; unfold pagesW
    conv => rhs; unfold pagesW
    by_cases p1 : p < 4096
    · rw [if_pos p1, if_pos p1]
      obtain ⟨x, h1, h2, h3, h4⟩ := h p p0 p1
      rw [h1, h2]
      dsimp only
      rw [ih _ (by omega), h3, h4]
      cases pagesW ws n root k (p + 1) with
      | none => rfl
      | some l =>
        simp only [Option.map_some]
        split <;> rfl
    · rw [if_neg p1, if_neg p1]
      rfl
theorem pages_some (h : ∀ q, 0 ≤ q → q < 4096 → ∃ x, walkAt us n q 4 0 root = some x) : ∀ (k : Nat) (p : Int), 0 ≤ p → p ≤ 4096 → 4096 - p < k → ∃ l, pagesW us n root k p = some l := by
  intro k
  induction k with
  | zero =>
    intro p _ _ hk
    exfalso; omega
  | succ k ih =>
    intro p p0 p2 hk
    unfold pagesW
    by_cases p1 : p < 4096
    · rw [if_pos p1]
      obtain ⟨x, h1⟩ := h p p0 p1
      rw [h1]
      dsimp only
      obtain ⟨l, hl⟩ := ih (p + 1) (by omega) (by omega) (by omega)
      rw [hl]
      exact ⟨_, rfl⟩
    · rw [if_neg p1]
      exact ⟨_, rfl⟩
end

end Go.Proofs.Ythcdecgecabgaaa

/- Plain laws behind HugeParts: the steps that part a block. -/
namespace Go.Proofs.Ythcdecgecabgaaa
open Go.RowKit
set_option linter.unusedVariables false
set_option linter.unusedSimpArgs false

theorem encW_odd {d : Desc} (hk : d.fKind = 1 ∨ d.fKind = 2 ∨ d.fKind = 3) : encW d % 2 = 1 := by
  unfold encW
  rcases hk with h | h | h
  · rw [if_neg (by omega), if_pos h]; omega
  · rw [if_neg (by omega), if_neg (by omega), if_neg (show ¬ d.fKind = 3 by omega), if_pos h]
    split <;> split <;> split <;> split <;> omega
  · rw [if_neg (by omega), if_neg (by omega), if_pos h]
    split <;> split <;> split <;> split <;> omega
theorem encW_range {lv : Int} {d : Desc} (h : okD lv d = true) : 0 ≤ encW d ∧ encW d < 18446744073709551616 := by
  obtain ⟨_, _, h0, h1, h3, h4, _⟩ := okD_parts h
  unfold encW
  split
  · omega
  · split
    · omega
    · split <;> split <;> split <;> split <;> (try split) <;> (try split) <;> omega
theorem firstP_block (p : Int) : firstP (p - p % 8) ((2 : Nat) : Int) = p - p % 8 := by
  unfold firstP
  rw [show spanL ((2 : Nat) : Int) = 8 from by decide]
  omega
theorem firstP_page (p : Int) : firstP p ((3 : Nat) : Int) = p := by
  unfold firstP
  rw [show spanL ((3 : Nat) : Int) = 1 from by decide]
  omega
/-- What is behind the steps that part a block. -/
theorem split_behind {ws : List Int} {n : Nat} {root asid page fresh : Int} {r : List Int} {f : Found} (hn : n ≤ 512) (hw : ws.length = n * 8) (r0 : 0 ≤ root) (r1 : root < n) (a0 : 0 ≤ asid) (a1 : asid ≤ 255) (p0 : 0 ≤ page) (p1 : page < 4096) (f0 : 0 ≤ fresh) (f1 : fresh < n)
    (hr : tabsAt ws n 4 0 root = some r) (hnd : (r ++ [fresh]).Nodup) (hf : walkAt ws n page 4 0 root = some f) (hk : f.fKind = 2) :
    (∀ s ∈ splitS asid fresh f (decD 2 (wordF ws f)), StepOk s) ∧ Safe n ws [] (splitS asid fresh f (decD 2 (wordF ws f))) ∧
    ∀ q : Int, 0 ≤ q → q < 4096 → ∃ x y, walkAt ws n q 4 0 root = some x ∧ walkAt (doW n ws (splitS asid fresh f (decD 2 (wordF ws f)))) n q 4 0 root = some y ∧
      (q / 8 = page / 8 → y.fKind = 3 ∧ y.fOrder = 0 ∧ y.fFrame = x.fFrame ∧ y.fWrite = x.fWrite ∧ y.fExec = x.fExec) ∧ (q / 8 ≠ page / 8 → y = x) := by
  obtain ⟨hl, hfirst, T0, T1, P0, P1, d, hd, hok, hdk⟩ := walk_block hf hk
  obtain ⟨h1, h2, h3, _, _, _, hfd⟩ := walkAt_word 4 0 root f (by omega) (by omega) hf
  have hwd : decD 2 (wordF ws f) = d := hd
  rw [hwd]
  obtain ⟨dfo, dmod, df0, df8⟩ := okD_block hok hdk
  have hsee := walk_sees _ _ _ _ hf
  rw [hl] at hsee h3
  obtain ⟨hrd, _, hrf⟩ := List.nodup_append.1 hnd
  have hTr := sees_in _ _ _ _ _ _ hr hsee
  have hTf : f.fTable ≠ fresh := fun e => hrf _ hTr fresh (by simp) e
  generalize hTT : f.fTable = T at *
  generalize hPP : f.fPlace = P at *
  have hffe : f.fFirst = page - page % 8 := hfirst
  -- the words behind the steps
  have hpart : ∀ i : Nat, i < 8 → okD 3 (partD d i) = true := fun i hi => okD_part hok hdk i hi
  have hWp : ∀ s ∈ partsN asid fresh f.fFirst d 8, WrOk n s ∧ s.fValue % 2 = 1 ∧ ∃ i : Nat, i < 8 ∧ s.fTable = fresh ∧ s.fPlace = i ∧ s.fValue = encW (partD d i) := by
    intro s hs
    obtain ⟨i, hi, rfl⟩ := List.mem_map.1 hs
    have hi := List.mem_range.1 hi
    refine ⟨⟨rfl, ⟨3, rfl, ⟨a0, a1, by omega, f0, by show fresh < 512; omega, by show (0 : Int) ≤ (i : Int); omega, by show (i : Int) < 8; omega, by show 0 ≤ f.fFirst + (i : Int); omega, by show f.fFirst + (i : Int) < 4096; omega, firstP_page _⟩⟩, f1, encW_range (hpart i hi)⟩, show encW (partD d i) % 2 = 1 from encW_odd (.inr (.inr rfl)), i, hi, rfl, rfl, rfl⟩
  have hPw : (partsN asid fresh f.fFirst d 8).Pairwise apartS := by
    unfold partsN
    rw [List.pairwise_map]
    refine List.Pairwise.imp ?_ List.pairwise_lt_range
    intro a b hab h
    have : (a : Int) = (b : Int) := h.2
    omega
  have hclose : WrOk n (wr0 asid 2 T P f.fFirst 0) := ⟨rfl, ⟨2, rfl, ⟨a0, a1, by omega, T0, by show T < 512; omega, P0, P1, by show 0 ≤ f.fFirst; omega, by show f.fFirst < 4096; omega, by show firstP f.fFirst ((2 : Nat) : Int) = f.fFirst; rw [hffe]; exact firstP_block page⟩⟩, T1, ⟨show (0 : Int) ≤ 0 by omega, show (0 : Int) < 18446744073709551616 by omega⟩⟩
  have hopen : WrOk n (wr0 asid 2 T P f.fFirst (fresh * 4096 + 3)) := ⟨rfl, hclose.lv, T1, ⟨by show 0 ≤ fresh * 4096 + 3; omega, by show fresh * 4096 + 3 < _; omega⟩⟩
  have hT : ∀ s ∈ tellsN asid f.fFirst 8, s.fKind = 2 ∧ 0 ≤ s.fFirst ∧ s.fFirst < 4096 := tellsN_in asid f.fFirst 8 (by omega) (by omega)
  have hcl : stepW n ws (clearS fresh) = clearW ws fresh.toNat := stepW_clear ⟨f0, f1⟩
  have hwl : (clearW ws fresh.toNat).length = n * 8 := by rw [clearW_len]; exact hw
  have hoff : ∀ vs : List Int, ∀ j : Nat, (∀ i : Nat, i < 8 → fresh.toNat * 8 + i ≠ j) → (doW n vs (partsN asid fresh f.fFirst d 8)).getD j 0 = vs.getD j 0 := by
    intro vs j hj
    refine writes_off _ _ _ (fun s hs => (hWp s hs).1) fun s hs => ?_
    obtain ⟨_, _, i, hi, e1, e2, _⟩ := hWp s hs
    unfold idxS
    rw [e1, e2]
    exact hj i hi
  have hat : ∀ vs : List Int, vs.length = n * 8 → ∀ i : Nat, i < 8 → (doW n vs (partsN asid fresh f.fFirst d 8)).getD (fresh.toNat * 8 + i) 0 = encW (partD d i) := by
    intro vs hvl i hi
    exact writes_at _ vs (fun s hs => (hWp s hs).1) hPw hvl (wr0 asid 3 fresh i (f.fFirst + (i : Int)) (encW (partD d i))) (List.mem_map.2 ⟨i, List.mem_range.2 hi, rfl⟩)
  obtain ⟨us1, hus1⟩ : ∃ us1, doW n (clearW ws fresh.toNat) (partsN asid fresh f.fFirst d 8) = us1 := ⟨_, rfl⟩
  have hl1 : us1.length = n * 8 := by rw [← hus1, doW_len]; exact hwl
  have hold : us1.getD (T.toNat * 8 + P.toNat) 0 = ws.getD (T.toNat * 8 + P.toNat) 0 := by
    rw [← hus1, hoff _ _ (fun i hi => by omega), clearW_off _ _ _ (by omega)]
  have hwo : ws.getD (T.toNat * 8 + P.toNat) 0 = encW d := by
    have := (decD_ok (level := 2) (x := ws.getD (T.toNat * 8 + P.toNat) 0) (by rw [hd, hdk]; omega)).2
    rw [hd] at this
    exact this.symm
  have hOdd : ws.getD (T.toNat * 8 + P.toNat) 0 % 2 = 1 := by rw [hwo]; exact encW_odd (.inr (.inl hdk))
  have htells : ∀ vs : List Int, doW n vs (tellsN asid f.fFirst 8) = vs := by
    intro vs
    have key : ∀ (l : List Step) (vs : List Int), (∀ s ∈ l, s.fKind = 2) → doW n vs l = vs := by
      intro l
      induction l with
      | nil => intro vs _; rfl
      | cons s l ih => intro vs h; rw [doW_cons, stepW_none (by rw [h s (.head _)]; omega) (by rw [h s (.head _)]; omega) (by rw [h s (.head _)]; omega)]; exact ih vs fun x hx => h x (.tail _ hx)
    exact key _ _ fun s hs => (hT s hs).1
  obtain ⟨us, hus⟩ : ∃ us, doW n ws (splitS asid fresh f d) = us := ⟨_, rfl⟩
  have huse : us = us1.set (T.toNat * 8 + P.toNat) (fresh * 4096 + 3) := by
    rw [← hus]
    unfold splitS swapS
    rw [hTT, hPP, List.cons_append, doW_cons, hcl, doW_append, hus1, doW_cons, doW_append, htells, hclose.step]
    rw [doW_cons, hopen.step]
    show ((us1.set (T.toNat * 8 + P.toNat) 0).set (T.toNat * 8 + P.toNat) (fresh * 4096 + 3)) = _
    rw [List.set_set]
  rw [hus]
  refine ⟨?_, ?_, ?_⟩
  · intro s hs
    unfold splitS swapS at hs
    rw [hTT, hPP] at hs
    simp only [List.mem_append, List.mem_cons, List.cons_append, List.not_mem_nil, or_false] at hs
    rcases hs with rfl | hs | rfl | hs | rfl
    · exact ⟨show (0 : Int) ≤ 0 by omega, show (0 : Int) < 18446744073709551616 by omega⟩
    · exact (hWp s hs).1.ok
    · exact hclose.ok
    · obtain ⟨i, _, rfl⟩ := List.mem_map.1 hs
      exact ⟨show (0 : Int) ≤ 0 by omega, show (0 : Int) < 18446744073709551616 by omega⟩
    · exact hopen.ok
  · have hsp : splitS asid fresh f d = clearS fresh :: (partsN asid fresh f.fFirst d 8 ++ ([wr0 asid 2 T P f.fFirst 0] ++ (tellsN asid f.fFirst 8 ++ ([wr0 asid 2 T P f.fFirst (fresh * 4096 + 3)] ++ [])))) := by
      unfold splitS swapS
      rw [hTT, hPP]
      simp
    rw [hsp]
    refine .pass (.inl rfl) ⟨show (0 : Int) ≤ 0 by omega, show (0 : Int) < 18446744073709551616 by omega⟩ ?_
    rw [hcl]
    refine safe_opens _ _ [] _ (fun s hs => ⟨(hWp s hs).1, (hWp s hs).2.1, ?_⟩) hPw (fun g hg => by cases hg) fun G' hG' => ?_
    · obtain ⟨_, _, i, hi, e1, e2, _⟩ := hWp s hs
      unfold idxS
      rw [e1, e2, Int.toNat_natCast, clearW_at _ _ _ hi (by omega)]
      rfl
    · obtain rfl : G' = [] := by
        cases G' with
        | nil => rfl
        | cons g _ => cases hG' g (.head _)
      rw [hus1]
      refine safe_swap (fun s hs => ?_) (by simp) hT (fun c hc i hi => ?_) (fun s hs => ?_) (by simp) fun G' _ => .nil _ _
      · rw [List.mem_singleton.1 hs]
        exact ⟨hclose, rfl, by show us1.getD (T.toNat * 8 + P.toNat) 0 % 2 = 1; rw [hold]; exact hOdd⟩
      · rw [List.mem_singleton.1 hc] at hi ⊢
        exact tellsN_has asid f.fFirst 8 i hi
      · rw [List.mem_singleton.1 hs]
        refine ⟨hopen, by show (fresh * 4096 + 3) % 2 = 1; omega, ?_⟩
        show (doW n us1 [wr0 asid 2 T P f.fFirst 0]).getD (T.toNat * 8 + P.toNat) 0 % 2 = 0
        rw [doW_cons, hclose.step]
        show ((us1.set (T.toNat * 8 + P.toNat) 0).getD (T.toNat * 8 + P.toNat) 0) % 2 = 0
        rw [getD_setI, if_pos ⟨rfl, by omega⟩]
        rfl
  · have hword : ∀ L' T' q, Sees ws n q 4 0 root L' T' → ¬ (T' = T ∧ placeN L' q = P) → us.getD (T'.toNat * 8 + (placeN L' q).toNat) 0 = ws.getD (T'.toNat * 8 + (placeN L' q).toNat) 0 := by
      intro L' T' q hs' hne
      obtain ⟨_, _, t0, t1⟩ := sees_lo _ _ _ _ _ hs'
      have hT'r := sees_in _ _ _ _ _ _ hr hs'
      have hT'f : T' ≠ fresh := fun e => hrf _ hT'r fresh (by simp) e
      have q0 := placeN_lo L' q
      have q1 := placeN_hi L' q
      rw [huse, getD_setI, if_neg (fun hh => hne ⟨by omega, by omega⟩), ← hus1, hoff _ _ (fun i hi => by omega), clearW_off _ _ _ (by omega)]
    intro q q0 q1
    obtain ⟨x, hx⟩ := tabs_walk (page := q) 3 0 root r (by omega) (by omega) hr
    refine ⟨x, ?_⟩
    by_cases hq : q / 8 = page / 8
    · have hpl := (same_block p0 p1 q0 q1).2 hq.symm
      have hq2 := sees_follow 4 0 root 2 T (q := q) (fun m m0 m2 => hpl m m0 (by omega)) hsee
      have hP2 : placeN 2 q = P := by rw [← hpl 2 (by omega) (by omega)]; exact h3.symm
      obtain ⟨j, hj, hwk⟩ := walk_to (us := ws) _ _ _ _ _ hq2 (fun _ _ _ _ => rfl)
      obtain ⟨j', hj', hwk'⟩ := walk_to (us := us) _ _ _ _ _ hq2 (fun L' T' hlt hs' => hword L' T' q hs' (fun hh => by
        have := (sees_one _ _ _ _ _ _ _ hr hrd (hh.1 ▸ hs') hq2).1
        omega))
      obtain rfl : j = 2 := by omega
      obtain rfl : j' = 2 := by omega
      rw [hx, walk_step (d := d) ⟨T0, T1⟩ (by rw [hP2]; exact hd), if_neg (by omega)] at hwk
      have hw2 : us.getD (T.toNat * 8 + P.toNat) 0 = fresh * 4096 + 3 := by rw [huse, getD_setI, if_pos ⟨rfl, by omega⟩]
      have hi0 := placeN_lo 3 q
      have hi1 := placeN_hi 3 q
      obtain ⟨i, hi⟩ := Int.eq_ofNat_of_zero_le hi0
      have hi8 : i < 8 := by omega
      have hw3 : us.getD (fresh.toNat * 8 + i) 0 = encW (partD d i) := by
        rw [huse, getD_setI, if_neg (fun hh => by omega), ← hus1]
        exact hat _ hwl i hi8
      refine ⟨foundD (partD d i) 3 fresh i q, hx, ?_, fun _ => ?_, fun h => absurd hq h⟩
      · rw [hwk', walk_step (d := tableD fresh) ⟨T0, T1⟩ (by rw [hP2, hw2]; exact dec_tab (by omega) (by omega) f0 (by omega)), if_pos (show (tableD fresh).fKind = 1 from rfl)]
        show walkAt us n q 1 3 fresh = _
        rw [walk_step (d := partD d i) ⟨f0, f1⟩ (by rw [hi, Int.toNat_natCast, hw3]; exact dec_enc (hpart i hi8)), if_neg (by show ¬ (3 : Int) = 1; omega), hi]
      · have hxe := Option.some.inj hwk
        have hi' : (i : Int) = q % 8 := by rw [← hi, place3]; omega
        have e3 : foundD (partD d i) 3 fresh i q = ⟨3, 3, fresh, i, d.fFrame + i, 0, q, d.fFrame + i, d.fWrite, d.fExec, d.fSeen⟩ := by
          unfold foundD partD
          dsimp only
          rw [if_neg (by omega), if_pos rfl, dfo]
          rfl
        have e2 : foundD d 2 T (placeN 2 q) q = ⟨2, 2, T, placeN 2 q, d.fFrame + q % 8, 3, q - q % 8, d.fFrame, d.fWrite, d.fExec, d.fSeen⟩ := by
          unfold foundD
          rw [if_pos hdk]
        rw [e2] at hxe
        rw [e3, hxe, hi']
        exact ⟨rfl, rfl, rfl, rfl, rfl⟩
    · refine ⟨x, hx, ?_, fun h => absurd h hq, fun _ => rfl⟩
      rw [walk_same _ _ _ (fun L' T' hs' => hword L' T' q hs' (fun hh => ?_))]
      · exact hx
      · obtain ⟨e1, e2⟩ := hh
        rw [e1] at hs'
        obtain ⟨e3, e4⟩ := sees_one _ _ _ _ _ _ _ hr hrd hs' hsee
        subst e3
        refine hq ((same_block q0 q1 p0 p1).1 fun m m0 m2 => ?_)
        by_cases hm : m = 2
        · rw [hm, e2]; exact h3
        · exact e4 m m0 (by omega)

end Go.Proofs.Ythcdecgecabgaaa
