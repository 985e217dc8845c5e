import Derived.Test.YthcdecgecabgaaaBMovnInMovs
import Derived.Test.YthcdecgecabgaaaBPlapHugp
/- Plain laws behind MoveBack and MoveKeeps: what the steps of Move leave; walks behind them. -/
namespace Go.Proofs.Ythcdecgecabgaaa
open Go.RowKit
set_option linter.unusedVariables false
set_option linter.unusedSimpArgs false

/-- The tables of all roots are unlike, and neither frame is one. -/
structure MoveTabs (ws : List Int) (n : Nat) (roots : List (Int × Int)) (frm to : Int) (ts : List (List Int)) : Prop where
  len : ts.length = roots.length
  tab : ∀ (i : Nat) t, ts[i]? = some t → tabsAt ws n 4 0 (roots.getD i (0, 0)).2 = some t
  nd : (frm :: to :: ts.flatten).Nodup
section
variable {ws us : List Int} {n : Nat} {roots pages : List (Int × Int)} {frm to : Int} {ts : List (List Int)} {out : List Place}
theorem MoveTabs.flat (h : MoveTabs ws n roots frm to ts) : (∀ t ∈ ts, t.Nodup) ∧ (∀ (i j : Nat) t u x, ts[i]? = some t → ts[j]? = some u → x ∈ t → x ∈ u → i = j) ∧ (∀ t ∈ ts, frm ∉ t ∧ to ∉ t) ∧ frm ≠ to := by
  obtain ⟨h1, h2⟩ := List.nodup_cons.1 h.nd
  obtain ⟨h3, h4⟩ := List.nodup_cons.1 h2
  have h5 := List.pairwise_flatten.1 h4
  refine ⟨fun t ht => h5.1 t ht, fun i j t u x hi hj hx hu => ?_, fun t ht => ⟨fun hf => h1 (.tail _ (List.mem_flatten.2 ⟨t, ht, hf⟩)), fun hf => h3 (List.mem_flatten.2 ⟨t, ht, hf⟩)⟩, fun e => h1 (by rw [e]; exact .head _)⟩
  have key : ∀ (a b : Nat) t u, a < b → ts[a]? = some t → ts[b]? = some u → x ∈ t → x ∈ u → False := by
    intro a b t u hab ha hb hx hu
    obtain ⟨la, ea⟩ := List.getElem?_eq_some_iff.1 ha
    obtain ⟨lb, eb⟩ := List.getElem?_eq_some_iff.1 hb
    have hp := List.pairwise_iff_getElem.1 h5.2 a b la lb hab
    rw [ea, eb] at hp
    exact hp x hx x hu rfl
  rcases Nat.lt_trichotomy i j with hlt | he | hgt
  · exact absurd (key i j t u hlt hi hj hx hu) id
  · exact he
  · exact absurd (key j i u t hgt hj hi hu hx) id
theorem MoveTabs.get (h : MoveTabs ws n roots frm to ts) {i : Nat} (hi : i < roots.length) : ∃ t, ts[i]? = some t ∧ tabsAt ws n 4 0 (roots.getD i (0, 0)).2 = some t ∧ t.Nodup ∧ t ∈ ts := by
  have hl : i < ts.length := by rw [h.len]; exact hi
  have hz := List.getElem?_eq_getElem hl
  exact ⟨ts[i], hz, h.tab i _ hz, h.flat.1 _ (List.getElem_mem hl), List.getElem_mem hl⟩
/-- A place's page, and where its word lies. -/
structure SlotOk (ws : List Int) (n : Nat) (roots : List (Int × Int)) (frm : Int) (ts : List (List Int)) (x : Int × Int) (p : Place) (q : Nat) (t : List Int) (f : Found) : Prop where
  qi : q < roots.length
  qt : ts[q]? = some t
  asid : (roots.getD q (0, 0)).1 = x.1
  fst : ∀ j : Nat, j < q → (roots.getD j (0, 0)).1 ≠ x.1
  wk : walkAt ws n x.2 4 0 (roots.getD q (0, 0)).2 = some f
  leaf : LeafAt ws n (roots.getD q (0, 0)).2 f
  own : ownF f = x.2
  kd : f.fKind = 3
  tb : p.tb = f.fTable
  pl : p.pl = f.fPlace
  lv : f.fLevel = 3
  mem : p.tb ∈ t
  t0 : 0 ≤ p.tb
  t1 : p.tb < n
  q0 : 0 ≤ p.pl
  q1 : p.pl < 8
theorem slot_ok (hT : MoveTabs ws n roots frm to ts) {x : Int × Int} {p : Place} (h : PlaceOk ws n roots frm x p) : ∃ q t f, SlotOk ws n roots frm ts x p q t f ∧ f = foundD p.says 3 p.tb p.pl x.2 ∧ f.fOrder = 0 := by
  obtain ⟨q, f, hq, hq1, hq2, hw, hk, ho, hfr, htb, hpl⟩ := h.root
  obtain ⟨t, ht, hat, hnd, hm⟩ := hT.get hq
  obtain ⟨f', hf', e1, e2, e3, e4, e5⟩ := leaf_of h.p0 h.p1 hw (.inr hk)
  obtain ⟨rfl, hown⟩ : f' = f ∧ ownF f = x.2 := by
    rcases e5 with ⟨_, e, hoo⟩ | ⟨hk2, _⟩
    · exact ⟨e, by rw [← e]; exact hoo⟩
    · omega
  obtain ⟨hl, _, d, hd, hok, hdk, hff⟩ := walk_page hw hk
  obtain ⟨_, _, _, _, _, _, t0, t1, p0, p1, _, _⟩ := leaf_word hw (.inr hk)
  have hs : p.says = d := by rw [h.says, htb, hpl, hd]
  have hsee := walk_sees _ _ _ _ hw
  refine ⟨q, t, f', ⟨hq, ht, hq1, hq2, hw, hf', hown, hk, htb, hpl, hl, ?_, by omega, by omega, by omega, by omega⟩, ?_, ho⟩
  · rw [htb]; exact sees_in _ _ _ _ _ _ hat hsee
  · rw [hs, htb, hpl]; exact hff
/-- Words of tables that are as they were but at places. -/
def OffP (ws us : List Int) (ts : List (List Int)) (out : List Place) : Prop := ∀ (T P : Int), (∃ t ∈ ts, T ∈ t) → 0 ≤ T → 0 ≤ P → P < 8 → (∀ p ∈ out, ¬ (p.tb = T ∧ p.pl = P)) → us.getD (T.toNat * 8 + P.toNat) 0 = ws.getD (T.toNat * 8 + P.toNat) 0
theorem places_of (hM : MovesAt ws n roots pages frm to out) {p : Place} (hp : p ∈ out) : ∃ (k : Nat) (x : Int × Int), pages[k]? = some x ∧ out[k]? = some p ∧ PlaceOk ws n roots frm x p := by
  obtain ⟨k, hk, rfl⟩ := List.getElem_of_mem hp
  have hk2 : k < pages.length := by rw [← hM.len]; exact hk
  exact ⟨k, _, List.getElem?_eq_getElem hk2, List.getElem?_eq_getElem hk, hM.ok k _ _ (List.getElem?_eq_getElem hk2) (List.getElem?_eq_getElem hk)⟩
/-- A walk that comes by a place ends there. -/
theorem place_hit (hT : MoveTabs ws n roots frm to ts) (hM : MovesAt ws n roots pages frm to out) {i : Nat} (hi : i < roots.length) {q : Int} {x : Found} (hx : walkAt ws n q 4 0 (roots.getD i (0, 0)).2 = some x) {L T : Int} (hs : Sees ws n q 4 0 (roots.getD i (0, 0)).2 L T) {p : Place} (hp : p ∈ out) (h1 : p.tb = T) (h2 : p.pl = placeN L q) :
    L = 3 ∧ x.fLevel = 3 ∧ x.fTable = p.tb ∧ x.fPlace = p.pl := by
  obtain ⟨k, y, _, _, hok⟩ := places_of hM hp
  obtain ⟨q', t', f, hS, _⟩ := slot_ok hT hok
  obtain ⟨t, ht, hat, hnd, _⟩ := hT.get hi
  have hin := sees_in _ _ _ _ _ _ hat hs
  have hmem := hS.mem
  rw [h1] at hmem
  obtain rfl := hT.flat.2.1 _ _ _ _ _ ht hS.qt hin hmem
  obtain ⟨e1, e2, e3, e4⟩ := leaf_hit hat hnd hS.leaf hx hs (by rw [← h1]; exact hS.tb) (by rw [← h2]; exact hS.pl)
  have hl := hS.lv
  have h5 := hS.pl
  exact ⟨by omega, by omega, by omega, by omega⟩
theorem move_else (hT : MoveTabs ws n roots frm to ts) (hM : MovesAt ws n roots pages frm to out) (hoff : OffP ws us ts out) {i : Nat} (hi : i < roots.length) {q : Int} {x : Found} (hx : walkAt ws n q 4 0 (roots.getD i (0, 0)).2 = some x) (hno : ∀ p ∈ out, ¬ (p.tb = x.fTable ∧ p.pl = x.fPlace)) : walkAt us n q 4 0 (roots.getD i (0, 0)).2 = some x := by
  obtain ⟨t, ht, hat, hnd, hm⟩ := hT.get hi
  rw [walk_same _ _ _ fun L T hs => ?_]
  · exact hx
  · obtain ⟨_, _, s0, s1⟩ := sees_lo _ _ _ _ _ hs
    refine hoff T _ ⟨t, hm, sees_in _ _ _ _ _ _ hat hs⟩ s0 (placeN_lo _ _) (placeN_hi _ _) fun p hp hh => ?_
    obtain ⟨_, _, e3, e4⟩ := place_hit hT hM hi hx hs hp hh.1 hh.2
    exact hno p hp ⟨e3.symm, e4.symm⟩
theorem move_at (hT : MoveTabs ws n roots frm to ts) (hM : MovesAt ws n roots pages frm to out) (hoff : OffP ws us ts out) {i : Nat} (hi : i < roots.length) {q : Int} {x : Found} (hx : walkAt ws n q 4 0 (roots.getD i (0, 0)).2 = some x) {p : Place} (hp : p ∈ out) (h1 : p.tb = x.fTable) (h2 : p.pl = x.fPlace) {d : Desc} (hd : decD 3 (us.getD (p.tb.toNat * 8 + p.pl.toNat) 0) = d) (hk : d.fKind ≠ 1) : walkAt us n q 4 0 (roots.getD i (0, 0)).2 = some (foundD d 3 p.tb p.pl q) ∧ x.fLevel = 3 := by
  obtain ⟨t, ht, hat, hnd, hm⟩ := hT.get hi
  have hsx := walk_sees _ _ _ _ hx
  obtain ⟨t0, t1, hpx, l0, l1, _, _⟩ := walkAt_word 4 0 _ x (by omega) (by omega) hx
  obtain ⟨_, hl3, _, _⟩ := place_hit hT hM hi hx hsx hp h1 (by rw [h2]; exact hpx)
  refine ⟨?_, hl3⟩
  obtain ⟨j, hj, hwk⟩ := walk_to (us := us) _ _ _ _ _ hsx (fun L' T' hlt hs' => by
    obtain ⟨_, _, s0, s1⟩ := sees_lo _ _ _ _ _ hs'
    refine hoff T' _ ⟨t, hm, sees_in _ _ _ _ _ _ hat hs'⟩ s0 (placeN_lo _ _) (placeN_hi _ _) fun p' hp' hh => ?_
    obtain ⟨e1, _⟩ := place_hit hT hM hi hx hs' hp' hh.1 hh.2
    omega)
  obtain rfl : j = 1 := by omega
  rw [hl3] at hwk hpx
  rw [hwk, walk_step (k := 0) (d := d) ⟨t0, t1⟩ (by rw [← h1, ← hpx, ← h2]; exact hd), if_neg hk, ← hpx, ← h1, ← h2]
/-- Steps of which the writes alone are done. -/
def stepX (n : Nat) (ws : List Int) (s : Step) : List Int := if s.fKind = 1 then stepW n ws s else ws
def doX (n : Nat) (ws : List Int) (l : List Step) : List Int := l.foldl (stepX n) ws
theorem doX_append (l m : List Step) : doX n ws (l ++ m) = doX n (doX n ws l) m := by unfold doX; rw [List.foldl_append]
theorem doX_writes : ∀ (l : List Step) (ws : List Int), (∀ s ∈ l, s.fKind = 1) → doX n ws l = doW n ws l := by
  intro l
  induction l with
  | nil => intro ws _; rfl
  | cons s l ih => intro ws h; show doX n (stepX n ws s) l = doW n (stepW n ws s) l; unfold stepX; rw [if_pos (h s (.head _))]; exact ih _ fun x hx => h x (.tail _ hx)
theorem doX_none : ∀ (l : List Step) (ws : List Int), (∀ s ∈ l, s.fKind ≠ 1) → doX n ws l = ws := by
  intro l
  induction l with
  | nil => intro ws _; rfl
  | cons s l ih => intro ws h; show doX n (stepX n ws s) l = ws; unfold stepX; rw [if_neg (h s (.head _))]; exact ih _ fun x hx => h x (.tail _ hx)
theorem held_kinds : ∀ s ∈ heldL out, s.fKind = 1 := by intro s hs; obtain ⟨p, _, rfl⟩ := List.mem_map.1 hs; rfl
theorem done_kinds : ∀ s ∈ doneL to out, s.fKind = 1 := by intro s hs; obtain ⟨p, _, rfl⟩ := List.mem_map.1 hs; rfl
theorem told_kinds : ∀ s ∈ toldP out, s.fKind = 2 := by intro s hs; obtain ⟨p, _, rfl⟩ := List.mem_map.1 hs; rfl
theorem copy_kinds {to frm : Int} {k : Nat} : ∀ s ∈ copiesN to frm k, s.fKind = 5 := by intro s hs; obtain ⟨p, _, rfl⟩ := List.mem_map.1 hs; rfl
theorem doX_move : doX n ws (moveL to frm out) = doW n (doW n ws (heldL out)) (doneL to out) := by
  unfold moveL
  have e1 := doX_none (n := n) (toldP out) (doW n ws (heldL out)) (fun s hs => by rw [told_kinds s hs]; omega)
  have e2 := doX_none (n := n) (copiesN to frm 8) (doW n ws (heldL out)) (fun s hs => by rw [copy_kinds s hs]; omega)
  rw [doX_append, doX_append, doX_append, doX_writes _ _ held_kinds, e1, e2, doX_writes _ _ done_kinds]
theorem wrP_ok (hT : MoveTabs ws n roots frm to ts) (hn : n ≤ 512) {x : Int × Int} {p : Place} (h : PlaceOk ws n roots frm x p) {v : Int} (v0 : 0 ≤ v) (v1 : v < 18446744073709551616) : WrOk n (wrP p v) := by
  obtain ⟨q, t, f, hS, _⟩ := slot_ok hT h
  have ha := h.asid
  have hpg := h.page
  have a0 := h.a0
  have a1 := h.a1
  have p0 := h.p0
  have p1 := h.p1
  have t0 := hS.t0
  have t1 := hS.t1
  exact ⟨rfl, ⟨3, rfl, ⟨by show 0 ≤ p.asid; omega, by show p.asid ≤ 255; omega, by omega, t0, by show p.tb < 512; omega, hS.q0, hS.q1, by show 0 ≤ p.page; omega, by show p.page < 4096; omega, firstP_page _⟩⟩, t1, ⟨v0, v1⟩⟩
theorem wrs_apart (h : out.Pairwise ApartP) (v : Place → Int) : (out.map fun p => wrP p (v p)).Pairwise apartS := by
  rw [List.pairwise_map]
  exact h
/-- Writes at places, one behind another: the words behind them. -/
theorem wrs_do (hW : ∀ s ∈ out.map (fun p => wrP p (0 : Int)), s.fKind = 1) (h : out.Pairwise ApartP) (v : Place → Int) (hv : ∀ p ∈ out, WrOk n (wrP p (v p))) (hl : us.length = n * 8) :
    (∀ p ∈ out, (doW n us (out.map fun p => wrP p (v p))).getD (p.tb.toNat * 8 + p.pl.toNat) 0 = v p) ∧ ∀ j, (∀ p ∈ out, p.tb.toNat * 8 + p.pl.toNat ≠ j) → (doW n us (out.map fun p => wrP p (v p))).getD j 0 = us.getD j 0 := by
  have hall : ∀ s ∈ out.map (fun p => wrP p (v p)), WrOk n s := by
    intro s hs
    obtain ⟨p, hp, rfl⟩ := List.mem_map.1 hs
    exact hv p hp
  refine ⟨fun p hp => ?_, fun j hj => ?_⟩
  · exact writes_at _ _ hall (wrs_apart h v) hl _ (List.mem_map.2 ⟨p, hp, rfl⟩)
  · refine writes_off _ _ _ hall fun s hs => ?_
    obtain ⟨p, hp, rfl⟩ := List.mem_map.1 hs
    exact hj p hp
theorem move_says (hM : MovesAt ws n roots pages frm to out) (hn : n ≤ 512) {p : Place} (hp : p ∈ out) : okD 3 p.says = true ∧ p.says.fKind = 3 ∧ p.says.fFold = false ∧ p.says.fFrame = frm ∧ okD 3 (heldD p.says) = true ∧ okD 3 (movedD p.says to) = true ∧ encW p.says = ws.getD (p.tb.toNat * 8 + p.pl.toNat) 0 := by
  obtain ⟨k, x, _, _, hok⟩ := places_of hM hp
  have t1 := hM.t1
  obtain ⟨h1, h2, h3, h4, h5, h6⟩ := held_ok hok hM.t0 (by omega)
  refine ⟨h1, h2, h3, h4, h5, h6, ?_⟩
  have := (decD_ok (level := 3) (x := ws.getD (p.tb.toNat * 8 + p.pl.toNat) 0) (by rw [← hok.says]; omega)).2
  rw [← hok.says] at this
  exact this
/-- What the writes of Move's steps come to. -/
theorem move_words (hT : MoveTabs ws n roots frm to ts) (hM : MovesAt ws n roots pages frm to out) (hn : n ≤ 512) (hl : ws.length = n * 8) :
    (∀ p ∈ out, (doX n ws (moveL to frm out)).getD (p.tb.toNat * 8 + p.pl.toNat) 0 = encW (movedD p.says to)) ∧ (∀ j, (∀ p ∈ out, p.tb.toNat * 8 + p.pl.toNat ≠ j) → (doX n ws (moveL to frm out)).getD j 0 = ws.getD j 0) ∧ (∀ s ∈ moveL to frm out, WrOk n s ∨ s.fKind ≠ 1) ∧ (doX n ws (moveL to frm out)).length = n * 8 := by
  have hh : ∀ p ∈ out, WrOk n (wrP p (encW (heldD p.says))) := fun p hp => by
    obtain ⟨_, x, _, _, hok⟩ := places_of hM hp
    have := encW_range (move_says hM hn hp).2.2.2.2.1
    exact wrP_ok hT hn hok this.1 this.2
  have hd : ∀ p ∈ out, WrOk n (wrP p (encW (movedD p.says to))) := fun p hp => by
    obtain ⟨_, x, _, _, hok⟩ := places_of hM hp
    have := encW_range (move_says hM hn hp).2.2.2.2.2.1
    exact wrP_ok hT hn hok this.1 this.2
  have hk : ∀ s ∈ out.map (fun p => wrP p (0 : Int)), s.fKind = 1 := by intro s hs; obtain ⟨p, _, rfl⟩ := List.mem_map.1 hs; rfl
  have l1 : (doW n ws (heldL out)).length = n * 8 := by rw [doW_len]; exact hl
  obtain ⟨a1, a2⟩ := wrs_do (us := ws) hk hM.apart (fun p => encW (heldD p.says)) hh hl
  obtain ⟨b1, b2⟩ := wrs_do (us := doW n ws (heldL out)) hk hM.apart (fun p => encW (movedD p.says to)) hd l1
  rw [doX_move]
  refine ⟨b1, fun j hj => (b2 j hj).trans (a2 j hj), fun s hs => ?_, by rw [doW_len, l1]⟩
  unfold moveL at hs
  simp only [List.mem_append] at hs
  rcases hs with hs | hs | hs | hs
  · obtain ⟨p, hp, rfl⟩ := List.mem_map.1 hs
    exact .inl (hh p hp)
  · exact .inr (by rw [told_kinds s hs]; omega)
  · exact .inr (by rw [copy_kinds s hs]; omega)
  · obtain ⟨p, hp, rfl⟩ := List.mem_map.1 hs
    exact .inl (hd p hp)
theorem places_idx (hT : MoveTabs ws n roots frm to ts) (hM : MovesAt ws n roots pages frm to out) {p : Place} (hp : p ∈ out) {T P : Int} (t0 : 0 ≤ T) (q0 : 0 ≤ P) (q1 : P < 8) (hne : ¬ (p.tb = T ∧ p.pl = P)) : p.tb.toNat * 8 + p.pl.toNat ≠ T.toNat * 8 + P.toNat := by
  obtain ⟨_, x, _, _, hok⟩ := places_of hM hp
  obtain ⟨q, t, f, hS, _⟩ := slot_ok hT hok
  have a0 := hS.t0
  have b0 := hS.q0
  have b1 := hS.q1
  intro e
  exact hne ⟨by omega, by omega⟩
theorem foundD_moved {d : Desc} (hk : d.fKind = 3) (hf : d.fFold = false) (T P q to : Int) : foundD (movedD d to) 3 T P q = { foundD d 3 T P q with fFrame := to, fBase := to } := by
  obtain ⟨k, fr, w, e, s, fo, so⟩ := d
  dsimp only at hk hf
  subst hk hf
  rfl
/-- All places, told one by one. -/
theorem placesF_yes {f : Int × Int → FindR} : ∀ (xs : List (Int × Int)) (ps : List Place) (t : List Place), xs.length = ps.length → (∀ (i : Nat) x p, xs[i]? = some x → ps[i]? = some p → f x = .yes p) → (t ++ ps).Pairwise ApartP → xs.foldl (fun t x => stepP t (f x)) ⟨t, false, false, false⟩ = ⟨t ++ ps, false, false, false⟩ := by
  intro xs
  induction xs with
  | nil =>
    intro ps t hl _ _
    cases ps with
    | nil => simp
    | cons p ps => simp at hl
  | cons x xs ih =>
    intro ps t hl h hp
    cases ps with
    | nil => simp at hl
    | cons p ps =>
      rw [List.foldl_cons, h 0 x p rfl rfl]
      have hany : t.any (sameP p.tb p.pl) = false := by
        rw [List.any_eq_false]
        intro a ha hs
        have := (List.pairwise_append.1 hp).2.2 a ha p (.head _)
        simp [sameP] at hs
        exact this ⟨hs.1, hs.2⟩
      have hst : stepP ⟨t, false, false, false⟩ (.yes p) = ⟨t ++ [p], false, false, false⟩ := by
        show (⟨t ++ [p], false, false, false || t.any (sameP p.tb p.pl)⟩ : PSt) = _
        rw [hany]
        rfl
      rw [hst, ih ps (t ++ [p]) (by simpa using hl) (fun i y q hy hq => h (i + 1) y q (by simpa using hy) (by simpa using hq)) (by rw [List.append_assoc]; exact hp), List.append_assoc]
      rfl
def backP (to : Int) (p : Place) : Place := { p with says := movedD p.says to }
theorem moved_back {d : Desc} {to frm : Int} (h : d.fFrame = frm) : movedD (movedD d to) frm = d := by
  obtain ⟨k, fr, w, e, s, fo, so⟩ := d
  dsimp only at h
  subst h
  rfl
/-- Moved back. -/
theorem move_back (hT : MoveTabs ws n roots frm to ts) (hM : MovesAt ws n roots pages frm to out) (hn : n ≤ 512) (hl : ws.length = n * 8) (hul : us.length = n * 8) (hus : ∀ j, j / 8 ≠ to.toNat → us.getD j 0 = (doX n ws (moveL to frm out)).getD j 0) :
    moveRes us n roots pages to frm = .yes (moveL frm to (out.map (backP to))) ∧ (∀ s ∈ moveL frm to (out.map (backP to)), WrOk n s ∨ s.fKind ≠ 1) ∧ ∀ (T P : Int), (∃ t ∈ ts, T ∈ t) → 0 ≤ T → 0 ≤ P → P < 8 → (doX n us (moveL frm to (out.map (backP to)))).getD (T.toNat * 8 + P.toNat) 0 = ws.getD (T.toNat * 8 + P.toNat) 0 := by
  obtain ⟨w1, w2, _, _⟩ := move_words hT hM hn hl
  have t0 := hM.t0
  have htab : ∀ (T P : Int), (∃ t ∈ ts, T ∈ t) → 0 ≤ T → 0 ≤ P → P < 8 → (T.toNat * 8 + P.toNat) / 8 ≠ to.toNat := by
    rintro T P ⟨t, ht, hTt⟩ h0 h1 h2 e
    have := (hT.flat.2.2.1 t ht).2
    have e2 : T = to := by omega
    rw [e2] at hTt
    exact this hTt
  have hin : ∀ p ∈ out, (∃ t ∈ ts, p.tb ∈ t) ∧ 0 ≤ p.tb ∧ p.tb < n ∧ 0 ≤ p.pl ∧ p.pl < 8 := by
    intro p hp
    obtain ⟨_, x, _, _, hok⟩ := places_of hM hp
    obtain ⟨q, t, f, hS, _⟩ := slot_ok hT hok
    exact ⟨⟨t, List.mem_of_getElem? hS.qt, hS.mem⟩, hS.t0, hS.t1, hS.q0, hS.q1⟩
  have hword : ∀ p ∈ out, us.getD (p.tb.toNat * 8 + p.pl.toNat) 0 = encW (movedD p.says to) := by
    intro p hp
    obtain ⟨h1, h2, _, h3, h4⟩ := hin p hp
    rw [hus _ (htab _ _ h1 h2 h3 h4)]
    exact w1 p hp
  have hoff : OffP ws us ts out := fun T P h0 h1 h2 h3 hno => by
    rw [hus _ (htab _ _ h0 h1 h2 h3)]
    exact w2 _ fun p hp => places_idx hT hM hp h1 h2 h3 (hno p hp)
  have hfind : ∀ (i : Nat) x p, pages[i]? = some x → (out.map (backP to))[i]? = some p → findR us n roots x.1 x.2 to = .yes p := by
    intro i x p hx hp
    rw [List.getElem?_map] at hp
    obtain ⟨p0, hp0, rfl⟩ := Option.map_eq_some_iff.1 hp
    have hok := hM.ok i x p0 hx hp0
    have hmem : p0 ∈ out := List.mem_of_getElem? hp0
    obtain ⟨q, t, f, hS, hf, ho⟩ := slot_ok hT hok
    obtain ⟨s1, s2, s3, s4, s5, s6, s7⟩ := move_says hM hn hmem
    have hdec : decD 3 (us.getD (p0.tb.toNat * 8 + p0.pl.toNat) 0) = movedD p0.says to := by rw [hword p0 hmem]; exact dec_enc s6
    obtain ⟨hwk, _⟩ := move_at hT hM hoff hS.qi hS.wk hmem hS.tb hS.pl hdec (by show p0.says.fKind ≠ 1; omega)
    have hra : rootAt roots x.1 roots.length 0 = q := by
      rcases rootAt_spec (roots := roots) (space := x.1) roots.length 0 (by omega) with ⟨_, h2⟩ | ⟨q', _, h1, h2, h3, h4⟩
      · exact absurd hS.asid (h2 q (by omega) hS.qi)
      · rw [h2]
        rcases Nat.lt_trichotomy q q' with hlt | he | hgt
        · exact absurd hS.asid (h4 q (by omega) hlt)
        · rw [he]
        · exact absurd h3 (hS.fst q' hgt)
    have r01 : 0 ≤ (roots.getD q (0, 0)).2 ∧ (roots.getD q (0, 0)).2 < n := by
      obtain ⟨t, _, hat, _⟩ := hT.get hS.qi
      exact (tabs_parts hat).1
    unfold findR
    have ha0 := hok.a0
    have ha1 := hok.a1
    rw [if_neg (by rw [hra]; omega), hra, Int.toNat_natCast, if_pos ⟨r01.1, r01.2, hok.p0, hok.p1⟩, hwk]
    unfold findW
    dsimp only
    rw [foundD_moved s2 s3]
    have hk3 : (foundD p0.says 3 p0.tb p0.pl x.2).fKind = 3 := by rw [(foundD_parts _ _ _ _ _).2.2.2]; exact s2
    have ho3 : (foundD p0.says 3 p0.tb p0.pl x.2).fOrder = 0 := by rw [← hf]; exact ho
    have htt : (foundD p0.says 3 p0.tb p0.pl x.2).fTable = p0.tb := (foundD_parts _ _ _ _ _).2.1
    have hpp : (foundD p0.says 3 p0.tb p0.pl x.2).fPlace = p0.pl := (foundD_parts _ _ _ _ _).2.2.1
    rw [if_pos ⟨hk3, ho3, rfl⟩]
    show FindR.yes ⟨x.1, x.2, (foundD p0.says 3 p0.tb p0.pl x.2).fTable, (foundD p0.says 3 p0.tb p0.pl x.2).fPlace, decD 3 (us.getD ((foundD p0.says 3 p0.tb p0.pl x.2).fTable.toNat * 8 + (foundD p0.says 3 p0.tb p0.pl x.2).fPlace.toNat) 0)⟩ = _
    rw [htt, hpp, hdec, ← hok.asid, ← hok.page]
    rfl
  have hap : (out.map (backP to)).Pairwise ApartP := by
    rw [List.pairwise_map]
    exact hM.apart
  have hpl := placesF_yes (f := fun x => findR us n roots x.1 x.2 to) pages (out.map (backP to)) [] (by rw [List.length_map, hM.len]) hfind (by simpa using hap)
  have hpl2 : placesF (fun x => findR us n roots x.1 x.2 to) pages = ⟨out.map (backP to), false, false, false⟩ := hpl
  have hf0 := hM.f0
  have hf1 := hM.f1
  have ht1 := hM.t1
  have hne := hM.ne
  have hpos := hM.pos
  have hres : moveRes us n roots pages to frm = .yes (moveL frm to (out.map (backP to))) := by
    unfold moveRes
    rw [if_neg (by omega), hpl2]
    rfl
  have hh : ∀ p ∈ out, WrOk n (wrP (backP to p) (encW (heldD (backP to p).says))) := fun p hp => by
    obtain ⟨_, x, _, _, hok⟩ := places_of hM hp
    obtain ⟨s1, s2, s3, s4, s5, s6, s7⟩ := move_says hM hn hp
    have hh : okD 3 (heldD (movedD p.says to)) = true := by
      generalize p.says = d at *
      obtain ⟨k, fr, w, e, s, fo, so⟩ := d
      dsimp only at s2 s3
      subst s2 s3
      have h : okD 3 ⟨3, to, w, e, s, false, so⟩ = true := s6
      show okD 3 ⟨4, to, w, e, false, false, so⟩ = true
      simp [okD, mayD] at h ⊢
      exact h
    have := encW_range hh
    exact wrP_ok hT hn hok this.1 this.2
  have hd : ∀ p ∈ out, WrOk n (wrP (backP to p) (encW (movedD (backP to p).says frm))) := fun p hp => by
    obtain ⟨_, x, _, _, hok⟩ := places_of hM hp
    obtain ⟨s1, s2, s3, s4, s5, s6, s7⟩ := move_says hM hn hp
    have e : movedD (backP to p).says frm = p.says := moved_back s4
    rw [e]
    have := encW_range s1
    exact wrP_ok hT hn hok this.1 this.2
  refine ⟨hres, fun s hs => ?_, fun T P h0 h1 h2 h3 => ?_⟩
  · unfold moveL at hs
    simp only [List.mem_append] at hs
    rcases hs with hs | hs | hs | hs
    · obtain ⟨p', hp', rfl⟩ := List.mem_map.1 hs
      obtain ⟨p, hp, rfl⟩ := List.mem_map.1 hp'
      exact .inl (hh p hp)
    · exact .inr (by rw [told_kinds s hs]; omega)
    · exact .inr (by rw [copy_kinds s hs]; omega)
    · obtain ⟨p', hp', rfl⟩ := List.mem_map.1 hs
      obtain ⟨p, hp, rfl⟩ := List.mem_map.1 hp'
      exact .inl (hd p hp)
  · have hk : ∀ s ∈ (out.map (backP to)).map (fun p => wrP p (0 : Int)), s.fKind = 1 := by intro s hs; obtain ⟨p, _, rfl⟩ := List.mem_map.1 hs; rfl
    have l1 : (doW n us (heldL (out.map (backP to)))).length = n * 8 := by rw [doW_len]; exact hul
    obtain ⟨a1, a2⟩ := wrs_do (us := us) hk hap (fun p => encW (heldD p.says)) (fun p' hp' => by obtain ⟨p, hp, rfl⟩ := List.mem_map.1 hp'; exact hh p hp) hul
    obtain ⟨b1, b2⟩ := wrs_do (us := doW n us (heldL (out.map (backP to)))) hk hap (fun p => encW (movedD p.says frm)) (fun p' hp' => by obtain ⟨p, hp, rfl⟩ := List.mem_map.1 hp'; exact hd p hp) l1
    rw [doX_move]
    by_cases hc : ∃ p ∈ out, p.tb = T ∧ p.pl = P
    · obtain ⟨p, hp, rfl, rfl⟩ := hc
      have := b1 (backP to p) (List.mem_map.2 ⟨p, hp, rfl⟩)
      have e : movedD (backP to p).says frm = p.says := moved_back (move_says hM hn hp).2.2.2.1
      rw [e] at this
      exact this.trans (move_says hM hn hp).2.2.2.2.2.2
    · have hno : ∀ p ∈ out, ¬ (p.tb = T ∧ p.pl = P) := fun p hp hh => hc ⟨p, hp, hh⟩
      have hj : ∀ p' ∈ out.map (backP to), p'.tb.toNat * 8 + p'.pl.toNat ≠ T.toNat * 8 + P.toNat := fun p' hp' => by
        obtain ⟨p, hp, rfl⟩ := List.mem_map.1 hp'
        exact places_idx hT hM hp h1 h2 h3 (hno p hp)
      exact ((b2 _ hj).trans (a2 _ hj)).trans (hoff T P h0 h1 h2 h3 hno)
end

end Go.Proofs.Ythcdecgecabgaaa
