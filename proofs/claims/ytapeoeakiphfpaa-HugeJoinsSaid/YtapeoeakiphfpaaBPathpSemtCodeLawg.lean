import Derived.Test.YtapeoeakiphfpaaBStepsSamePart
import Derived.Test.YtapeoeakiphfpaaTree
import Derived.Test.YtapeoeakiphfpaaSem
import Derived.Test.YtapeoeakiphfpaaBBitsRefb
import Derived.Test.YtapeoeakiphfpaaMore
import Derived.Test.YtapeoeakiphfpaaReff
/- Plain laws on the steps that lay tables, and on those that take them away. -/
namespace Go.Proofs.Ytapeoeakiphfpaa
open Go.RowKit
set_option linter.unusedVariables false
set_option linter.unusedSimpArgs false

/-- The first page that a place of a level leads to. -/
def firstP (page level : Int) : Int := page - page % spanL level
/-- The steps that lay fresh tables from a slot of a level on, and the slot behind them. -/
def pathS (asid page : Int) : Nat → Int → Int → List Int → List Step × (Int × Int)
  | _, tb, pl, [] => ([], (tb, pl))
  | l, tb, pl, f :: fs => (clearS f :: ⟨1, asid, l, tb, pl, firstP page l, f * 4096 + 3, 0, 0, 0⟩ :: (pathS asid page (l + 1) f (placeN (l + 1) page) fs).1, (pathS asid page (l + 1) f (placeN (l + 1) page) fs).2)
theorem pathS_len (asid page : Int) : ∀ (fs : List Int) (l : Nat) (tb pl : Int), (pathS asid page l tb pl fs).1.length = 2 * fs.length := by
  intro fs
  induction fs with
  | nil => intro l tb pl; rfl
  | cons f fs ih => intro l tb pl; simp only [pathS, List.length_cons, ih]; omega
theorem pathS_snoc (asid page : Int) (f : Int) : ∀ (fs : List Int) (l : Nat) (tb pl : Int), pathS asid page l tb pl (fs ++ [f]) =
    ((pathS asid page l tb pl fs).1 ++ [clearS f, ⟨1, asid, ((l + fs.length : Nat) : Int), (pathS asid page l tb pl fs).2.1, (pathS asid page l tb pl fs).2.2, firstP page ((l + fs.length : Nat) : Int), f * 4096 + 3, 0, 0, 0⟩], (f, placeN ((l + fs.length : Nat) + 1) page)) := by
  intro fs
  induction fs with
  | nil => intro l tb pl; simp [pathS]
  | cons x fs ih =>
    intro l tb pl
    have e : l + 1 + fs.length = l + (fs.length + 1) := by omega
    simp only [List.cons_append, pathS, ih, List.length_cons, e]
/-- Are all words of a table none, but for one? -/
def bareB (ws : List Int) (t but : Int) : Bool := (List.range 8).all fun i => decide ((i : Int) = but) || decide (ws.getD (t.toNat * 8 + i) 0 = 0)
/-- Prune's steps and tables: the way's slots from its end on. -/
def pruneS (ws : List Int) (asid page : Int) (way : List (Int × Int)) : Nat → Int → List Step × List Int
  | 0, _ => ([], [])
  | l + 1, but => if bareB ws (way.getD (l + 1) (0, 0)).1 but then
      (⟨1, asid, l, (way.getD l (0, 0)).1, (way.getD l (0, 0)).2, firstP page l, 0, 0, 0, 0⟩ :: ⟨3, asid, 0, 0, 0, 0, 0, 0, 0, 0⟩ :: ⟨6, 0, 0, (way.getD (l + 1) (0, 0)).1, 0, 0, 0, 0, 0, 0⟩ :: (pruneS ws asid page way l (way.getD l (0, 0)).2).1,
       (way.getD (l + 1) (0, 0)).1 :: (pruneS ws asid page way l (way.getD l (0, 0)).2).2)
    else ([], [])

end Go.Proofs.Ytapeoeakiphfpaa

/- Plain laws: steps done to words; what the steps that lay tables come to. -/
namespace Go.Proofs.Ytapeoeakiphfpaa
open Go.RowKit
set_option linter.unusedVariables false
set_option linter.unusedSimpArgs false

theorem getD_setI (ws : List Int) (i j : Nat) (x : Int) : (ws.set i x).getD j 0 = if i = j ∧ i < ws.length then x else ws.getD j 0 := by
  simp only [List.getD, List.getElem?_set]
  by_cases h : i = j
  · subst h
    by_cases h2 : i < ws.length <;> simp [h2]
  · simp [h]
theorem clearW_len (ws : List Int) (t : Nat) : (clearW ws t).length = ws.length := by simp [clearW]
theorem clearW_off (ws : List Int) (t j : Nat) (h : j < t * 8 ∨ t * 8 + 8 ≤ j) : (clearW ws t).getD j 0 = ws.getD j 0 := by
  unfold clearW
  repeat (rw [getD_setI, if_neg (by omega)])
theorem clearW_at (ws : List Int) (t i : Nat) (hi : i < 8) (h : t * 8 + 8 ≤ ws.length) : (clearW ws t).getD (t * 8 + i) 0 = 0 := by
  unfold clearW
  simp only [getD_setI, List.length_set]
  match i, hi with
  | 0, _ => simp; omega
  | 1, _ => simp; omega
  | 2, _ => simp; omega
  | 3, _ => simp; omega
  | 4, _ => simp; omega
  | 5, _ => simp; omega
  | 6, _ => simp; omega
  | 7, _ => simp; omega

def hasB (n : Nat) (f i : Int) : Bool := decide (0 ≤ f ∧ f < n ∧ 0 ≤ i ∧ i < 8)
/-- A step that is done to words. -/
def stepW (n : Nat) (ws : List Int) (s : Step) : List Int :=
  if s.fKind = 1 then (if hasB n s.fTable s.fPlace then ws.set (s.fTable.toNat * 8 + s.fPlace.toNat) s.fValue else ws)
  else if s.fKind = 4 then (if hasB n s.fTo 0 then clearW ws s.fTo.toNat else ws)
  else if s.fKind = 5 then (if hasB n s.fTo s.fI && hasB n s.fFrom s.fI then ws.set (s.fTo.toNat * 8 + s.fI.toNat) (ws.getD (s.fFrom.toNat * 8 + s.fI.toNat) 0) else ws)
  else ws
def doW (n : Nat) (ws : List Int) (l : List Step) : List Int := l.foldl (stepW n) ws
theorem stepW_len (n : Nat) (ws : List Int) (s : Step) : (stepW n ws s).length = ws.length := by
  unfold stepW
  split
  · split <;> simp
  · split
    · split
      · exact clearW_len _ _
      · rfl
    · split
      · split <;> simp
      · rfl
theorem doW_len (n : Nat) : ∀ (l : List Step) (ws : List Int), (doW n ws l).length = ws.length := by
  intro l
  induction l with
  | nil => intro ws; rfl
  | cons s l ih => intro ws; exact (ih (stepW n ws s)).trans (stepW_len n ws s)
theorem doW_cons (n : Nat) (ws : List Int) (s : Step) (l : List Step) : doW n ws (s :: l) = doW n (stepW n ws s) l := rfl
theorem doW_append (n : Nat) (ws : List Int) (l m : List Step) : doW n ws (l ++ m) = doW n (doW n ws l) m := by unfold doW; rw [List.foldl_append]
theorem stepW_write {n : Nat} {ws : List Int} {s : Step} (hk : s.fKind = 1) (h : 0 ≤ s.fTable ∧ s.fTable < n ∧ 0 ≤ s.fPlace ∧ s.fPlace < 8) : stepW n ws s = ws.set (s.fTable.toNat * 8 + s.fPlace.toNat) s.fValue := by
  unfold stepW
  rw [if_pos hk, if_pos (show hasB n s.fTable s.fPlace = true from decide_eq_true h)]
theorem stepW_clear {n : Nat} {ws : List Int} {f : Int} (h : 0 ≤ f ∧ f < n) : stepW n ws (clearS f) = clearW ws f.toNat := by
  unfold stepW clearS
  dsimp only
  rw [if_neg (by omega), if_pos rfl, if_pos (show hasB n f 0 = true from decide_eq_true ⟨h.1, h.2, by omega, by omega⟩)]

/-- The word that leads to the first of fresh tables; none: 0. -/
def headW : List Int → Int
  | [] => 0
  | g :: _ => g * 4096 + 3
/-- Fresh tables that lead down along a page's places, from a table of a level on; all else of them is none. -/
def ChainW (us : List Int) (page : Int) : Int → List Int → Prop
  | _, [] => True
  | l, f :: fs => (∀ i : Nat, i < 8 → us.getD (f.toNat * 8 + i) 0 = if i = (placeN l page).toNat then headW fs else 0) ∧ ChainW us page (l + 1) fs
theorem chain_kept {us vs : List Int} {page : Int} : ∀ (fs : List Int) (l : Int), (∀ f ∈ fs, ∀ i : Nat, i < 8 → vs.getD (f.toNat * 8 + i) 0 = us.getD (f.toNat * 8 + i) 0) → ChainW us page l fs → ChainW vs page l fs := by
  intro fs
  induction fs with
  | nil => intro l _ _; trivial
  | cons f fs ih => intro l h hc; exact ⟨fun i hi => (h f (.head _) i hi).trans (hc.1 i hi), ih _ (fun g hg => h g (.tail _ hg)) hc.2⟩
/-- What the steps that lay tables come to. -/
theorem path_done {n : Nat} {asid page : Int} : ∀ (fs : List Int) (l : Nat) (tb pl : Int) (ws : List Int), ws.length = n * 8 → (∀ f ∈ fs, 0 ≤ f ∧ f < n) → fs.Nodup → tb ∉ fs → 0 ≤ tb → tb < n → 0 ≤ pl → pl < 8 →
    (∀ t i : Nat, i < 8 → t < n → (t : Int) ∉ fs → ¬ ((t : Int) = tb ∧ (i : Int) = pl) → (doW n ws (pathS asid page l tb pl fs).1).getD (t * 8 + i) 0 = ws.getD (t * 8 + i) 0) ∧
    (doW n ws (pathS asid page l tb pl fs).1).getD (tb.toNat * 8 + pl.toNat) 0 = (match fs with | [] => ws.getD (tb.toNat * 8 + pl.toNat) 0 | f :: _ => f * 4096 + 3) ∧
    ChainW (doW n ws (pathS asid page l tb pl fs).1) page (l + 1) fs := by
  intro fs
  induction fs with
  | nil => intro l tb pl ws hw _ _ _ _ _ _ _; exact ⟨fun t i _ _ _ _ => rfl, rfl, trivial⟩
  | cons f fs ih =>
    intro l tb pl ws hw hin hnd htb t0 t1 p0 p1
    obtain ⟨hf0, hf1⟩ := hin f (.head _)
    obtain ⟨hnf, hnd'⟩ := List.nodup_cons.1 hnd
    have hne : tb ≠ f := fun e => htb (by rw [e]; exact .head _)
    have hst : doW n ws (pathS asid page l tb pl (f :: fs)).1 = doW n ((clearW ws f.toNat).set (tb.toNat * 8 + pl.toNat) (f * 4096 + 3)) (pathS asid page (l + 1) f (placeN ((l : Int) + 1) page) fs).1 := by
      show doW n ws (clearS f :: _ :: _) = _
      rw [doW_cons, doW_cons, stepW_clear ⟨hf0, hf1⟩, stepW_write rfl ⟨t0, t1, p0, p1⟩]
    have hl1 : (clearW ws f.toNat).length = n * 8 := by rw [clearW_len, hw]
    have hl2 : ((clearW ws f.toNat).set (tb.toNat * 8 + pl.toNat) (f * 4096 + 3)).length = n * 8 := by rw [List.length_set, hl1]
    obtain ⟨h1, h2, h3⟩ := ih (l + 1) f (placeN ((l : Int) + 1) page) _ hl2 (fun g hg => hin g (.tail _ hg)) hnd' hnf hf0 hf1 (placeN_lo _ _) (placeN_hi _ _)
    rw [hst]
    generalize hus : doW n ((clearW ws f.toNat).set (tb.toNat * 8 + pl.toNat) (f * 4096 + 3)) (pathS asid page (l + 1) f (placeN ((l : Int) + 1) page) fs).1 = us at *
    have g0 := placeN_lo ((l : Int) + 1) page
    have g1 := placeN_hi ((l : Int) + 1) page
    refine ⟨fun t i hi ht hnt hslot => ?_, ?_, ?_, ?_⟩
    · have hnt' : (t : Int) ∉ fs := fun h => hnt (.tail _ h)
      have htf : (t : Int) ≠ f := fun h => hnt (by rw [h]; exact .head _)
      rw [h1 t i hi ht hnt' (fun h => htf h.1), getD_setI, if_neg (by omega), clearW_off _ _ _ (by omega)]
    · have hnt' : tb ∉ fs := fun h => htb (.tail _ h)
      have := h1 tb.toNat pl.toNat (by omega) (by omega) (by rwa [Int.toNat_of_nonneg t0]) (by omega)
      rw [this, getD_setI, if_pos ⟨rfl, by rw [hl1]; omega⟩]
    · intro i hi
      by_cases e : i = (placeN ((l : Int) + 1) page).toNat
      · rw [if_pos e, e, h2]
        cases fs with
        | nil =>
          show _ = (0 : Int)
          dsimp only
          rw [getD_setI, if_neg (by omega)]
          exact clearW_at _ _ _ (by omega) (by omega)
        | cons g gs => rfl
      · rw [if_neg e]
        have := h1 f.toNat i hi (by omega) (by rwa [Int.toNat_of_nonneg hf0]) (by omega)
        rw [this, getD_setI, if_neg (by omega)]
        exact clearW_at _ _ _ hi (by omega)
    · have e : ((l + 1 : Nat) : Int) + 1 = (l : Int) + 1 + 1 := by omega
      rw [← e]
      exact h3
/-- A table's word, decoded. -/
theorem dec_tab {lv g : Int} (h0 : 0 ≤ lv) (h2 : lv ≤ 2) (g0 : 0 ≤ g) (g1 : g < 512) : decD lv (g * 4096 + 3) = tableD g := by
  have h := dec_enc (okD_tab h0 h2 g0 g1)
  rwa [show encW (tableD g) = g * 4096 + 3 from rfl] at h
theorem dec_nil (lv : Int) (h0 : 0 ≤ lv) (h1 : lv ≤ 3) : decD lv 0 = noneD := by
  have : lv = 0 ∨ lv = 1 ∨ lv = 2 ∨ lv = 3 := by omega
  rcases this with rfl | rfl | rfl | rfl <;> decide +kernel
/-- A walk that comes into such tables finds none. -/
theorem chain_walk {us : List Int} {n : Nat} {page q : Int} (hn : n ≤ 512) : ∀ (fs : List Int) (f : Int) (l : Int) (j : Nat), 0 ≤ l → l + j = 4 → (f :: fs).length ≤ j → (∀ g ∈ f :: fs, 0 ≤ g ∧ g < n) → ChainW us page l (f :: fs) → ∃ x, walkAt us n q j l f = some x ∧ x.fKind = 0 := by
  intro fs
  induction fs with
  | nil =>
    intro f l j l0 hj hlen hin hc
    obtain ⟨f0, f1⟩ := hin f (.head _)
    obtain ⟨j, rfl⟩ : ∃ k, j = k + 1 := ⟨j - 1, by simp at hlen; omega⟩
    have hw := hc.1 (placeN l q).toNat (placeN_nat l q)
    have hz : us.getD (f.toNat * 8 + (placeN l q).toNat) 0 = 0 := by rw [hw]; split <;> rfl
    rw [walk_step (d := noneD) ⟨f0, f1⟩ (by rw [hz]; exact dec_nil l l0 (by omega)), if_neg (by decide)]
    exact ⟨_, rfl, (foundD_parts _ _ _ _ _).2.2.2⟩
  | cons g gs ih =>
    intro f l j l0 hj hlen hin hc
    obtain ⟨f0, f1⟩ := hin f (.head _)
    obtain ⟨g0, g1⟩ := hin g (.tail _ (.head _))
    obtain ⟨j, rfl⟩ : ∃ k, j = k + 1 := ⟨j - 1, by simp at hlen; omega⟩
    have hw := hc.1 (placeN l q).toNat (placeN_nat l q)
    simp only [List.length_cons] at hlen
    by_cases e : (placeN l q).toNat = (placeN l page).toNat
    · rw [if_pos e] at hw
      change _ = g * 4096 + 3 at hw
      rw [walk_step (d := tableD g) ⟨f0, f1⟩ (by rw [hw]; exact dec_tab l0 (by omega) g0 (by omega)), if_pos (show (tableD g).fKind = 1 from rfl)]
      exact ih g (l + 1) j (by omega) (by omega) (by simp; omega) (fun x hx => hin x (.tail _ hx)) hc.2
    · rw [if_neg e] at hw
      rw [walk_step (d := noneD) ⟨f0, f1⟩ (by rw [hw]; exact dec_nil l l0 (by omega)), if_neg (by decide)]
      exact ⟨_, rfl, (foundD_parts _ _ _ _ _).2.2.2⟩

end Go.Proofs.Ytapeoeakiphfpaa

/- The contract of paviorlaw00.Code: which error's number. -/
namespace Go.Proofs.Ytapeoeakiphfpaa
open Go.RowKit
set_option linter.unusedVariables false
set_option linter.unusedSimpArgs false
attribute [local go_sem] setCell_drewN alloc_drewN lt_moreE le_moreE lt_moreK le_moreK cell_more frozen_more set_more drew_more drewN_more

set_option maxHeartbeats 400000 in
theorem law00_Code_nil (w : World) : Calls Try.prog 69 #[.nilIface] w fun e w' => e = .returned (.int .i64 0) ∧ w' = w := by
  go_enter Try.func69, Try.ntmps69
  go_wp2
  go_ret
  exact ⟨rfl, rfl⟩

set_option maxHeartbeats 1000000 in
theorem law00_Code (w : World) (k : Nat) (h1 : 1 ≤ k) (h2 : k ≤ 8) : Calls Try.prog 69 #[errW k] w fun e w' => e = .returned (.int .i64 k) ∧ w' = w := by
  have heq := fun (w : World) (a b : Int) => eql_err w a b
  have HEQ := Lib.hid heq
  clear heq
  go_enter Try.func69, Try.ntmps69
  go_wp2_with fail
  go_loop [3] (fun c => ∃ j : Nat, 1 ≤ j ∧ j ≤ k ∧ c = .int .i64 j) (fun c => (9 - intOf c).toNat)
  case atStart => exact ⟨1, by omega, h1, rfl⟩
  case round =>
    obtain ⟨j, hj1, hj2, rfl⟩ := hrel
    have he := fun w => HEQ.out w k j
    by_cases h : k = j
    · subst h
      have hb : ((k : Int) == (k : Int)) = true := by simp
      rw [hb] at he
      clear hb
      go_wp2
      go_ret
      exact ⟨rfl, rfl⟩
    · have hb : ((k : Int) == (j : Int)) = false := by simp; omega
      rw [hb] at he
      clear hb
      go_wp2
      go_round
      case rel => exact ⟨j + 1, by omega, by omega, by go_num⟩
      case measure => simp [intOf]; omega

end Go.Proofs.Ytapeoeakiphfpaa

/- The law paviorlaw04.WalkFinds. -/
namespace Go.Proofs.Ytapeoeakiphfpaa
open Go.RowKit
set_option linter.unusedVariables false
set_option linter.unusedSimpArgs false
attribute [local go_sem] setCell_drewN alloc_drewN lt_moreE le_moreE lt_moreK le_moreK cell_more frozen_more set_more drew_more drewN_more

theorem lay_ext (w : World) (fr : Int) (hfr : (Lit.int .i64 fr).wf = true) (l : List Laid) (hl : ∀ d ∈ l, d.wf) (v : Value) (hv : SlRd w v 3 (l.map Laid.cells)) :
    Calls Try.prog 33 #[.int .i64 fr, v] w fun e w' => ∃ b g h hc gb gc, e = .returned (.tuple #[.pointer (some ⟨b, 0, none⟩), .slice (some ⟨h, 0, none⟩) (layN fr) hc]) ∧
      MemAt w' b g (layN fr) (layN fr) (layW (layN fr) l) ∧ RefAt w' h hc (layN fr) gb gc (layW (layN fr) l) ∧ Ext w w' :=
  (law04_Lay w fr hfr l hl v hv).mono fun _ _ ⟨b, g, h, hc, gb, gc, he, hm, hr, hg, _⟩ => ⟨b, g, h, hc, gb, gc, he, hm, hr, .of hg⟩
theorem ref04_Walk {w : World} {h hc n : Nat} {gb gc : Nat → Nat} {us : List Int} (hr : RefAt w h hc n gb gc us) (hw : WOk us) (root page : Int) (p0 : 0 ≤ page) (p1 : page < 4096) (r : Option Found) (hres : walkAt us n page 4 0 root = r) :
    Calls Try.prog 45 #[.slice (some ⟨h, 0, none⟩) n hc, .int .i64 root, .int .i64 page] w fun e w' => Ext w w' ∧ e = .returned (refV r) := by
  have HR := Lib.hid hr
  have HA := Lib.hid (fun w hr => ref04_at (h := h) (hc := hc) (n := n) (gb := gb) (gc := gc) hw page p0 p1 4 w hr 0 root (by omega) (by omega) (by omega))
  rw [hres] at HA
  clear hr hw hres
  cases r with
  | none =>
    go_enter Try.func45, Try.ntmps45
    go_wp2_with (go_at_call 94; refine (HA.out _ (by repeat (first | exact HR.out | apply RefAt.more | apply RefAt.alloc | apply RefAt.drew | apply RefAt.drewN))).mono ?_; rintro e w' ⟨⟨ex1, rfl⟩, rfl⟩; rw [refV_n])
    refine bodyPost_ret (results_ct rfl _ _ w.heap.size 80 _ (0, 0) _ rfl (by repeat (first | (with_reducible exact heap_alloc_new _ _) | (with_reducible apply box_more) | (with_reducible apply box_alloc) | (with_reducible apply box_drew) | (with_reducible apply box_drewN))) Try.underlying80 rfl (by kernel_rfl)) rfl ?_
    exact ⟨(by repeat (first | exact Ext.refl _ | apply Ext.more | apply Ext.alloc | apply Ext.drew | apply Ext.drewN)), rfl⟩
  | some r =>
    obtain ⟨F0, F1, F2, F3, F4, F5, F6, F7, F8, F9, F10⟩ := r
    go_enter Try.func45, Try.ntmps45
    go_wp2_with (go_at_call 94; refine (HA.out _ (by repeat (first | exact HR.out | apply RefAt.more | apply RefAt.alloc | apply RefAt.drew | apply RefAt.drewN))).mono ?_; rintro e w' ⟨⟨ex1, rfl⟩, rfl⟩; rw [refV_s])
    refine bodyPost_ret (results_ct rfl _ _ w.heap.size 80 _ (0, 0) _ rfl (by repeat (first | (with_reducible exact heap_alloc_new _ _) | (with_reducible apply box_more) | (with_reducible apply box_alloc) | (with_reducible apply box_drew) | (with_reducible apply box_drewN))) Try.underlying80 rfl (by kernel_rfl)) rfl ?_
    exact ⟨(by repeat (first | exact Ext.refl _ | apply Ext.more | apply Ext.alloc | apply Ext.drew | apply Ext.drewN)), rfl⟩

theorem zeroF_v : zeroF.v = .agg #[.int .i64 0, .int .i64 0, .int .i64 0, .int .i64 0, .int .i64 0, .int .i64 0, .int .i64 0, .int .i64 0, .bool false, .bool false, .bool false] := rfl
theorem walkV_n : walkV none = .tuple #[.agg #[.int .i64 0, .int .i64 0, .int .i64 0, .int .i64 0, .int .i64 0, .int .i64 0, .int .i64 0, .int .i64 0, .bool false, .bool false, .bool false], errW 2] := rfl
theorem walkV_s (F0 F1 F2 F3 F4 F5 F6 F7 : Int) (F8 F9 F10 : Bool) : walkV (some ⟨F0, F1, F2, F3, F4, F5, F6, F7, F8, F9, F10⟩) = .tuple #[.agg #[.int .i64 F0, .int .i64 F1, .int .i64 F2, .int .i64 F3, .int .i64 F4, .int .i64 F5, .int .i64 F6, .int .i64 F7, .bool F8, .bool F9, .bool F10], .nilIface] := rfl

end Go.Proofs.Ytapeoeakiphfpaa
