import Derived.Test.YtapeoeakiphfpaaBSemwSamqPruns
import Derived.Test.YtapeoeakiphfpaaBErrisMovpSplitMerge
import Derived.Test.YtapeoeakiphfpaaBRefbFoldpMore
import Derived.Laws.StructEq
import Derived.Maps.RangeRun
import Derived.Test.YtapeoeakiphfpaaReff
import Derived.Test.YtapeoeakiphfpaaPrune
import Derived.Test.YtapeoeakiphfpaaBPhytWalk
import Derived.Test.YtapeoeakiphfpaaOpen
/- Path, Prune, Tables and Need of any arguments whatever; no number twice in a list. -/
namespace Go.Proofs.Ytapeoeakiphfpaa
open Go.RowKit
set_option linter.unusedVariables false
set_option linter.unusedSimpArgs false
attribute [local go_sem] setCell_drewN alloc_drewN lt_moreE le_moreE lt_moreK le_moreK cell_more frozen_more set_more drew_more drewN_more

def tabsQ (ws : List Int) (n : Nat) (root : Int) : Option (List Int) := if 0 ≤ root ∧ root < n then tabsAt ws n 4 0 root else none
def TabsQ (B : Nat) (w' : World) (r : Option (List Int)) (e : Ending) : Prop := match r with
  | some s => ∃ a cap, e = .returned (.tuple #[.slice a s.length cap, .nilIface]) ∧ w'.ownsRow B 3 1 (.slice a s.length cap) s.length (s.map intC).flatten
  | none => ∃ k : Nat, e = .returned (.tuple #[.slice none 0 0, errW k])
theorem tree_TablesQ (w : World) {b g n c : Nat} {ws : List Int} (hm : MemAt w b g n c ws) (hw : WOk ws) (root : Int) (r : Option (List Int)) (hr : tabsQ ws n root = r) :
    Calls Try.prog 34 #[.pointer (some ⟨b, 0, none⟩), .int .i64 root] w fun e w' => Ext w w' ∧ TabsQ w.heap.size w' r e := by
  unfold tabsQ at hr
  by_cases h : 0 ≤ root ∧ root < n
  · rw [if_pos h] at hr
    refine (tree_Tables w hm hw root h.1 h.2 r hr).mono fun e w' ⟨h1, h2⟩ => ⟨h1, ?_⟩
    cases r with
    | none => exact ⟨2, h2⟩
    | some s => exact h2
  · rw [if_neg h] at hr
    subst hr
    exact (tree_Tables_no w hm root h).mono fun e w' ⟨h1, h2⟩ => ⟨h1, 1, h2⟩
theorem tabsQ_some {ws : List Int} {n : Nat} {root : Int} {s : List Int} (h : tabsQ ws n root = some s) : 0 ≤ root ∧ root < n ∧ tabsAt ws n 4 0 root = some s := by
  unfold tabsQ at h
  split at h
  · rename_i h1; exact ⟨h1.1, h1.2, h⟩
  · cases h
def pathQ (ws : List Int) (n : Nat) (root asid page level : Int) (fresh : List Int) : PathR :=
  if 0 ≤ root ∧ root < n ∧ 0 ≤ page ∧ page < 4096 ∧ 1 ≤ level ∧ level < 4 then pathRes n asid page level.toNat fresh (wayAt ws n page (level.toNat + 1) 0 root) else .no 1
theorem tree_PathQ (w : World) {b g n c : Nat} {ws : List Int} (hm : MemAt w b g n c ws) (hw : WOk ws) (root asid page level : Int) (fresh : List Int) (v : Value) (hv : SlRd w v 1 (fresh.map intCells)) (hfl : fresh.length ≤ 1000) (R : PathR) (hR : pathQ ws n root asid page level fresh = R) :
    Calls Try.prog 35 #[.pointer (some ⟨b, 0, none⟩), .int .i64 root, .int .i64 asid, .int .i64 page, .int .i64 level, v] w fun e w' => Ext w w' ∧ PathRet w.heap.size w' R e := by
  unfold pathQ at hR
  by_cases h : 0 ≤ root ∧ root < n ∧ 0 ≤ page ∧ page < 4096 ∧ 1 ≤ level ∧ level < 4
  · rw [if_pos h] at hR
    obtain ⟨L, rfl⟩ := Int.eq_ofNat_of_zero_le (show 0 ≤ level by omega)
    exact tree_PathR w hm hw root asid page L (by omega) (by omega) (by omega) (by omega) (by omega) (by omega) fresh v hv hfl _ rfl R hR
  · rw [if_neg h] at hR
    subst hR
    exact tree_Path_no w hm root asid page level v h
theorem pathQ_yes {ws : List Int} {n : Nat} {root asid page level : Int} {fresh : List Int} {st : List Step} {t : Int × Int} (h : pathQ ws n root asid page level fresh = .yes st t) :
    ∃ L : Nat, level = L ∧ 0 ≤ root ∧ root < n ∧ 0 ≤ page ∧ page < 4096 ∧ 1 ≤ L ∧ L < 4 ∧ pathRes n asid page L fresh (wayAt ws n page (L + 1) 0 root) = .yes st t := by
  unfold pathQ at h
  split at h
  · rename_i h1
    obtain ⟨L, rfl⟩ := Int.eq_ofNat_of_zero_le (show 0 ≤ level by omega)
    exact ⟨L, rfl, by omega, by omega, by omega, by omega, by omega, by omega, h⟩
  · cases h
def pruneQ (ws : List Int) (n : Nat) (root asid page : Int) : PruneR :=
  if 0 ≤ root ∧ root < n ∧ 0 ≤ page ∧ page < 4096 then pruneRes ws asid page (wayAt ws n page 4 0 root) else .no 1
theorem tree_PruneQ (w : World) {b g n c : Nat} {ws : List Int} (hm : MemAt w b g n c ws) (hw : WOk ws) (root asid page : Int) (R : PruneR) (hR : pruneQ ws n root asid page = R) :
    Calls Try.prog 40 #[.pointer (some ⟨b, 0, none⟩), .int .i64 root, .int .i64 asid, .int .i64 page] w fun e w' => Ext w w' ∧ PruneRet w.heap.size w' R e := by
  unfold pruneQ at hR
  by_cases h : 0 ≤ root ∧ root < n ∧ 0 ≤ page ∧ page < 4096
  · rw [if_pos h] at hR
    subst hR
    exact tree_Prune w hm hw root asid page h.1 h.2.1 h.2.2.1 h.2.2.2 _ rfl
  · rw [if_neg h] at hR
    subst hR
    exact tree_Prune_no w hm root asid page h
theorem pruneQ_yes {ws : List Int} {n : Nat} {root asid page : Int} {st : List Step} {gone : List Int} (h : pruneQ ws n root asid page = .yes st gone) :
    0 ≤ root ∧ root < n ∧ 0 ≤ page ∧ page < 4096 ∧ pruneRes ws asid page (wayAt ws n page 4 0 root) = .yes st gone := by
  unfold pruneQ at h
  split at h
  · rename_i h1; exact ⟨h1.1, h1.2.1, h1.2.2.1, h1.2.2.2, h⟩
  · cases h
/-- No two of the first k are the same. -/
def Unlike (l : List Int) (k : Nat) : Prop := ∀ i j : Nat, i < j → j < k → l.getD i 0 ≠ l.getD j 0
/-- The k-th is none of the first q. -/
def UnlikeAt (l : List Int) (k q : Nat) : Prop := ∀ i : Nat, i < q → l.getD i 0 ≠ l.getD k 0
theorem unlike_zero (l : List Int) : Unlike l 0 := fun i j _ h => absurd h (by omega)
theorem unlikeAt_zero (l : List Int) (k : Nat) : UnlikeAt l k 0 := fun i h => absurd h (by omega)
theorem unlikeAt_succ {l : List Int} {k q : Nat} (h : UnlikeAt l k q) (hne : l.getD q 0 ≠ l.getD k 0) : UnlikeAt l k (q + 1) := by
  intro i hi
  by_cases e : i = q
  · subst e; exact hne
  · exact h i (by omega)
theorem unlike_succ {l : List Int} {k : Nat} (h : Unlike l k) (hk : UnlikeAt l k k) : Unlike l (k + 1) := by
  intro i j hij hj
  by_cases e : j = k
  · subst e; exact hk i hij
  · exact h i j hij (by omega)
theorem unlike_nodup {l : List Int} (h : Unlike l l.length) : l.Nodup := by
  rw [List.nodup_iff_pairwise_ne, List.pairwise_iff_getElem]
  intro i j hi hj hij
  have := h i j hij hj
  simpa [List.getD, List.getElem?_eq_getElem hi, List.getElem?_eq_getElem hj] using this
theorem ints_cell {w : World} {B n cap : Nat} {a : Option Addr} {l : List Int} (h : w.ownsRow B 3 1 (.slice a n cap) n (l.map intC).flatten) (hn : 0 < n) (hl : n = l.length) : ∃ g, a = some ⟨g, 0, none⟩ ∧ B ≤ g ∧ g < w.heap.size ∧ n ≤ cap ∧ cap ≤ maxLen ∧ ∀ i, i < n → w.cell? ⟨g, i, none⟩ = some (.int .i64 (l.getD i 0)) := by
  have hc := own_cap h
  obtain ⟨g, rfl, h1, h2, h3, h4, _⟩ := own_at h hn
  refine ⟨g, rfl, h1, h2, h3, hc.2.2, fun i hi => h4 i _ (flat_one (fun x => Value.int .i64 x) l i _ ?_)⟩
  rw [List.getElem?_eq_getElem (by omega)]
  simp [List.getD, List.getElem?_eq_getElem (show i < l.length by omega)]

end Go.Proofs.Ytapeoeakiphfpaa

/- Plain laws behind TreeBack: Prune takes away what Path laid. -/
namespace Go.Proofs.Ytapeoeakiphfpaa
open Go.RowKit
set_option linter.unusedVariables false
set_option linter.unusedSimpArgs false

/-- A step that writes or clears, at a place that is there. -/
def StepIn (n : Nat) (s : Step) : Prop := (s.fKind = 4 ∧ 0 ≤ s.fTo ∧ s.fTo < n) ∨ (s.fKind = 1 ∧ 0 ≤ s.fTable ∧ s.fTable < n ∧ 0 ≤ s.fPlace ∧ s.fPlace < 8)
theorem pathS_in {n : Nat} (asid page : Int) : ∀ (fs : List Int) (l : Nat) (tb pl : Int), (∀ f ∈ fs, 0 ≤ f ∧ f < n) → 0 ≤ tb → tb < n → 0 ≤ pl → pl < 8 → ∀ s ∈ (pathS asid page l tb pl fs).1, StepIn n s := by
  intro fs
  induction fs with
  | nil => intro l tb pl _ _ _ _ _ s hs; cases hs
  | cons f fs ih =>
    intro l tb pl hf t0 t1 p0 p1 s hs
    simp only [pathS, List.mem_cons] at hs
    have h0 := hf f (.head _)
    rcases hs with rfl | rfl | hs
    · exact .inl ⟨rfl, h0⟩
    · exact .inr ⟨rfl, t0, t1, p0, p1⟩
    · exact ih _ _ _ (fun x hx => hf x (.tail _ hx)) h0.1 h0.2 (placeN_lo _ _) (by have := placeN_hi ((l + 1 : Nat) : Int) page; simpa using this) s hs
/-- Where all tables are there, so is each way. -/
theorem tabs_way {ws : List Int} {n : Nat} {page : Int} : ∀ (k : Nat) (lv tb : Int) (r : List Int), tabsAt ws n (k + 1) lv tb = some r → ∃ z, wayAt ws n page (k + 1) lv tb = some z := by
  intro k
  induction k with
  | zero =>
    intro lv tb r h
    rw [wayAt_in rfl rfl rfl]
    split
    · exact ⟨_, rfl⟩
    · rename_i h1; simp at h1
  | succ k ih =>
    intro lv tb r h
    obtain ⟨ht, f, rfl, hf⟩ := tabs_parts h
    rw [wayAt_in rfl rfl rfl]
    split
    · exact ⟨_, rfl⟩
    · rename_i h1
      have hk : (decD lv (ws.getD (tb.toNat * 8 + (placeN lv page).toNat) 0)).fKind = 1 := Classical.byContradiction fun hh => h1 (.inr hh)
      have hm := hf _ (placeN_nat lv page) hk
      obtain ⟨z, hz⟩ := ih _ _ _ hm
      rw [if_pos (tabs_parts hm).1, hz]
      exact ⟨_, rfl⟩
theorem path_back {ws : List Int} {n L : Nat} {root page : Int} {fresh r : List Int} {st : List Step} {t : Int × Int} (hn : n ≤ 512) (hw : ws.length = n * 8) (r0 : 0 ≤ root) (r1 : root < n) (p0 : 0 ≤ page) (p1 : page < 4096) (l1 : L < 4) (hr : tabsAt ws n 4 0 root = some r) (hnd : (r ++ fresh).Nodup)
    (hR : pathRes n 1 page L fresh (wayAt ws n page (L + 1) 0 root) = .yes st t) :
    (∀ s ∈ st, StepIn n s) ∧ st.length / 2 ≤ fresh.length ∧ ∃ sp gone, pruneQ (doW n ws st) n root 1 page = .yes sp gone ∧ gone.length ≤ 10 ∧ ∀ i, i < st.length / 2 → fresh.getD i 0 ∈ gone := by
  obtain ⟨s, d, hs, rfl, hd, hf, hl, _, _⟩ := path_parts hR
  obtain ⟨q0, q1⟩ := wayAt_len _ _ _ _ _ hs
  have hfs : (fresh.take (L + 1 - s.length)).length = L + 1 - s.length := by rw [List.length_take]; omega
  have hnd' : (r ++ fresh.take (L + 1 - s.length)).Nodup := by
    obtain ⟨a, b, c⟩ := List.nodup_append.1 hnd
    exact List.nodup_append.2 ⟨a, b.sublist (List.take_sublist _ _), fun x hx y hy => c x hx y ((List.take_sublist _ _).subset hy)⟩
  have hin : ∀ f ∈ fresh.take (L + 1 - s.length), 0 ≤ f ∧ f < n := fun f h => hf f ((List.take_sublist _ _).subset h)
  have hB := path_behind (asid := 1) hn hw r0 r1 l1 hr hnd' hs (fun h => hd fun h0 => h (List.eq_nil_of_length_eq_zero (by omega))) (by omega) hin
  have hlen := pathS_len 1 page (fresh.take (L + 1 - s.length)) (s.length - 1) (lastS s).1 (lastS s).2
  have hz : s[s.length - 1]? = some (lastS s) := by unfold lastS; rw [List.getD_eq_getElem?_getD, List.getElem?_eq_getElem (by omega)]; rfl
  obtain ⟨hsee, hpl, _⟩ := way_sees _ _ _ _ _ r0 r1 hs _ _ hz
  obtain ⟨_, _, T0, T1⟩ := sees_lo _ _ _ _ _ hsee
  have hp0 := placeN_lo (0 + ((s.length - 1 : Nat) : Int)) page
  have hp1 := placeN_hi (0 + ((s.length - 1 : Nat) : Int)) page
  rw [← hpl] at hp0 hp1
  have hIn := pathS_in (n := n) 1 page (fresh.take (L + 1 - s.length)) (s.length - 1) (lastS s).1 (lastS s).2 hin T0 T1 hp0 hp1
  have hsl : (pathS 1 page (s.length - 1) (lastS s).1 (lastS s).2 (fresh.take (L + 1 - s.length))).1.length / 2 = L + 1 - s.length := by omega
  refine ⟨hIn, by omega, ?_⟩
  rw [hsl]
  unfold pruneQ
  rw [if_pos ⟨r0, r1, p0, p1⟩]
  by_cases h0 : fresh.take (L + 1 - s.length) = []
  · rw [h0]
    rw [h0] at hfs
    simp only [List.length_nil] at hfs
    show ∃ sp gone, pruneRes ws 1 page (wayAt ws n page 4 0 root) = _ ∧ _
    obtain ⟨⟨s2, d2⟩, hz2⟩ := tabs_way (page := page) _ _ _ _ hr
    rw [hz2]
    have h4 := wayAt_len _ _ _ _ _ hz2
    refine ⟨_, _, rfl, ?_, fun i hi => by omega⟩
    have := pruneG_len ws 1 page s2 (s2.length - 1) (-1)
    omega
  · have hway := hB.way (4 - (L + 1)) (by omega) h0
    rw [show s.length + (fresh.take (L + 1 - s.length)).length + (4 - (L + 1)) = 4 by omega] at hway
    rw [hway]
    refine ⟨_, _, rfl, ?_, fun i hi => ?_⟩
    · have := pruneG_len (doW n ws (pathS 1 page (s.length - 1) (lastS s).1 (lastS s).2 (fresh.take (L + 1 - s.length))).1) 1 page (s ++ chainS page (s.length : Int) (fresh.take (L + 1 - s.length))) ((s ++ chainS page (s.length : Int) (fresh.take (L + 1 - s.length))).length - 1) (-1)
      rw [List.length_append, chainS_len] at this ⊢
      omega
    · have hb := prune_back (us := doW n ws (pathS 1 page (s.length - 1) (lastS s).1 (lastS s).2 (fresh.take (L + 1 - s.length))).1) (asid := 1) (page := page) (pre := s) _ (fresh.take (L + 1 - s.length)) rfl (-1) _ (s.length : Int) ⟨[], by simp, fun h => absurd rfl h⟩ hB.chain rfl q0 (fresh.getD i 0) (by
        rw [List.getD_eq_getElem?_getD, List.getElem?_eq_getElem (by omega)]
        simp only [Option.getD_some]
        exact List.mem_take_iff_getElem.2 ⟨i, by omega, rfl⟩)
      rw [show s.length + (fresh.take (L + 1 - s.length)).length - 1 = (s ++ chainS page (s.length : Int) (fresh.take (L + 1 - s.length))).length - 1 by rw [List.length_append, chainS_len]] at hb
      exact hb

end Go.Proofs.Ytapeoeakiphfpaa

/- Plain laws behind HugeParts: what walks find behind the steps that part a block. -/
namespace Go.Proofs.Ytapeoeakiphfpaa
open Go.RowKit
set_option linter.unusedVariables false
set_option linter.unusedSimpArgs false

/-- A walk comes by the table where it ends. -/
theorem walk_sees {ws : List Int} {n p : Int} : ∀ (k : Nat) (lv tb : Int) (f : Found), walkAt ws n p k lv tb = some f → Sees ws n p k lv tb f.fLevel f.fTable := by
  intro k
  induction k with
  | zero => intro lv tb f h; simp [walkAt] at h
  | succ k ih =>
    intro lv tb f h
    by_cases ht : 0 ≤ tb ∧ tb < n
    · rw [walk_step ht rfl] at h
      refine sees_succ.2 ⟨ht, ?_⟩
      split at h
      · rename_i hk
        exact .inr ⟨hk, ih _ _ _ h⟩
      · left
        rw [← Option.some.inj h]
        exact ⟨(foundD_parts _ _ _ _ _).1, (foundD_parts _ _ _ _ _).2.1⟩
    · unfold walkAt at h
      rw [if_neg ht] at h
      cases h
/-- Where all tables are there, each walk ends. -/
theorem tabs_walk {ws : List Int} {n : Nat} {page : Int} : ∀ (k : Nat) (lv tb : Int) (r : List Int), 0 ≤ lv → lv + (k + 1) = 4 → tabsAt ws n (k + 1) lv tb = some r → ∃ z, walkAt ws n page (k + 1) lv tb = some z := by
  intro k
  induction k with
  | zero =>
    intro lv tb r l0 l1 h
    obtain ⟨ht, f, rfl, hf⟩ := tabs_parts h
    rw [walk_step ht rfl]
    split
    · rename_i h1
      have := hf _ (placeN_nat lv page) h1
      simp [tabsAt] at this
    · exact ⟨_, rfl⟩
  | succ k ih =>
    intro lv tb r l0 l1 h
    obtain ⟨ht, f, rfl, hf⟩ := tabs_parts h
    rw [walk_step ht rfl]
    split
    · rename_i h1
      exact ih _ _ _ (by omega) (by omega) (hf _ (placeN_nat lv page) h1)
    · exact ⟨_, rfl⟩
theorem place0 (p : Int) : placeN 0 p = p / 512 % 8 := rfl
theorem place1 (p : Int) : placeN 1 p = p / 64 % 8 := rfl
theorem place2 (p : Int) : placeN 2 p = p / 8 % 8 := rfl
theorem place3 (p : Int) : placeN 3 p = p / 1 % 8 := rfl
/-- Pages whose places are the same down to a level. -/
theorem same_block {p q : Int} (p0 : 0 ≤ p) (p1 : p < 4096) (q0 : 0 ≤ q) (q1 : q < 4096) : (∀ m : Int, 0 ≤ m → m ≤ 2 → placeN m p = placeN m q) ↔ p / 8 = q / 8 := by
  constructor
  · intro h
    have h0 := h 0 (by omega) (by omega)
    have h1 := h 1 (by omega) (by omega)
    have h2 := h 2 (by omega) (by omega)
    rw [place0, place0] at h0
    rw [place1, place1] at h1
    rw [place2, place2] at h2
    omega
  · intro h m m0 m2
    have hm : m = 0 ∨ m = 1 ∨ m = 2 := by omega
    rcases hm with rfl | rfl | rfl
    · rw [place0, place0]; omega
    · rw [place1, place1]; omega
    · rw [place2, place2]; omega

end Go.Proofs.Ytapeoeakiphfpaa

/- Maps keyed by a struct of two numbers: look-up, store, delete, by the list of entries. -/
namespace Go.Proofs.Ytapeoeakiphfpaa
open Go.RowKit
open Go.ChangeMaps (setBlock)
set_option linter.unusedVariables false
set_option linter.unusedSimpArgs false

/-- A struct of two numbers, as a key. -/
abbrev key2 (a b : Int) : Value := .agg #[.int .i64 a, .int .i64 b]
/-- What a map keyed by such structs wants of its key's type. -/
structure Key2 (P : Program) (k : TypeId) : Prop where
  check : ∀ (w : World) (em : Bool) (a b : Int), (Instr.checkKey em 10000 k (key2 a b)).run P w = .ok () w
  eq : ∀ (w : World) (a b c d : Int), (Op.equal k (key2 a b) (key2 c d)).run P w = .ok (a == c && b == d) w
  und : ∃ fs, P.underlying k = some (.struct fs)
theorem key2_stays {P : Program} (w : World) (a b : Int) : (Instr.keyThatStays (key2 a b) (key2 a b)).run P w = .ok (key2 a b) w := by
  have h : Instr.sameBits 10000 (key2 a b) (key2 a b) = true := by
    show Instr.sameBits (9999 + 1) (key2 a b) (key2 a b) = true
    unfold Instr.sameBits
    simp [Instr.sameBits]
  unfold Instr.keyThatStays
  rw [if_pos h]
  rfl
/-- An entry of such a map. -/
structure KE where
  a : Int
  b : Int
  val : Value
  born : Nat
def KE.ent (e : KE) : MapEntry := ⟨key2 e.a e.b, e.val, e.born⟩
def KE.is (a b : Int) (e : KE) : Bool := a == e.a && b == e.b
def entsK (l : List KE) : Array MapEntry := (l.map KE.ent).toArray
/-- Where a key stands among entries. -/
def findK (a b : Int) (l : List KE) : Option Nat := l.findIdx? (KE.is a b)
def getK (a b : Int) (l : List KE) : Option Value := (findK a b l).bind fun j => (l[j]?).map KE.val
def setK (a b : Int) (v : Value) (clock : Nat) (l : List KE) : List KE := match findK a b l with
  | some j => l.modify j fun e => { e with val := v }
  | none => l ++ [⟨a, b, v, clock⟩]
def clockK (a b : Int) (clock : Nat) (l : List KE) : Nat := match findK a b l with
  | some _ => clock
  | none => clock + 1
def delK (a b : Int) (l : List KE) : List KE := match findK a b l with
  | some j => l.eraseIdx j
  | none => l
theorem findK_cons (a b : Int) (e : KE) (l : List KE) : findK a b (e :: l) = if KE.is a b e then some 0 else (findK a b l).map (· + 1) := by
  unfold findK; rw [List.findIdx?_cons]
theorem findK_lt {a b : Int} {l : List KE} {j : Nat} (h : findK a b l = some j) : ∃ (hj : j < l.length), l[j].a = a ∧ l[j].b = b := by
  obtain ⟨hj, h1, _⟩ := List.findIdx?_eq_some_iff_getElem.1 h
  refine ⟨hj, ?_⟩
  unfold KE.is at h1
  simp at h1
  exact ⟨h1.1.symm, h1.2.symm⟩
section
variable {P : Program} {k : TypeId}
theorem find_asking (K : Key2 P k) (w : World) (a b : Int) : ∀ (l : List KE) (i : Nat), (Instr.findAsking k (key2 a b) (l.map KE.ent) i).run P w = .ok ((findK a b l).bind fun j => (l[j]?).map fun e => (i + j, e.val)) w := by
  intro l
  induction l with
  | nil => intro i; rfl
  | cons e l ih =>
    intro i
    rw [List.map_cons]
    unfold Instr.findAsking
    rw [Sem.run_bind, show e.ent.key = key2 e.a e.b from rfl, K.eq w a b e.a e.b, Result.andThen_ok, findK_cons]
    unfold KE.is
    cases hb : (a == e.a && b == e.b) with
    | true => rfl
    | false =>
      simp only [Bool.false_eq_true, if_false]
      rw [ih (i + 1)]
      cases findK a b l with
      | none => rfl
      | some j => simp [Nat.add_assoc, Nat.add_comm 1 j]
theorem find_key (K : Key2 P k) (w : World) (a b : Int) (l : List KE) : (Instr.findKey k (key2 a b) (entsK l).toList).run P w = .ok ((findK a b l).bind fun j => (l[j]?).map fun e => (j, e.val)) w := by
  obtain ⟨fs, hu⟩ := K.und
  unfold Instr.findKey entsK
  rw [Sem.run_bind, run_underlying hu, Result.andThen_ok]
  cases l with
  | nil => rfl
  | cons e l =>
    have hn : Instr.findNow (.struct fs) (key2 a b) ((e :: l).map KE.ent) 0 = none := by
      rw [List.map_cons]; unfold Instr.findNow Instr.sameNow; rfl
    show ((match Instr.findNow (.struct fs) (key2 a b) ((e :: l).map KE.ent) 0 with
      | some r => pure r
      | none => Instr.findAsking k (key2 a b) ((e :: l).map KE.ent)) : Sem _).run P w = _
    rw [hn]
    have := find_asking K w a b (e :: l) 0
    simp only [Nat.zero_add] at this
    exact this
variable {t e : TypeId} (w : World) (mb : Nat) (l : List KE) (clock : Nat)
theorem run_set {o : Obj} (hm : w.heap[mb]? = some (.map (entsK l) clock)) : (setObj mb o).run P w = .ok () (setBlock w mb o) := by simp [setObj, Sem.run, hm, setBlock]
/-- m[key] = value. -/
theorem run_update2 (K : Key2 P k) (ht : P.underlying t = some (.map k e)) (hm : w.heap[mb]? = some (.map (entsK l) clock)) (a b : Int) (v : Value) :
    (Instr.mapUpdate t (.map (some mb)) (key2 a b) v).run P w = .ok () (setBlock w mb (.map (entsK (setK a b v clock l)) (clockK a b clock l))) := by
  have hset : ∀ o : Obj, (setObj mb o).run P w = .ok () (setBlock w mb o) := fun o => run_set w mb l clock hm
  unfold Instr.mapUpdate
  simp only [Sem.run_bind, run_underlying ht, Result.andThen_ok]
  simp only [getObj, Sem.run_bind, Sem.run, hm, Result.andThen_ok, K.check]
  rw [find_key K w a b l]
  unfold setK clockK
  cases hj : findK a b l with
  | none =>
    simp only [Option.bind_none, Result.andThen_ok]
    rw [hset]
    congr 3
    simp [entsK, KE.ent]
  | some j =>
    obtain ⟨hlt, h1, h2⟩ := findK_lt hj
    have hc : l[j]? = some l[j] := List.getElem?_eq_getElem hlt
    simp only [Option.bind_some, hc, Option.map_some, Result.andThen_ok, Sem.run_bind]
    have hc' : (entsK l)[j]? = some l[j].ent := by simp [entsK, hc]
    have hkey : (((entsK l)[j]?).map (·.key)).getD (key2 a b) = key2 a b := by rw [hc']; show key2 l[j].a l[j].b = _; rw [h1, h2]
    rw [hkey, key2_stays, Result.andThen_ok, hset]
    congr 3
    apply Array.ext'
    unfold entsK
    rw [Array.toList_modify]
    apply List.ext_getElem?
    intro i
    simp only [List.getElem?_modify, List.getElem?_map]
    by_cases hi : j = i
    · subst hi
      simp [hc, KE.ent, h1, h2]
    · simp [hi]
/-- delete(m, key). -/
theorem run_delete2 (K : Key2 P k) (ht : P.underlying t = some (.map k e)) (hm : w.heap[mb]? = some (.map (entsK l) clock)) (a b : Int) (ty : TypeId) :
    (Builtin.delete_ #[t, k] ty #[.map (some mb), key2 a b]).run P w = .ok (.tuple #[]) (setBlock w mb (.map (entsK (delK a b l)) clock)) := by
  have hset : ∀ o : Obj, (setObj mb o).run P w = .ok () (setBlock w mb o) := fun o => run_set w mb l clock hm
  unfold Builtin.delete_
  simp only [List.getElem?_toArray, List.getElem?_cons_zero, List.getElem?_cons_succ, Sem.run_bind, run_underlying ht, Result.andThen_ok]
  simp only [getObj, Sem.run_bind, Sem.run, hm, Result.andThen_ok, K.check]
  rw [find_key K w a b l]
  unfold delK
  cases hj : findK a b l with
  | none =>
    simp only [Option.bind_none, Result.andThen_ok, Sem.run_bind]
    rw [hset]
    rfl
  | some j =>
    obtain ⟨hlt, h1, h2⟩ := findK_lt hj
    have hc : l[j]? = some l[j] := List.getElem?_eq_getElem hlt
    simp only [Option.bind_some, hc, Option.map_some, Result.andThen_ok, Sem.run_bind]
    rw [hset]
    simp [entsK, Result.andThen, Array.eraseIdxIfInBounds, hlt, Go.ChangeMaps.map_eraseIdx]
/-- v, ok := m[key]. -/
theorem run_lookup2 (K : Key2 P k) (ht : P.underlying t = some (.map k e)) (hm : w.heap[mb]? = some (.map (entsK l) clock)) (z : Value) (hz : (zeroValue e).run P w = .ok z w) (a b : Int) :
    (Instr.lookup t (.map (some mb)) (key2 a b) true).run P w = .ok (.tuple #[(getK a b l).getD z, .bool (getK a b l).isSome]) w := by
  unfold Instr.lookup
  simp only [Sem.run_bind, run_underlying ht, Result.andThen_ok]
  simp only [getObj, Sem.run_bind, Sem.run, hm, Result.andThen_ok, K.check]
  rw [show (Sem.run P (pure (entsK l) : Sem (Array MapEntry)) w) = .ok (entsK l) w from rfl, Result.andThen_ok, find_key K w a b l]
  unfold getK
  cases hj : findK a b l with
  | none =>
    simp only [Option.bind_none, Result.andThen_ok, hz]
    simp [Result.andThen, hz]
  | some j =>
    obtain ⟨hlt, h1, h2⟩ := findK_lt hj
    have hc : l[j]? = some l[j] := List.getElem?_eq_getElem hlt
    simp [hc, Result.andThen]
end

end Go.Proofs.Ytapeoeakiphfpaa

/- The contract of the document's answer paviorref12.Copy: words in new memory. -/
namespace Go.Proofs.Ytapeoeakiphfpaa
open Go.RowKit
set_option linter.unusedVariables false
set_option linter.unusedSimpArgs false
attribute [local go_sem] setCell_drewN alloc_drewN lt_moreE le_moreE lt_moreK le_moreK cell_more frozen_more set_more drew_more drewN_more

/-- Elements that lie anywhere are appended to a slice of the call's own. -/
theorem wpList_append_at {P : Program} (W : World) {w : World} {ops : Array Oper} {rest : List Oper} {o : Oper} {a : Act} {Q : Exit → Act → World → Prop} {t e : TypeId} {z : Value} {size bytes : Nat} (el : ElemAt P t e z size bytes)
    (hgd : o.guard = none) (s x : Operand) (ho : o.op = .call { callee := .builtin .append, args := #[s, x], argTypes := #[t, t] })
    (v : Value) (n : Nat) (xs : List Value) (hs : a.eval s = v) (hown : w.ownsRow W.heap.size e size v n xs) (hW : Ext W w)
    (b cap m : Nat) (cs : List Value) (hx : a.eval x = .slice (some ⟨b, 0, none⟩) m cap) (hl : cs.length = m * size) (hc : ∀ j u, cs[j]? = some u → w.cell? ⟨b, j, none⟩ = some u) (h1 : cs.all Value.oneCell' = true) (hn : n + m ≤ 1000000)
    (h : ∀ v' x', Hid ((more W x').ownsRow W.heap.size e size v' (n + m) (xs ++ cs)) → (∀ k ob, w.heap[k]? = some ob → v.ownBlock ≠ some k → (more W x').heap[k]? = some ob) → wpList P ops Q rest (a.put o.dst v') (more W x')) : wpList P ops Q (o :: rest) a w := by
  obtain ⟨i, hi, hz, h3, h4⟩ := info_parts el.info
  have hb : (n + m) * bytes ≤ 1000000 * 1000 := Nat.mul_le_mul hn el.small
  refine wpList_append_own w hgd s x t ho W.heap.size e i z size bytes el.sl hi hz h3 h4 el.zs el.pos v n xs hs hown ⟨b, 0, none⟩ m cap cs hx hl
    (by
      intro j u hu
      have hadd : (⟨b, 0, none⟩ : Addr).add j = ⟨b, j, none⟩ := by unfold Addr.add; split <;> simp_all
      rw [hadd]; exact hc j u hu) (by intro u hu; exact List.all_eq_true.1 h1 u hu) (by unfold maxLen; omega) (by omega) hW.size ?_
  intro v' w' ho' hg' _
  obtain ⟨x', rfl⟩ := more_of_grow (grow_row hW.grow hown hg')
  exact h v' x' ho' fun k ob hk hne => (hg'.block k (Array.getElem?_eq_some_iff.1 hk).1 (fun e => hne e.symm)).trans hk

theorem el_words : ElemAt Try.prog 38 33 (.int .u64 0) 1 8 := ⟨Try.underlying38, by kernel_rfl, rfl, by decide, by decide⟩
theorem el_rows : ElemAt Try.prog 31 38 (.slice none 0 0) 1 24 := ⟨Try.underlying31, by kernel_rfl, rfl, by decide, by decide⟩
/-- A frame's words. -/
def rowW (us : List Int) (i : Nat) : List Value := (List.range 8).map fun j => .int .u64 (us.getD (i * 8 + j) 0)
theorem rowW_len (us : List Int) (i : Nat) : (rowW us i).length = 8 := by simp [rowW]
theorem rowW_at (us : List Int) (i j : Nat) (hj : j < 8) : (rowW us i)[j]? = some (.int .u64 (us.getD (i * 8 + j) 0)) := by simp [rowW, hj]
theorem rowW_one (us : List Int) (i : Nat) : (rowW us i).all Value.oneCell' = true := by simp [rowW, Value.oneCell']
theorem RefAt.rowc {w : World} {h hc n : Nat} {gb gc : Nat → Nat} {us : List Int} (r : RefAt w h hc n gb gc us) (i : Nat) (hi : i < n) : ∀ j u, (rowW us i)[j]? = some u → w.cell? ⟨gb i, j, none⟩ = some u := by
  intro j u hu
  have hj : j < 8 := by have := (List.getElem?_eq_some_iff.1 hu).1; rwa [rowW_len] at this
  rw [rowW_at _ _ _ hj] at hu
  rw [← Option.some.inj hu]
  exact r.cell i j hi hj
/-- So many rows are copied. -/
def CopyRows (W wr : World) (us : List Int) (v : Value) (k : Nat) : Prop := ∃ gb gc : Nat → Nat, wr.ownsRow W.heap.size 38 1 v k ((List.range k).map fun j => .slice (some ⟨gb j, 0, none⟩) 8 (gc j)) ∧
    (∀ j, j < k → W.heap.size ≤ gb j ∧ 8 ≤ gc j ∧ ∃ cur, wr.heap[gb j]? = some (.cells cur 33 (0, 0)) ∧ ∀ i, i < 8 → cur[i]? = some (.int .u64 (us.getD (j * 8 + i) 0))) ∧ (∀ i j, i < k → j < k → gb i = gb j → i = j)
theorem copyRows_nil (W wr : World) (us : List Int) : CopyRows W wr us (.slice none 0 0) 0 := ⟨fun _ => 0, fun _ => 0, World.ownsRow_nil _ _ _ _, by omega, by omega⟩
/-- One row more: it lies in a block behind the world at the round's head. -/
theorem copyRows_step {W wr w1 w2 : World} {us : List Int} {v v' : Value} {k g c : Nat} {gb gc : Nat → Nat} (hW : W.heap.size ≤ wr.heap.size)
    (hown : wr.ownsRow W.heap.size 38 1 v k ((List.range k).map fun j => .slice (some ⟨gb j, 0, none⟩) 8 (gc j)))
    (hrows : ∀ j, j < k → W.heap.size ≤ gb j ∧ 8 ≤ gc j ∧ ∃ cur, wr.heap[gb j]? = some (.cells cur 33 (0, 0)) ∧ ∀ i, i < 8 → cur[i]? = some (.int .u64 (us.getD (j * 8 + i) 0)))
    (hinj : ∀ i j, i < k → j < k → gb i = gb j → i = j) (hE : Ext wr w1)
    (hrow : w1.ownsRow wr.heap.size 33 1 (.slice (some ⟨g, 0, none⟩) 8 c) 8 (rowW us k))
    (hown' : w2.ownsRow W.heap.size 38 1 v' (k + 1) (((List.range k).map fun j => .slice (some ⟨gb j, 0, none⟩) 8 (gc j)) ++ [.slice (some ⟨g, 0, none⟩) 8 c]))
    (keep : ∀ q ob, w1.heap[q]? = some ob → v.ownBlock ≠ some q → w2.heap[q]? = some ob) : CopyRows W w2 us v' (k + 1) := by
  have hown1 : w1.ownsRow W.heap.size 38 1 v k ((List.range k).map fun j => .slice (some ⟨gb j, 0, none⟩) 8 (gc j)) := own_ext hown hE
  have hgb : ∀ j, j < k → gb j < wr.heap.size := fun j hj => by
    obtain ⟨_, _, cur, h, _⟩ := hrows j hj
    exact (Array.getElem?_eq_some_iff.1 h).1
  obtain ⟨g', hg', hge, hgl, hcap, hcells, hfz⟩ := own_at hrow (by omega)
  obtain rfl : g = g' := by simpa using hg'
  have hbox : ∃ cur, w1.heap[g]? = some (.cells cur 33 (0, 0)) ∧ ∀ i, i < 8 → cur[i]? = some (.int .u64 (us.getD (k * 8 + i) 0)) := by
    rcases hrow.2 with ⟨h1, _⟩ | ⟨g2, cap2, cur, h1, _, h3, h4, _, _, h7⟩
    · cases h1
    · simp only [Value.slice.injEq, Option.some.injEq, Addr.mk.injEq] at h1
      obtain ⟨⟨rfl, _⟩, _, rfl⟩ := h1
      refine ⟨cur, h3, fun i hi => ?_⟩
      have h2 : (cur.toList.take (8 * 1))[i]? = (rowW us k)[i]? := by rw [h7]
      rw [List.getElem?_take, if_pos (by omega), rowW_at _ _ _ hi] at h2
      simpa using h2
  refine ⟨fun j => if j = k then g else gb j, fun j => if j = k then c else gc j, ?_, ?_, ?_⟩
  · rw [List.range_succ, List.map_append]
    have e : (List.range k).map (fun j => Value.slice (some ⟨if j = k then g else gb j, 0, none⟩) 8 (if j = k then c else gc j)) = (List.range k).map (fun j => Value.slice (some ⟨gb j, 0, none⟩) 8 (gc j)) := by
      apply List.map_congr_left
      intro j hj
      have := List.mem_range.1 hj
      rw [if_neg (by omega), if_neg (by omega)]
    rw [e]
    simpa using hown'
  · intro j hj
    dsimp only
    by_cases e : j = k
    · subst e
      rw [if_pos rfl, if_pos rfl]
      obtain ⟨cur, h1, h2⟩ := hbox
      exact ⟨by omega, hcap, cur, keep _ _ h1 (own_ne_box hown1 h1 (by decide)), h2⟩
    · rw [if_neg e, if_neg e]
      obtain ⟨a1, a2, cur, h1, h2⟩ := hrows j (by omega)
      have h1' : w1.heap[gb j]? = some (.cells cur 33 (0, 0)) := (hE.grow.block _ (hgb j (by omega)) (by simp)).trans h1
      exact ⟨a1, a2, cur, keep _ _ h1' (own_ne_box hown1 h1' (by decide)), h2⟩
  · intro i j hi hj
    dsimp only
    by_cases e : i = k <;> by_cases e2 : j = k
    · intro _; omega
    · rw [if_pos e, if_neg e2]; intro e3; have := hgb j (by omega); omega
    · rw [if_neg e, if_pos e2]; intro e3; have := hgb i (by omega); omega
    · rw [if_neg e, if_neg e2]; exact hinj i j (by omega) (by omega)
theorem copyRows_end {W w' : World} {us : List Int} {v : Value} {n : Nat} (h1 : 1 ≤ n) (hl : us.length = n * 8) (h : CopyRows W w' us v n) : ∃ h hc gb gc, v = .slice (some ⟨h, 0, none⟩) n hc ∧ RefAt w' h hc n gb gc us ∧ W.heap.size ≤ h ∧ ∀ i, i < n → W.heap.size ≤ gb i := by
  obtain ⟨gb, gc, hown, hrows, hinj⟩ := h
  rcases hown.2 with ⟨_, h0⟩ | ⟨g, cap, cur, rfl, hb, hg, hnc, hcm, hcs, htk⟩
  · omega
  · refine ⟨g, cap, gb, gc, rfl, ?_, hb, fun i hi => (hrows i hi).1⟩
    refine { head := ⟨cur, hg, fun i hi => ?_⟩, row := fun i hi => (hrows i hi).2.2, inj := hinj, len := hl, nc := hnc, cc := fun i hi => (hrows i hi).2.1 }
    have h2 : (cur.toList.take (n * 1))[i]? = ((List.range n).map fun j => Value.slice (some ⟨gb j, 0, none⟩) 8 (gc j))[i]? := by rw [htk]
    rw [List.getElem?_take, if_pos (by omega), List.getElem?_map, List.getElem?_range hi] at h2
    simpa using h2

set_option maxRecDepth 100000 in
set_option maxHeartbeats 2000000 in
theorem ref12_Copy (W : World) {h hc n : Nat} {gb gc : Nat → Nat} {us : List Int} (hr : RefAt W h hc n gb gc us) (h1 : 1 ≤ n) (h2 : n ≤ 512) :
    Calls Try.prog 36 #[.slice (some ⟨h, 0, none⟩) n hc] W fun e w' => Ext W w' ∧ ∃ h' hc' gb' gc', e = .returned (.slice (some ⟨h', 0, none⟩) n hc') ∧ RefAt w' h' hc' n gb' gc' us ∧ W.heap.size ≤ h' ∧ ∀ i, i < n → W.heap.size ≤ gb' i := by
  have HR := Lib.hid hr
  have hnc := hr.nc
  clear hr
  go_enter Try.func36, Try.ntmps36
  go_wp2_with fail
  go_loopw [3, 4] (fun v i wr => ∃ k : Nat, k ≤ n ∧ i = .int .i64 k ∧ Ext W wr ∧ Hid (CopyRows W wr us v k)) (fun _ i _ => n - (intOf i).toNat)
  case atStart => exact ⟨0, Nat.zero_le _, rfl, Ext.refl _, copyRows_nil _ _ _⟩
  case round =>
    obtain ⟨k, hk, rfl, hE, HC⟩ := hrel
    have HE := Lib.hid hE
    clear hE
    have hRw : RefAt wr h hc n gb gc us := HR.out.kept0 HE.out.grow
    by_cases hlt : k < n
    · obtain ⟨gb', gc', ho, hrows, hinj⟩ := HC.out
      have HO := Lib.hid ho
      have HRows := Lib.hid hrows
      have HJ := Lib.hid hinj
      have HRw := Lib.hid hRw
      have y0 := hRw.hcell k hlt
      have hlt1 := hRw.lth
      have hlt2 := hRw.ltg k hlt
      have hcc := hRw.cc k hlt
      obtain ⟨p1, p2, p3⟩ := lt_facts hlt1
      obtain ⟨p4, p5, p6⟩ := lt_facts hlt2
      obtain ⟨va, vcap, rfl⟩ := own_form ho
      have tok1 : True := trivial
      have hWs := HE.out.size
      clear HC ho hrows hinj hRw
      go_wp2_with (first
        | (have _t := tok1; at_builtin; refine wpList_append_at wr el_words rfl _ _ rfl (.slice (some ⟨wr.heap.size, 0, none⟩) 0 0) 0 [] rfl (own_lit' rfl (Nat.le_refl _) rfl (by decide) rfl rfl) (by repeat (first | exact Ext.refl _ | apply Ext.more | apply Ext.alloc | apply Ext.drew | apply Ext.drewN)) (gb k) (gc k) 8 (rowW us k) rfl (rowW_len us k) (RefAt.rowc (by repeat (first | exact HRw.out | apply RefAt.more | apply RefAt.alloc | apply RefAt.drew | apply RefAt.drewN)) k hlt) (rowW_one us k) (by omega) ?_; intro v1 x1 HO1 keep1; obtain ⟨ra, rcap, rfl⟩ := own_form HO1.out; obtain ⟨g, rfl, hg1, hg2, hg3, _, _⟩ := own_at HO1.out (by omega); clear keep1 tok1)
        | (at_builtin; refine wpList_append_new W el_rows rfl _ _ rfl _ k _ rfl (by repeat (first | exact HO.out | apply own_more | apply own_alloc | apply own_drew | apply own_drewN)) (by repeat (first | exact HE.out | apply Ext.more | apply Ext.alloc | apply Ext.drew | apply Ext.drewN)) _ _ 1 _ rfl rfl rfl rfl (by omega) ?_; intro v2 x2 HO2 keep2))
      go_roundw
      case rel =>
        refine ⟨k + 1, by omega, by go_num, (by repeat (first | exact Ext.refl _ | apply Ext.more | apply Ext.alloc | apply Ext.drew | apply Ext.drewN)), copyRows_step hWs HO.out HRows.out HJ.out (w1 := more wr x1) (by repeat (first | exact Ext.refl _ | apply Ext.more | apply Ext.alloc | apply Ext.drew | apply Ext.drewN)) HO1.out HO2.out keep2⟩
      case measure => simp [intOf]; omega
    · have : k = n := by omega
      subst this
      have hl := HR.out.len
      obtain ⟨h', hc', gb', gc', rfl, hr', hh, hgs⟩ := copyRows_end h1 hl HC.out
      clear HC
      have HR' := Lib.hid hr'
      clear hr' hRw hl
      go_wp2_with fail
      go_ret
      exact ⟨HE.out, h', hc', gb', gc', rfl, HR'.out, hh, hgs⟩

end Go.Proofs.Ytapeoeakiphfpaa

/- The walks of the laws of layer 3 (phys). -/
namespace Go.Proofs.Ytapeoeakiphfpaa
open Go.RowKit
set_option linter.unusedVariables false
set_option linter.unusedSimpArgs false

set_option maxHeartbeats 1000000 in
theorem law03_up (w : World) : Calls Try.prog 16 #[] w fun e w' => e = .returned (.bool true) ∧ w.grownBy w' none := by
  have he := fun w a b => eql_err w a b
  go_enter Try.func16, Try.ntmps16
  go_wp2_with fail
  refine (phys_New_int _ 2 (by omega) (by omega)).mono ?_
  rintro e w1 ⟨b, g, rfl, hm1, hg1, hb, hg⟩
  go_wp2_with fail
  refine (phys_Store_int _ hm1 1 2 7 (by omega) (by decide) (by omega) (by omega)).mono ?_
  rintro e w2 ⟨rfl, hm2, hg2⟩
  have G2 := grow_new hg1 hg2 hg
  clear hm1 hg1 hg2
  go_wp2_with fail
  refine (phys_Copy_int _ hm2 0 1 (by omega) (by decide) (by omega) (by decide)).mono ?_
  rintro e w3 ⟨rfl, hm3, hg3⟩
  have G3 := grow_new G2 hg3 hg
  clear hm2 hg3 G2
  go_wp2_with fail
  refine (phys_Load_int _ hm3 0 2 (by omega) (by decide) (by omega) (by omega)).mono ?_
  rintro e w4 ⟨rfl, rfl⟩
  go_wp2_with fail
  refine (phys_Load_no _ hm3 0 8 (by decide)).mono ?_
  rintro e w5 ⟨rfl, rfl⟩
  go_wp2_with fail
  go_ret
  exact ⟨rfl, G3⟩

theorem getD_replicate0 (n i : Nat) : (List.replicate n (0 : Int)).getD i 0 = 0 := by
  simp only [List.getD, List.getElem?_replicate]
  split <;> rfl

end Go.Proofs.Ytapeoeakiphfpaa

/- The walk of the law PhysCopies. -/
namespace Go.Proofs.Ytapeoeakiphfpaa
open Go.RowKit
set_option linter.unusedVariables false
set_option linter.unusedSimpArgs false

/-- Which of n things a raw number speaks of. -/
def pickN (c n : Int) : Int := (if c < 0 then -(c + 1) else c) % n
theorem pickN_lo (c n : Int) (h : 0 < n) : 0 ≤ pickN c n := Int.emod_nonneg _ (by omega)
theorem pickN_hi (c n : Int) (h : 0 < n) : pickN c n < n := Int.emod_lt_of_pos _ h

set_option maxHeartbeats 400000 in
theorem law03_pick (w : World) (c n : Int) (hc : (Lit.int .i64 c).wf = true) (hn : 1 ≤ n) (hn' : n ≤ 1000) :
    Calls Try.prog 17 #[.int .i64 c, .int .i64 n] w fun e w' => e = .returned (.int .i64 (pickN c n)) ∧ w' = w := by
  have h1 := i64_lo hc
  have h2 := i64_hi hc
  clear hc
  unfold pickN
  by_cases h : c < 0
  · have h3 : 0 ≤ -(c + 1) := by omega
    rw [if_pos h, ← Int.tmod_eq_emod_of_nonneg h3, Int.neg_tmod]
    go_enter Try.func17, Try.ntmps17
    go_wp2
    go_ret
    exact ⟨rfl, rfl⟩
  · have h3 : 0 ≤ c := by omega
    rw [if_neg h]
    go_enter Try.func17, Try.ntmps17
    go_wp2
    go_ret
    exact ⟨rfl, rfl⟩

theorem drewN_grow (w : World) (m : Nat) : w.grownBy (w.drewN m) none := grow_drewN (grow_refl _ _) m

theorem copyW_len (ws : List Int) (t f : Nat) : (copyW ws t f).length = ws.length := by simp [copyW]
theorem getD_set (ws : List Int) (i j : Nat) (x : Int) : (ws.set i x).getD j 0 = if i = j ∧ i < ws.length then x else ws.getD j 0 := by
  simp only [List.getD, List.getElem?_set]
  by_cases h : i = j
  · subst h
    by_cases h2 : i < ws.length <;> simp [h2]
  · simp [h]
theorem copyW_in (ws : List Int) (t f i : Nat) (hi : i < 8) (h : t * 8 + 8 ≤ ws.length) : (copyW ws t f).getD (t * 8 + i) 0 = ws.getD (f * 8 + i) 0 := by
  unfold copyW
  simp only [getD_set, List.length_set]
  match i, hi with
  | 0, _ => simp; omega
  | 1, _ => simp; omega
  | 2, _ => simp; omega
  | 3, _ => simp; omega
  | 4, _ => simp; omega
  | 5, _ => simp; omega
  | 6, _ => simp; omega
  | 7, _ => simp; omega
theorem copyW_out (ws : List Int) (t f j : Nat) (h : j < t * 8 ∨ t * 8 + 8 ≤ j) : (copyW ws t f).getD j 0 = ws.getD j 0 := by
  unfold copyW
  repeat (rw [getD_set, if_neg (by omega)])

theorem ext_getD (xs ys : List Int) (hl : xs.length = ys.length) (h : ∀ j, j < xs.length → xs.getD j 0 = ys.getD j 0) : xs = ys := by
  apply List.ext_getElem hl
  intro j h1 h2
  have := h j h1
  simpa [List.getD, List.getElem?_eq_getElem h1, List.getElem?_eq_getElem h2] using this
theorem one_word (A I j : Nat) (v : Int) : ((List.replicate 32 (0 : Int)).set (A * 8 + I) v).getD j 0 = if A * 8 + I = j ∧ A * 8 + I < 32 then v else 0 := by
  rw [getD_set, List.length_replicate, getD_replicate0]
theorem copies_val (A B I : Nat) (v x : Int) (hA : A < 4) (hB : B < 4) (hI : I < 8) (hne : A ≠ B) :
    ((copyW ((List.replicate 32 (0 : Int)).set (A * 8 + I) v) B A).set (A * 8 + I) x).getD (B * 8 + I) 0 = v := by
  rw [getD_set, if_neg (by omega), copyW_in _ _ _ _ hI (by simp; omega), one_word, if_pos (by omega)]
theorem copies_same (A B I : Nat) (v x : Int) (hA : A < 4) (hB : B < 4) (hI : I < 8) :
    (copyW ((List.replicate 32 (0 : Int)).set (A * 8 + I) v) B A).set (A * 8 + I) x = (List.replicate 32 (0 : Int)).set (A * 8 + I) v ↔ v = x ∧ (A = B ∨ v = 0) := by
  constructor
  · intro h
    have h1 := congrArg (fun l => l.getD (A * 8 + I) 0) h
    simp only [getD_set, copyW_len, List.length_set, List.length_replicate, true_and, if_pos (show A * 8 + I < 32 by omega)] at h1
    refine ⟨h1.symm, ?_⟩
    by_cases e : A = B
    · exact .inl e
    · right
      have h2 := congrArg (fun l => l.getD (B * 8 + I) 0) h
      rw [copies_val A B I v x hA hB hI e, one_word, if_neg (by omega)] at h2
      exact h2
  · rintro ⟨rfl, h⟩
    apply ext_getD
    · simp [copyW_len]
    · intro j hj
      have hj : j < 32 := by simpa [copyW_len] using hj
      rw [getD_set, copyW_len, List.length_set, List.length_replicate]
      by_cases hb : B * 8 ≤ j ∧ j < B * 8 + 8
      · obtain ⟨q, hq, rfl⟩ : ∃ q, q < 8 ∧ j = B * 8 + q := ⟨j - B * 8, by omega, by omega⟩
        rw [copyW_in _ _ _ _ hq (by simp; omega), one_word, one_word]
        rcases h with rfl | rfl
        · split <;> simp_all
        · simp
      · rw [copyW_out _ _ _ _ (by omega), one_word]
        split <;> simp_all

end Go.Proofs.Ytapeoeakiphfpaa
