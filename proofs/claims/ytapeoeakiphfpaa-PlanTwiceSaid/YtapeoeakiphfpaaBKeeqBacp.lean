import Derived.Test.YtapeoeakiphfpaaBInSamqPruns
import Derived.Test.YtapeoeakiphfpaaBSemwPathrPathtWipe
/- Path, Prune, Tables and Need of any arguments whatever; no number twice in a list. -/
namespace Go.Proofs.Ytapeoeakiphfpaa
open Go.RowKit
set_option linter.unusedVariables false
set_option linter.unusedSimpArgs false
attribute [local go_sem] setCell_drewN alloc_drewN lt_moreE le_moreE lt_moreK le_moreK cell_more frozen_more set_more drew_more drewN_more

def tabsQ (ws : List Int) (n : Nat) (root : Int) : Option (List Int) := if 0 ≤ root ∧ root < n then tabsAt ws n 4 0 root else none
def TabsQ (B : Nat) (w' : World) (r : Option (List Int)) (e : Ending) : Prop := match r with
  | some s => ∃ a cap, e = .returned (.tuple #[.slice a s.length cap, .nilIface]) ∧ w'.ownsRow B 3 1 (.slice a s.length cap) s.length (s.map intC).flatten
  | none => ∃ k : Nat, e = .returned (.tuple #[.slice none 0 0, errW k])
theorem tree_TablesQ (w : World) {b g n c : Nat} {ws : List Int} (hm : MemAt w b g n c ws) (hw : WOk ws) (root : Int) (r : Option (List Int)) (hr : tabsQ ws n root = r) :
    Calls Try.prog 34 #[.pointer (some ⟨b, 0, none⟩), .int .i64 root] w fun e w' => Ext w w' ∧ TabsQ w.heap.size w' r e := by
  unfold tabsQ at hr
  by_cases h : 0 ≤ root ∧ root < n
  · rw [if_pos h] at hr
    refine (tree_Tables w hm hw root h.1 h.2 r hr).mono fun e w' ⟨h1, h2⟩ => ⟨h1, ?_⟩
    cases r with
    | none => exact ⟨2, h2⟩
    | some s => exact h2
  · rw [if_neg h] at hr
    subst hr
    exact (tree_Tables_no w hm root h).mono fun e w' ⟨h1, h2⟩ => ⟨h1, 1, h2⟩
theorem tabsQ_some {ws : List Int} {n : Nat} {root : Int} {s : List Int} (h : tabsQ ws n root = some s) : 0 ≤ root ∧ root < n ∧ tabsAt ws n 4 0 root = some s := by
  unfold tabsQ at h
  split at h
  · rename_i h1; exact ⟨h1.1, h1.2, h⟩
  · cases h
def pathQ (ws : List Int) (n : Nat) (root asid page level : Int) (fresh : List Int) : PathR :=
  if 0 ≤ root ∧ root < n ∧ 0 ≤ page ∧ page < 4096 ∧ 1 ≤ level ∧ level < 4 then pathRes n asid page level.toNat fresh (wayAt ws n page (level.toNat + 1) 0 root) else .no 1
theorem tree_PathQ (w : World) {b g n c : Nat} {ws : List Int} (hm : MemAt w b g n c ws) (hw : WOk ws) (root asid page level : Int) (fresh : List Int) (v : Value) (hv : SlRd w v 1 (fresh.map intCells)) (hfl : fresh.length ≤ 1000) (R : PathR) (hR : pathQ ws n root asid page level fresh = R) :
    Calls Try.prog 35 #[.pointer (some ⟨b, 0, none⟩), .int .i64 root, .int .i64 asid, .int .i64 page, .int .i64 level, v] w fun e w' => Ext w w' ∧ PathRet w.heap.size w' R e := by
  unfold pathQ at hR
  by_cases h : 0 ≤ root ∧ root < n ∧ 0 ≤ page ∧ page < 4096 ∧ 1 ≤ level ∧ level < 4
  · rw [if_pos h] at hR
    obtain ⟨L, rfl⟩ := Int.eq_ofNat_of_zero_le (show 0 ≤ level by omega)
    exact tree_PathR w hm hw root asid page L (by omega) (by omega) (by omega) (by omega) (by omega) (by omega) fresh v hv hfl _ rfl R hR
  · rw [if_neg h] at hR
    subst hR
    exact tree_Path_no w hm root asid page level v h
theorem pathQ_yes {ws : List Int} {n : Nat} {root asid page level : Int} {fresh : List Int} {st : List Step} {t : Int × Int} (h : pathQ ws n root asid page level fresh = .yes st t) :
    ∃ L : Nat, level = L ∧ 0 ≤ root ∧ root < n ∧ 0 ≤ page ∧ page < 4096 ∧ 1 ≤ L ∧ L < 4 ∧ pathRes n asid page L fresh (wayAt ws n page (L + 1) 0 root) = .yes st t := by
  unfold pathQ at h
  split at h
  · rename_i h1
    obtain ⟨L, rfl⟩ := Int.eq_ofNat_of_zero_le (show 0 ≤ level by omega)
    exact ⟨L, rfl, by omega, by omega, by omega, by omega, by omega, by omega, h⟩
  · cases h
def pruneQ (ws : List Int) (n : Nat) (root asid page : Int) : PruneR :=
  if 0 ≤ root ∧ root < n ∧ 0 ≤ page ∧ page < 4096 then pruneRes ws asid page (wayAt ws n page 4 0 root) else .no 1
theorem tree_PruneQ (w : World) {b g n c : Nat} {ws : List Int} (hm : MemAt w b g n c ws) (hw : WOk ws) (root asid page : Int) (R : PruneR) (hR : pruneQ ws n root asid page = R) :
    Calls Try.prog 40 #[.pointer (some ⟨b, 0, none⟩), .int .i64 root, .int .i64 asid, .int .i64 page] w fun e w' => Ext w w' ∧ PruneRet w.heap.size w' R e := by
  unfold pruneQ at hR
  by_cases h : 0 ≤ root ∧ root < n ∧ 0 ≤ page ∧ page < 4096
  · rw [if_pos h] at hR
    subst hR
    exact tree_Prune w hm hw root asid page h.1 h.2.1 h.2.2.1 h.2.2.2 _ rfl
  · rw [if_neg h] at hR
    subst hR
    exact tree_Prune_no w hm root asid page h
theorem pruneQ_yes {ws : List Int} {n : Nat} {root asid page : Int} {st : List Step} {gone : List Int} (h : pruneQ ws n root asid page = .yes st gone) :
    0 ≤ root ∧ root < n ∧ 0 ≤ page ∧ page < 4096 ∧ pruneRes ws asid page (wayAt ws n page 4 0 root) = .yes st gone := by
  unfold pruneQ at h
  split at h
  · rename_i h1; exact ⟨h1.1, h1.2.1, h1.2.2.1, h1.2.2.2, h⟩
  · cases h
/-- No two of the first k are the same. -/
def Unlike (l : List Int) (k : Nat) : Prop := ∀ i j : Nat, i < j → j < k → l.getD i 0 ≠ l.getD j 0
/-- The k-th is none of the first q. -/
def UnlikeAt (l : List Int) (k q : Nat) : Prop := ∀ i : Nat, i < q → l.getD i 0 ≠ l.getD k 0
theorem unlike_zero (l : List Int) : Unlike l 0 := fun i j _ h => absurd h (by omega)
theorem unlikeAt_zero (l : List Int) (k : Nat) : UnlikeAt l k 0 := fun i h => absurd h (by omega)
theorem unlikeAt_succ {l : List Int} {k q : Nat} (h : UnlikeAt l k q) (hne : l.getD q 0 ≠ l.getD k 0) : UnlikeAt l k (q + 1) := by
  intro i hi
  by_cases e : i = q
  · subst e; exact hne
  · exact h i (by omega)
theorem unlike_succ {l : List Int} {k : Nat} (h : Unlike l k) (hk : UnlikeAt l k k) : Unlike l (k + 1) := by
  intro i j hij hj
  by_cases e : j = k
  · subst e; exact hk i hij
  · exact h i j hij (by omega)
theorem unlike_nodup {l : List Int} (h : Unlike l l.length) : l.Nodup := by
  rw [List.nodup_iff_pairwise_ne, List.pairwise_iff_getElem]
  intro i j hi hj hij
  have := h i j hij hj
  simpa [List.getD, List.getElem?_eq_getElem hi, List.getElem?_eq_getElem hj] using this
theorem ints_cell {w : World} {B n cap : Nat} {a : Option Addr} {l : List Int} (h : w.ownsRow B 3 1 (.slice a n cap) n (l.map intC).flatten) (hn : 0 < n) (hl : n = l.length) : ∃ g, a = some ⟨g, 0, none⟩ ∧ B ≤ g ∧ g < w.heap.size ∧ n ≤ cap ∧ cap ≤ maxLen ∧ ∀ i, i < n → w.cell? ⟨g, i, none⟩ = some (.int .i64 (l.getD i 0)) := by
  have hc := own_cap h
  obtain ⟨g, rfl, h1, h2, h3, h4, _⟩ := own_at h hn
  refine ⟨g, rfl, h1, h2, h3, hc.2.2, fun i hi => h4 i _ (flat_one (fun x => Value.int .i64 x) l i _ ?_)⟩
  rw [List.getElem?_eq_getElem (by omega)]
  simp [List.getD, List.getElem?_eq_getElem (show i < l.length by omega)]

end Go.Proofs.Ytapeoeakiphfpaa

/- Plain laws behind TreeBack: Prune takes away what Path laid. -/
namespace Go.Proofs.Ytapeoeakiphfpaa
open Go.RowKit
set_option linter.unusedVariables false
set_option linter.unusedSimpArgs false

/-- A step that writes or clears, at a place that is there. -/
def StepIn (n : Nat) (s : Step) : Prop := (s.fKind = 4 ∧ 0 ≤ s.fTo ∧ s.fTo < n) ∨ (s.fKind = 1 ∧ 0 ≤ s.fTable ∧ s.fTable < n ∧ 0 ≤ s.fPlace ∧ s.fPlace < 8)
theorem pathS_in {n : Nat} (asid page : Int) : ∀ (fs : List Int) (l : Nat) (tb pl : Int), (∀ f ∈ fs, 0 ≤ f ∧ f < n) → 0 ≤ tb → tb < n → 0 ≤ pl → pl < 8 → ∀ s ∈ (pathS asid page l tb pl fs).1, StepIn n s := by
  intro fs
  induction fs with
  | nil => intro l tb pl _ _ _ _ _ s hs; cases hs
  | cons f fs ih =>
    intro l tb pl hf t0 t1 p0 p1 s hs
    simp only [pathS, List.mem_cons] at hs
    have h0 := hf f (.head _)
    rcases hs with rfl | rfl | hs
    · exact .inl ⟨rfl, h0⟩
    · exact .inr ⟨rfl, t0, t1, p0, p1⟩
    · exact ih _ _ _ (fun x hx => hf x (.tail _ hx)) h0.1 h0.2 (placeN_lo _ _) (by have := placeN_hi ((l + 1 : Nat) : Int) page; simpa using this) s hs
/-- Where all tables are there, so is each way. -/
theorem tabs_way {ws : List Int} {n : Nat} {page : Int} : ∀ (k : Nat) (lv tb : Int) (r : List Int), tabsAt ws n (k + 1) lv tb = some r → ∃ z, wayAt ws n page (k + 1) lv tb = some z := by
  intro k
  induction k with
  | zero =>
    intro lv tb r h
    rw [wayAt_in rfl rfl rfl]
    split
    · exact ⟨_, rfl⟩
    · rename_i h1; simp at h1
  | succ k ih =>
    intro lv tb r h
    obtain ⟨ht, f, rfl, hf⟩ := tabs_parts h
    rw [wayAt_in rfl rfl rfl]
    split
    · exact ⟨_, rfl⟩
    · rename_i h1
      have hk : (decD lv (ws.getD (tb.toNat * 8 + (placeN lv page).toNat) 0)).fKind = 1 := Classical.byContradiction fun hh => h1 (.inr hh)
      have hm := hf _ (placeN_nat lv page) hk
      obtain ⟨z, hz⟩ := ih _ _ _ hm
      rw [if_pos (tabs_parts hm).1, hz]
      exact ⟨_, rfl⟩
theorem path_back {ws : List Int} {n L : Nat} {root page : Int} {fresh r : List Int} {st : List Step} {t : Int × Int} (hn : n ≤ 512) (hw : ws.length = n * 8) (r0 : 0 ≤ root) (r1 : root < n) (p0 : 0 ≤ page) (p1 : page < 4096) (l1 : L < 4) (hr : tabsAt ws n 4 0 root = some r) (hnd : (r ++ fresh).Nodup)
    (hR : pathRes n 1 page L fresh (wayAt ws n page (L + 1) 0 root) = .yes st t) :
    (∀ s ∈ st, StepIn n s) ∧ st.length / 2 ≤ fresh.length ∧ ∃ sp gone, pruneQ (doW n ws st) n root 1 page = .yes sp gone ∧ gone.length ≤ 10 ∧ ∀ i, i < st.length / 2 → fresh.getD i 0 ∈ gone := by
  obtain ⟨s, d, hs, rfl, hd, hf, hl, _, _⟩ := path_parts hR
  obtain ⟨q0, q1⟩ := wayAt_len _ _ _ _ _ hs
  have hfs : (fresh.take (L + 1 - s.length)).length = L + 1 - s.length := by rw [List.length_take]; omega
  have hnd' : (r ++ fresh.take (L + 1 - s.length)).Nodup := by
    obtain ⟨a, b, c⟩ := List.nodup_append.1 hnd
    exact List.nodup_append.2 ⟨a, b.sublist (List.take_sublist _ _), fun x hx y hy => c x hx y ((List.take_sublist _ _).subset hy)⟩
  have hin : ∀ f ∈ fresh.take (L + 1 - s.length), 0 ≤ f ∧ f < n := fun f h => hf f ((List.take_sublist _ _).subset h)
  have hB := path_behind (asid := 1) hn hw r0 r1 l1 hr hnd' hs (fun h => hd fun h0 => h (List.eq_nil_of_length_eq_zero (by omega))) (by omega) hin
  have hlen := pathS_len 1 page (fresh.take (L + 1 - s.length)) (s.length - 1) (lastS s).1 (lastS s).2
  have hz : s[s.length - 1]? = some (lastS s) := by unfold lastS; rw [List.getD_eq_getElem?_getD, List.getElem?_eq_getElem (by omega)]; rfl
  obtain ⟨hsee, hpl, _⟩ := way_sees _ _ _ _ _ r0 r1 hs _ _ hz
  obtain ⟨_, _, T0, T1⟩ := sees_lo _ _ _ _ _ hsee
  have hp0 := placeN_lo (0 + ((s.length - 1 : Nat) : Int)) page
  have hp1 := placeN_hi (0 + ((s.length - 1 : Nat) : Int)) page
  rw [← hpl] at hp0 hp1
  have hIn := pathS_in (n := n) 1 page (fresh.take (L + 1 - s.length)) (s.length - 1) (lastS s).1 (lastS s).2 hin T0 T1 hp0 hp1
  have hsl : (pathS 1 page (s.length - 1) (lastS s).1 (lastS s).2 (fresh.take (L + 1 - s.length))).1.length / 2 = L + 1 - s.length := by omega
  refine ⟨hIn, by omega, ?_⟩
  rw [hsl]
  unfold pruneQ
  rw [if_pos ⟨r0, r1, p0, p1⟩]
  by_cases h0 : fresh.take (L + 1 - s.length) = []
  · rw [h0]
    rw [h0] at hfs
    simp only [List.length_nil] at hfs
    show ∃ sp gone, pruneRes ws 1 page (wayAt ws n page 4 0 root) = _ ∧ _
    obtain ⟨⟨s2, d2⟩, hz2⟩ := tabs_way (page := page) _ _ _ _ hr
    rw [hz2]
    have h4 := wayAt_len _ _ _ _ _ hz2
    refine ⟨_, _, rfl, ?_, fun i hi => by omega⟩
    have := pruneG_len ws 1 page s2 (s2.length - 1) (-1)
    omega
  · have hway := hB.way (4 - (L + 1)) (by omega) h0
    rw [show s.length + (fresh.take (L + 1 - s.length)).length + (4 - (L + 1)) = 4 by omega] at hway
    rw [hway]
    refine ⟨_, _, rfl, ?_, fun i hi => ?_⟩
    · have := pruneG_len (doW n ws (pathS 1 page (s.length - 1) (lastS s).1 (lastS s).2 (fresh.take (L + 1 - s.length))).1) 1 page (s ++ chainS page (s.length : Int) (fresh.take (L + 1 - s.length))) ((s ++ chainS page (s.length : Int) (fresh.take (L + 1 - s.length))).length - 1) (-1)
      rw [List.length_append, chainS_len] at this ⊢
      omega
    · have hb := prune_back (us := doW n ws (pathS 1 page (s.length - 1) (lastS s).1 (lastS s).2 (fresh.take (L + 1 - s.length))).1) (asid := 1) (page := page) (pre := s) _ (fresh.take (L + 1 - s.length)) rfl (-1) _ (s.length : Int) ⟨[], by simp, fun h => absurd rfl h⟩ hB.chain rfl q0 (fresh.getD i 0) (by
        rw [List.getD_eq_getElem?_getD, List.getElem?_eq_getElem (by omega)]
        simp only [Option.getD_some]
        exact List.mem_take_iff_getElem.2 ⟨i, by omega, rfl⟩)
      rw [show s.length + (fresh.take (L + 1 - s.length)).length - 1 = (s ++ chainS page (s.length : Int) (fresh.take (L + 1 - s.length))).length - 1 by rw [List.length_append, chainS_len]] at hb
      exact hb

end Go.Proofs.Ytapeoeakiphfpaa
