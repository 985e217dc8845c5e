import Derived.Test.YtapeoeakiphfpaaSemv
import Derived.Test.YtapeoeakiphfpaaPath
import Derived.Test.YtapeoeakiphfpaaBCodeLawgLawhLawe
import Derived.Test.YtapeoeakiphfpaaBStepsSamePart
import Derived.Test.YtapeoeakiphfpaaBPhytWalk
import Derived.Laws.OwnMore
/- Plain laws: behind the steps of Path nothing is missing, and walks find what they found; the same behind those of Prune; words stay words. -/
namespace Go.Proofs.Ytapeoeakiphfpaa
open Go.RowKit
set_option linter.unusedVariables false
set_option linter.unusedSimpArgs false

/-- Every walk finds what it found, but that where nothing is it may end at another place. -/
def AlikeW (ws us : List Int) (n : Nat) (root : Int) : Prop := ∀ q x, walkAt ws n q 4 0 root = some x → ∃ y, walkAt us n q 4 0 root = some y ∧ y.fKind = x.fKind ∧ (x.fKind ≠ 0 → y = x)
def StepOk (s : Step) : Prop := 0 ≤ s.fValue ∧ s.fValue < 18446744073709551616
theorem WOk_clear {ws : List Int} (h : WOk ws) (f : Nat) : WOk (clearW ws f) := by
  unfold clearW
  repeat refine WOk_set ?_ _ _ (by omega) (by omega)
  exact h
theorem WOk_stepW {n : Nat} {ws : List Int} {s : Step} (h : WOk ws) (hs : StepOk s) : WOk (stepW n ws s) := by
  unfold stepW
  split
  · split
    · exact WOk_set h _ _ hs.1 hs.2
    · exact h
  · split
    · split
      · exact WOk_clear h _
      · exact h
    · split
      · split
        · exact WOk_set h _ _ (h.getD _).1 (h.getD _).2
        · exact h
      · exact h
theorem WOk_doW {n : Nat} : ∀ (l : List Step) (ws : List Int), WOk ws → (∀ s ∈ l, StepOk s) → WOk (doW n ws l) := by
  intro l
  induction l with
  | nil => intro ws h _; exact h
  | cons s l ih => intro ws h hs; rw [doW_cons]; exact ih _ (WOk_stepW h (hs s (.head _))) fun x hx => hs x (.tail _ hx)
theorem pathS_ok (asid page : Int) : ∀ (fs : List Int) (l : Nat) (tb pl : Int), (∀ f ∈ fs, 0 ≤ f ∧ f < 512) → ∀ s ∈ (pathS asid page l tb pl fs).1, StepOk s := by
  intro fs
  induction fs with
  | nil => intro l tb pl _ s hs; cases hs
  | cons f fs ih =>
    intro l tb pl hf s hs
    simp only [pathS, List.mem_cons] at hs
    have h0 := hf f (.head _)
    rcases hs with rfl | rfl | hs
    · exact ⟨show (0 : Int) ≤ 0 by omega, show (0 : Int) < 18446744073709551616 by omega⟩
    · exact ⟨by show 0 ≤ f * 4096 + 3; omega, by show f * 4096 + 3 < _; omega⟩
    · exact ih _ _ _ (fun x hx => hf x (.tail _ hx)) s hs
theorem pruneS_ok (ws : List Int) (asid page : Int) (way : List (Int × Int)) : ∀ (l : Nat) (but : Int), ∀ s ∈ (pruneS ws asid page way l but).1, StepOk s := by
  intro l
  induction l with
  | zero => intro but s hs; cases hs
  | succ l ih =>
    intro but s hs
    unfold pruneS at hs
    split at hs
    · simp only [List.mem_cons] at hs
      rcases hs with rfl | rfl | rfl | hs
      · exact ⟨show (0 : Int) ≤ 0 by omega, show (0 : Int) < 18446744073709551616 by omega⟩
      · exact ⟨show (0 : Int) ≤ 0 by omega, show (0 : Int) < 18446744073709551616 by omega⟩
      · exact ⟨show (0 : Int) ≤ 0 by omega, show (0 : Int) < 18446744073709551616 by omega⟩
      · exact ih _ s hs
    · cases hs
theorem pruneS_len (ws : List Int) (asid page : Int) (way : List (Int × Int)) : ∀ (l : Nat) (but : Int), (pruneS ws asid page way l but).1.length ≤ 3 * l := by
  intro l
  induction l with
  | zero => intro but; simp [pruneS]
  | succ l ih =>
    intro but
    unfold pruneS
    split
    · have := ih (way.getD l (0, 0)).2
      simp only [List.length_cons]
      omega
    · simp
theorem pruneG_len (ws : List Int) (asid page : Int) (way : List (Int × Int)) : ∀ (l : Nat) (but : Int), (pruneS ws asid page way l but).2.length ≤ l := by
  intro l
  induction l with
  | zero => intro but; simp [pruneS]
  | succ l ih =>
    intro but
    unfold pruneS
    split
    · have := ih (way.getD l (0, 0)).2
      simp only [List.length_cons]
      omega
    · simp
theorem goodF_all {n : Nat} {l : List Int} (h : ¬ l.all (goodF n) = false) : ∀ f ∈ l, 0 ≤ f ∧ f < n := by
  intro f hf
  have h1 : l.all (goodF n) = true := by simpa using h
  simpa [goodF] using List.all_eq_true.1 h1 f hf
/-- What stands where Path told steps. -/
theorem path_parts {n L : Nat} {asid page : Int} {fresh : List Int} {w : Option (List (Int × Int) × Desc)} {st : List Step} {t : Int × Int} (hR : pathRes n asid page L fresh w = .yes st t) :
    ∃ s d, w = some (s, d) ∧ st = (pathS asid page (s.length - 1) (lastS s).1 (lastS s).2 (fresh.take (L + 1 - s.length))).1 ∧ (L + 1 - s.length ≠ 0 → d.fKind = 0) ∧ (∀ f ∈ fresh, 0 ≤ f ∧ f < n) ∧ L + 1 - s.length ≤ fresh.length ∧ 0 ≤ asid ∧ asid ≤ 255 := by
  cases w with
  | none => cases hR
  | some p =>
    obtain ⟨s, d⟩ := p
    unfold pathRes at hR
    dsimp only at hR
    split at hR
    · cases hR
    · rename_i h1
      split at hR
      · cases hR
      · rename_i h2
        split at hR
        · cases hR
        · rename_i h3
          split at hR
          · cases hR
          · rename_i h4
            injection hR with h5 h6
            refine ⟨s, d, rfl, h5.symm, fun h => ?_, goodF_all h3, by omega, by omega, by omega⟩
            exact Classical.byContradiction fun hk => h1 ⟨by omega, hk⟩
theorem path_keeps {ws : List Int} {n L : Nat} {root asid page : Int} {fresh r : List Int} {st : List Step} {t : Int × Int} (hn : n ≤ 512) (hw : ws.length = n * 8) (r0 : 0 ≤ root) (r1 : root < n) (l1 : L < 4) (hr : tabsAt ws n 4 0 root = some r) (hnd : (r ++ fresh).Nodup)
    (hR : pathRes n asid page L fresh (wayAt ws n page (L + 1) 0 root) = .yes st t) :
    needP L (wayAt (doW n ws st) n page (L + 1) 0 root) = (0, 0) ∧ AlikeW ws (doW n ws st) n root ∧ (∀ s ∈ st, StepOk s) ∧ st.length ≤ 10 := by
  obtain ⟨s, d, hs, rfl, hd, hf, hl, _, _⟩ := path_parts hR
  obtain ⟨q0, q1⟩ := wayAt_len _ _ _ _ _ hs
  have hfs : (fresh.take (L + 1 - s.length)).length = L + 1 - s.length := by rw [List.length_take]; omega
  have hnd' : (r ++ fresh.take (L + 1 - s.length)).Nodup := by
    obtain ⟨a, b, c⟩ := List.nodup_append.1 hnd
    exact List.nodup_append.2 ⟨a, b.sublist (List.take_sublist _ _), fun x hx y hy => c x hx y ((List.take_sublist _ _).subset hy)⟩
  have hin : ∀ f ∈ fresh.take (L + 1 - s.length), 0 ≤ f ∧ f < n := fun f h => hf f ((List.take_sublist _ _).subset h)
  have hB := path_behind (asid := asid) hn hw r0 r1 l1 hr hnd' hs (fun h => hd fun h0 => h (List.eq_nil_of_length_eq_zero (by omega))) (by omega) hin
  refine ⟨?_, hB.walks, pathS_ok _ _ _ _ _ _ fun f h => ⟨(hin f h).1, by have := (hin f h).2; omega⟩, by rw [pathS_len]; omega⟩
  by_cases h0 : fresh.take (L + 1 - s.length) = []
  · rw [h0] at hfs ⊢
    simp only [List.length_nil] at hfs
    show needP L (wayAt ws n page (L + 1) 0 root) = _
    rw [hs]
    unfold needP
    dsimp only
    rw [if_neg (by intro h; omega)]
    congr 1
    omega
  · have := hB.way 0 (by omega) h0
    rw [show s.length + (fresh.take (L + 1 - s.length)).length + 0 = L + 1 by omega] at this
    rw [this]
    have hlen : (s ++ chainS page (s.length : Int) (fresh.take (L + 1 - s.length))).length = L + 1 := by rw [List.length_append, chainS_len]; omega
    unfold needP
    dsimp only
    rw [hlen, if_neg (by intro h; omega)]
    congr 1
    omega
theorem prune_parts {ws : List Int} {asid page : Int} {w : Option (List (Int × Int) × Desc)} {st : List Step} {gone : List Int} (hR : pruneRes ws asid page w = .yes st gone) :
    ∃ s d, w = some (s, d) ∧ st = (pruneS ws asid page s (s.length - 1) (-1)).1 ∧ gone = (pruneS ws asid page s (s.length - 1) (-1)).2 := by
  cases w with
  | none => cases hR
  | some p =>
    obtain ⟨s, d⟩ := p
    unfold pruneRes at hR
    dsimp only at hR
    split at hR
    · cases hR
    · injection hR with h5 h6
      exact ⟨s, d, rfl, h5.symm, h6.symm⟩
theorem prune_keeps {ws : List Int} {n : Nat} {root asid page : Int} {r : List Int} {st : List Step} {gone : List Int} (hn : n ≤ 512) (hw : ws.length = n * 8) (r0 : 0 ≤ root) (r1 : root < n) (hr : tabsAt ws n 4 0 root = some r) (hnd : r.Nodup)
    (hR : pruneRes ws asid page (wayAt ws n page 4 0 root) = .yes st gone) : AlikeW ws (doW n ws st) n root ∧ (∀ s ∈ st, StepOk s) ∧ st.length ≤ 10 := by
  obtain ⟨s, d, hs, rfl, _⟩ := prune_parts hR
  have h4 := wayAt_len _ _ _ _ _ hs
  exact ⟨fun q x hx => prune_behind hn hw r0 r1 hr hnd hs q x hx, pruneS_ok _ _ _ _ _ _, by have := pruneS_len ws asid page s (s.length - 1) (-1); omega⟩

end Go.Proofs.Ytapeoeakiphfpaa

/- The contracts of the document's answers paviorref12.Many, paviorref12.Path. -/
namespace Go.Proofs.Ytapeoeakiphfpaa
open Go.RowKit
set_option linter.unusedVariables false
set_option linter.unusedSimpArgs false
attribute [local go_sem] setCell_drewN alloc_drewN lt_moreE le_moreE lt_moreK le_moreK cell_more frozen_more set_more drew_more drewN_more

theorem spanL_succ (l : Nat) (hl : l ≤ 2) : spanL (l : Int) = 8 * spanL ((l + 1 : Nat) : Int) := by
  have hls : l = 0 ∨ l = 1 ∨ l = 2 := by omega
  rcases hls with rfl | rfl | rfl <;> decide
theorem way_place {ws : List Int} {n page : Int} : ∀ (k : Nat) (l tb : Int) (s : List (Int × Int)) (d : Desc), wayAt ws n page k l tb = some (s, d) → ∀ (i : Nat) (z : Int × Int), s[i]? = some z → z.2 = placeN (l + i) page := by
  intro k
  induction k with
  | zero => intro l tb s d h; simp [wayAt] at h
  | succ k ih =>
    intro l tb s d h i z hz
    rw [wayAt_in rfl rfl rfl] at h
    split at h
    · simp only [Option.some.injEq, Prod.mk.injEq] at h
      rw [← h.1] at hz
      cases i with
      | zero => simp at hz; rw [← hz]; simp
      | succ i => simp at hz
    · split at h
      · rw [Option.map_eq_some_iff] at h
        obtain ⟨⟨s', d'⟩, h1, h2⟩ := h
        simp only [Prod.mk.injEq] at h2
        rw [← h2.1] at hz
        cases i with
        | zero => simp at hz; rw [← hz]; simp
        | succ i =>
          have := ih _ _ _ _ h1 i z (by simpa using hz)
          rw [this]; congr 1; simp; omega
      · cases h

section
variable {P : Program} {fn : Func} {p q r : Tmp} {ty : TypeId}
/-- Two results: a slot, a struct in memory. -/
theorem results_tc (h : fn.results = #[.tmp q, .cell p ty]) (tmps : Array Value) (w : World) (g : Nat) (t : TypeId) (cs : Array Value) (fr : Nat × Nat) (d : TypeDesc)
    (hp : tmps.getD p undef = .pointer (some ⟨g, 0, none⟩)) (hg : w.heap[g]? = some (.cells cs t fr))
    (hu : P.underlying ty = some d) (hd : (match d with | .struct _ | .array _ _ => true | _ => false) = true) (hi : (P.info? ty).map (·.size) = some cs.size) :
    (results fn tmps).run P w = .ok (.tuple #[tmps.getD q undef, .agg cs]) w := by
  have hp' : tmps[p]?.getD undef = .pointer (some ⟨g, 0, none⟩) := by simpa using hp
  simp [results, h, hp', asAddr, run_loadVar_row w g t ty cs fr d hg hu hd hi]
end
def RPathRet (B : Nat) (w' : World) (t : List Step × (Int × Int)) (e : Ending) : Prop := ∃ a cap, e = .returned (.tuple #[.slice a t.1.length cap, .agg #[.int .i64 t.2.1, .int .i64 t.2.2]]) ∧ OwnS w' B (.slice a t.1.length cap) t.1
theorem rpathRet_yes {B B' n : Nat} {w' : World} {t : List Step × (Int × Int)} {v : Value} {xs : List Value} {x y : Int} (hxy : t.2 = (x, y)) (h : w'.ownsRow B' 73 10 v n xs) (hb : B ≤ B') (hn : n = t.1.length) (hx : xs = (t.1.map Step.cells).flatten) : RPathRet B w' t (.returned (.tuple #[v, .agg #[.int .i64 x, .int .i64 y]])) := by
  obtain ⟨a, cap, rfl⟩ := own_form h
  subst hn hx
  exact ⟨a, cap, by rw [hxy], own_low h hb⟩

end Go.Proofs.Ytapeoeakiphfpaa

/- The law paviorlaw12.TreePaths. -/
namespace Go.Proofs.Ytapeoeakiphfpaa
open Go.RowKit
set_option linter.unusedVariables false
set_option linter.unusedSimpArgs false
attribute [local go_sem] setCell_drewN alloc_drewN lt_moreE le_moreE lt_moreK le_moreK cell_more frozen_more set_more drew_more drewN_more

theorem tree_PathR (w : World) {b g n c : Nat} {ws : List Int} (hm : MemAt w b g n c ws) (hw : WOk ws) (root asid page : Int) (L : Nat) (h0 : 0 ≤ root) (h1 : root < n) (p0 : 0 ≤ page) (p1 : page < 4096) (l0 : 1 ≤ L) (l1 : L < 4)
    (fresh : List Int) (v : Value) (hv : SlRd w v 1 (fresh.map intCells)) (hfl : fresh.length ≤ 1000) (r : Option (List (Int × Int) × Desc)) (hr : wayAt ws n page (L + 1) 0 root = r) (R : PathR) (hR : pathRes n asid page L fresh r = R) :
    Calls Try.prog 35 #[.pointer (some ⟨b, 0, none⟩), .int .i64 root, .int .i64 asid, .int .i64 page, .int .i64 L, v] w fun e w' => Ext w w' ∧ PathRet w.heap.size w' R e := hR ▸ tree_Path w hm hw root asid page L h0 h1 p0 p1 l0 l1 fresh v hv hfl r hr

theorem tree_Path_no (w : World) {b g n c : Nat} {ws : List Int} (hm : MemAt w b g n c ws) (root asid page level : Int) (v : Value) (h : ¬ (0 ≤ root ∧ root < n ∧ 0 ≤ page ∧ page < 4096 ∧ 1 ≤ level ∧ level < 4)) :
    Calls Try.prog 35 #[.pointer (some ⟨b, 0, none⟩), .int .i64 root, .int .i64 asid, .int .i64 page, .int .i64 level, v] w fun e w' => Ext w w' ∧ PathRet w.heap.size w' (.no 1) e :=
  tree_Path_err w _ root asid page level v 0 1 (fun w' hE => tree_Need_no w' (hm.kept0 hE.grow) root page level h)
theorem cells2 {w : World} {n : Nat} {T : TypeId} {a0 a1 : Value} (h : w.heap[n]? = some (.cells #[a0, a1] T (0, 0))) :
    w.cell? ⟨n, 0, none⟩ = some a0 ∧ w.cell? ⟨n, 1, none⟩ = some a1 ∧ ∀ i, w.frozen? ⟨n, i, none⟩ = false := by
  have key := fun i => cell_of_row w n i _ _ _ h
  exact ⟨key 0, key 1, fun i => frozen_of_row w n i _ _ h⟩

end Go.Proofs.Ytapeoeakiphfpaa

/- Rows of the call's own whose cells are written over; what the laws that ask twice share. -/
namespace Go.Proofs.Ytapeoeakiphfpaa
open Go.RowKit
set_option linter.unusedVariables false
set_option linter.unusedSimpArgs false

/-- A row of the call's own, whatever its cells are. -/
def Row (w : World) (B : Nat) (T : TypeId) (sz : Nat) (v : Value) (n : Nat) : Prop := ∃ xs, w.ownsRow B T sz v n xs
section
variable {w W : World} {B sz n cap g : Nat} {T : TypeId} {v : Value} {a : Option Addr}
theorem Row.of {xs : List Value} (h : w.ownsRow B T sz v n xs) : Row w B T sz v n := ⟨xs, h⟩
theorem Row.more (h : Row w B T sz v n) (x : Array Obj × Nat) : Row (more w x) B T sz v n := ⟨_, own_more h.choose_spec x⟩
theorem Row.alloc (h : Row w B T sz v n) (o : Obj) : Row (w.alloc o) B T sz v n := ⟨_, own_alloc h.choose_spec o⟩
theorem Row.drew (h : Row w B T sz v n) : Row w.drew B T sz v n := h
theorem Row.drewN (h : Row w B T sz v n) (k : Nat) : Row (w.drewN k) B T sz v n := h
theorem Row.set (h : Row w B T sz (.slice (some ⟨g, 0, none⟩) n cap) n) (j : Nat) (u : Value) : Row (w.setCell ⟨g, j, none⟩ u) B T sz (.slice (some ⟨g, 0, none⟩) n cap) n := ⟨_, (World.ownsRow.stored h.choose_spec j u).1⟩
theorem Row.nil (w : World) (B : Nat) (T : TypeId) (sz : Nat) : Row w B T sz (.slice none 0 0) 0 := ⟨_, World.ownsRow_nil _ _ _ _⟩
theorem ext_set (h : Ext W w) (hg : W.heap.size ≤ g) (j : Nat) (u : Value) : Ext W (w.setCell ⟨g, j, none⟩ u) :=
  .of ⟨h.grow.os, h.grow.tape, h.grow.output, by simpa using h.size, fun i hi e => by rw [heap_setCell_other _ _ _ _ (by show i ≠ g; omega)]; exact h.grow.block i hi e⟩
theorem Row.cells (h : Row w B T sz (.slice a n cap) n) (hn : 0 < n) : ∃ g, a = some ⟨g, 0, none⟩ ∧ B ≤ g ∧ g < w.heap.size ∧ (∀ j, j < n * sz → ∃ u, w.cell? ⟨g, j, none⟩ = some u) ∧ ∀ j, w.frozen? ⟨g, j, none⟩ = false := by
  obtain ⟨xs, ho⟩ := h
  obtain ⟨g, rfl, h1, h2, _, h4, h5⟩ := own_at ho hn
  refine ⟨g, rfl, h1, h2, fun j hj => ⟨xs[j]'(by rw [ho.1]; exact hj), h4 j _ (List.getElem?_eq_getElem _)⟩, h5⟩
end
/-- A row's cells at the q-th element of ten. -/
theorem row_ten {w : World} {g n : Nat} (h : ∀ j, j < n * 10 → ∃ u, w.cell? ⟨g, j, none⟩ = some u) (q : Nat) (hq : q < n) : ∃ u0 u1 u2 u3 u4 u5 u6 u7 u8 u9, w.cell? ⟨g, q * 10, none⟩ = some u0 ∧ w.cell? ⟨g, q * 10 + 1, none⟩ = some u1 ∧ w.cell? ⟨g, q * 10 + 2, none⟩ = some u2 ∧ w.cell? ⟨g, q * 10 + 3, none⟩ = some u3 ∧ w.cell? ⟨g, q * 10 + 4, none⟩ = some u4 ∧ w.cell? ⟨g, q * 10 + 5, none⟩ = some u5 ∧ w.cell? ⟨g, q * 10 + 6, none⟩ = some u6 ∧ w.cell? ⟨g, q * 10 + 7, none⟩ = some u7 ∧ w.cell? ⟨g, q * 10 + 8, none⟩ = some u8 ∧ w.cell? ⟨g, q * 10 + 9, none⟩ = some u9 := by
  obtain ⟨u0, h0⟩ := h (q * 10) (by omega)
  obtain ⟨u1, h1⟩ := h (q * 10 + 1) (by omega)
  obtain ⟨u2, h2⟩ := h (q * 10 + 2) (by omega)
  obtain ⟨u3, h3⟩ := h (q * 10 + 3) (by omega)
  obtain ⟨u4, h4⟩ := h (q * 10 + 4) (by omega)
  obtain ⟨u5, h5⟩ := h (q * 10 + 5) (by omega)
  obtain ⟨u6, h6⟩ := h (q * 10 + 6) (by omega)
  obtain ⟨u7, h7⟩ := h (q * 10 + 7) (by omega)
  obtain ⟨u8, h8⟩ := h (q * 10 + 8) (by omega)
  obtain ⟨u9, h9⟩ := h (q * 10 + 9) (by omega)
  exact ⟨u0, u1, u2, u3, u4, u5, u6, u7, u8, u9, h0, h1, h2, h3, h4, h5, h6, h7, h8, h9⟩
theorem phys_Same_yes (w : World) {b g n c b' g' n' c' : Nat} {ws : List Int} (hm : MemAt w b g n c ws) (hm' : MemAt w b' g' n' c' ws) :
    Calls Try.prog 63 #[.pointer (some ⟨b, 0, none⟩), .pointer (some ⟨b', 0, none⟩)] w fun e w' => e = .returned (.bool true) ∧ ∃ m, w' = w.drewN m :=
  (phys_Same w hm hm').mono fun _ _ ⟨he, hw⟩ => ⟨he.trans (ret_bool (by simp)), hw⟩
/-- Steps that are told begin with a step of a kind, and are not too many. -/
def FirstK (k : Int) (r : StepsR) : Prop := ∀ s, r = .yes s → s.length ≤ 900000 ∧ ∀ h : Step, s[0]? = some h → h.fKind = k
/-- What was told: so many steps, of which the first is of a kind, and an error or none. -/
def Told (k : Int) (n : Nat) (ev : Value) (B : Nat) (w' : World) (e : Ending) : Prop := ∃ a cap, e = .returned (.tuple #[.slice a n cap, ev]) ∧ Row w' B 73 10 (.slice a n cap) n ∧ n ≤ cap ∧ cap ≤ maxLen ∧ (0 < n → ∃ g, a = some ⟨g, 0, none⟩ ∧ B ≤ g ∧ g < w'.heap.size ∧ w'.cell? ⟨g, 0, none⟩ = some (.int .i64 k))
theorem told_of {k : Int} {R : StepsR} (h : FirstK k R) : ∃ n ev, n ≤ 900000 ∧ (ev = .nilIface ∨ ∃ k : Nat, ev = errW k) ∧ ∀ B w' e, StepsRet B w' R e → Told k n ev B w' e := by
  cases R with
  | no j => exact ⟨0, _, by omega, .inr ⟨j, rfl⟩, fun B w' e he => ⟨none, 0, he, Row.nil _ _ _ _, Nat.le_refl _, by simp, fun h => absurd h (by omega)⟩⟩
  | yes s =>
    obtain ⟨h1, h2⟩ := h s rfl
    refine ⟨s.length, _, h1, .inl rfl, fun B w' e he => ?_⟩
    obtain ⟨a, cap, rfl, ho⟩ := he
    have hc := own_cap ho
    refine ⟨a, cap, rfl, .of ho, hc.2.1, hc.2.2, fun hn => ?_⟩
    obtain ⟨g, rfl, hB, hg, _, hx, _⟩ := own_at ho hn
    refine ⟨g, rfl, hB, hg, ?_⟩
    have hz : s[0]? = some s[0] := List.getElem?_eq_getElem hn
    have := (step_at hx 0 _ hz).1
    rw [h2 _ hz] at this
    simpa using this
theorem told_any {k : Int} {R : StepsR} (h : FirstK k R) {f : FuncId} {n : Nat} {ws : List Int} {args : Array Value} (hc : ∀ w b g c, MemAt w b g n c ws → Calls Try.prog f (#[.pointer (some ⟨b, 0, none⟩)] ++ args) w fun e w' => Ext w w' ∧ StepsRet w.heap.size w' R e) :
    ∃ j ev, j ≤ 900000 ∧ (ev = .nilIface ∨ ∃ k : Nat, ev = errW k) ∧ ∀ w b g c, MemAt w b g n c ws → Calls Try.prog f (#[.pointer (some ⟨b, 0, none⟩)] ++ args) w fun e w' => Ext w w' ∧ Told k j ev w.heap.size w' e := by
  obtain ⟨j, ev, hj, hv, ht⟩ := told_of h
  exact ⟨j, ev, hj, hv, fun w b g c hm => (hc w b g c hm).mono fun e w' ⟨h1, h2⟩ => ⟨h1, ht _ w' e h2⟩⟩

end Go.Proofs.Ytapeoeakiphfpaa
