import Derived.Test.YthcdecgecabgaaaBSemwSamqPrunsKeeq
import Derived.Test.YthcdecgecabgaaaBErrisMovpSplitMergeMergfPathrPatht
import Derived.Test.YthcdecgecabgaaaBRefbFoldpMore
import Derived.Laws.StructEq
import Derived.Maps.RangeRun
import Derived.Maps.RangeWalk
/- Plain laws behind TreeBack: Prune takes away what Path laid. -/
namespace Go.Proofs.Ythcdecgecabgaaa
open Go.RowKit
set_option linter.unusedVariables false
set_option linter.unusedSimpArgs false

/-- A step that writes or clears, at a place that is there. -/
def StepIn (n : Nat) (s : Step) : Prop := (s.fKind = 4 ∧ 0 ≤ s.fTo ∧ s.fTo < n) ∨ (s.fKind = 1 ∧ 0 ≤ s.fTable ∧ s.fTable < n ∧ 0 ≤ s.fPlace ∧ s.fPlace < 8)
theorem pathS_in {n : Nat} (asid page : Int) : ∀ (fs : List Int) (l : Nat) (tb pl : Int), (∀ f ∈ fs, 0 ≤ f ∧ f < n) → 0 ≤ tb → tb < n → 0 ≤ pl → pl < 8 → ∀ s ∈ (pathS asid page l tb pl fs).1, StepIn n s := by
  intro fs
  induction fs with
  | nil => intro l tb pl _ _ _ _ _ s hs; cases hs
  | cons f fs ih =>
    intro l tb pl hf t0 t1 p0 p1 s hs
    simp only [pathS, List.mem_cons] at hs
    have h0 := hf f (.head _)
    rcases hs with rfl | rfl | hs
    · exact .inl ⟨rfl, h0⟩
    · exact .inr ⟨rfl, t0, t1, p0, p1⟩
    · exact ih _ _ _ (fun x hx => hf x (.tail _ hx)) h0.1 h0.2 (placeN_lo _ _) (by have := placeN_hi ((l + 1 : Nat) : Int) page; simpa using this) s hs
/-- Where all tables are there, so is each way. -/
theorem tabs_way {ws : List Int} {n : Nat} {page : Int} : ∀ (k : Nat) (lv tb : Int) (r : List Int), tabsAt ws n (k + 1) lv tb = some r → ∃ z, wayAt ws n page (k + 1) lv tb = some z := by
  intro k
  induction k with
  | zero =>
    intro lv tb r h
    rw [wayAt_in rfl rfl rfl]
    split
    · exact ⟨_, rfl⟩
    · rename_i h1; simp at h1
  | succ k ih =>
    intro lv tb r h
    obtain ⟨ht, f, rfl, hf⟩ := tabs_parts h
    rw [wayAt_in rfl rfl rfl]
    split
    · exact ⟨_, rfl⟩
    · rename_i h1
      have hk : (decD lv (ws.getD (tb.toNat * 8 + (placeN lv page).toNat) 0)).fKind = 1 := Classical.byContradiction fun hh => h1 (.inr hh)
      have hm := hf _ (placeN_nat lv page) hk
      obtain ⟨z, hz⟩ := ih _ _ _ hm
      rw [if_pos (tabs_parts hm).1, hz]
      exact ⟨_, rfl⟩
theorem path_back {ws : List Int} {n L : Nat} {root page : Int} {fresh r : List Int} {st : List Step} {t : Int × Int} (hn : n ≤ 512) (hw : ws.length = n * 8) (r0 : 0 ≤ root) (r1 : root < n) (p0 : 0 ≤ page) (p1 : page < 4096) (l1 : L < 4) (hr : tabsAt ws n 4 0 root = some r) (hnd : (r ++ fresh).Nodup)
    (hR : pathRes n 1 page L fresh (wayAt ws n page (L + 1) 0 root) = .yes st t) :
    (∀ s ∈ st, StepIn n s) ∧ st.length / 2 ≤ fresh.length ∧ ∃ sp gone, pruneQ (doW n ws st) n root 1 page = .yes sp gone ∧ gone.length ≤ 10 ∧ ∀ i, i < st.length / 2 → fresh.getD i 0 ∈ gone := by
  obtain ⟨s, d, hs, rfl, hd, hf, hl, _, _⟩ := path_parts hR
  obtain ⟨q0, q1⟩ := wayAt_len _ _ _ _ _ hs
  have hfs : (fresh.take (L + 1 - s.length)).length = L + 1 - s.length := by rw [List.length_take]; omega
  have hnd' : (r ++ fresh.take (L + 1 - s.length)).Nodup := by
    obtain ⟨a, b, c⟩ := List.nodup_append.1 hnd
    exact List.nodup_append.2 ⟨a, b.sublist (List.take_sublist _ _), fun x hx y hy => c x hx y ((List.take_sublist _ _).subset hy)⟩
  have hin : ∀ f ∈ fresh.take (L + 1 - s.length), 0 ≤ f ∧ f < n := fun f h => hf f ((List.take_sublist _ _).subset h)
  have hB := path_behind (asid := 1) hn hw r0 r1 l1 hr hnd' hs (fun h => hd fun h0 => h (List.eq_nil_of_length_eq_zero (by omega))) (by omega) hin
  have hlen := pathS_len 1 page (fresh.take (L + 1 - s.length)) (s.length - 1) (lastS s).1 (lastS s).2
  have hz : s[s.length - 1]? = some (lastS s) := by unfold lastS; rw [List.getD_eq_getElem?_getD, List.getElem?_eq_getElem (by omega)]; rfl
  obtain ⟨hsee, hpl, _⟩ := way_sees _ _ _ _ _ r0 r1 hs _ _ hz
  obtain ⟨_, _, T0, T1⟩ := sees_lo _ _ _ _ _ hsee
  have hp0 := placeN_lo (0 + ((s.length - 1 : Nat) : Int)) page
  have hp1 := placeN_hi (0 + ((s.length - 1 : Nat) : Int)) page
  rw [← hpl] at hp0 hp1
  have hIn := pathS_in (n := n) 1 page (fresh.take (L + 1 - s.length)) (s.length - 1) (lastS s).1 (lastS s).2 hin T0 T1 hp0 hp1
  have hsl : (pathS 1 page (s.length - 1) (lastS s).1 (lastS s).2 (fresh.take (L + 1 - s.length))).1.length / 2 = L + 1 - s.length := by omega
  refine ⟨hIn, by omega, ?_⟩
  rw [hsl]
  unfold pruneQ
  rw [if_pos ⟨r0, r1, p0, p1⟩]
  by_cases h0 : fresh.take (L + 1 - s.length) = []
  · rw [h0]
    rw [h0] at hfs
    simp only [List.length_nil] at hfs
    show ∃ sp gone, pruneRes ws 1 page (wayAt ws n page 4 0 root) = _ ∧ _
    obtain ⟨⟨s2, d2⟩, hz2⟩ := tabs_way (page := page) _ _ _ _ hr
    rw [hz2]
    have h4 := wayAt_len _ _ _ _ _ hz2
    refine ⟨_, _, rfl, ?_, fun i hi => by omega⟩
    have := pruneG_len ws 1 page s2 (s2.length - 1) (-1)
    omega
  · have hway := hB.way (4 - (L + 1)) (by omega) h0
    rw [show s.length + (fresh.take (L + 1 - s.length)).length + (4 - (L + 1)) = 4 by omega] at hway
    rw [hway]
    refine ⟨_, _, rfl, ?_, fun i hi => ?_⟩
    · have := pruneG_len (doW n ws (pathS 1 page (s.length - 1) (lastS s).1 (lastS s).2 (fresh.take (L + 1 - s.length))).1) 1 page (s ++ chainS page (s.length : Int) (fresh.take (L + 1 - s.length))) ((s ++ chainS page (s.length : Int) (fresh.take (L + 1 - s.length))).length - 1) (-1)
      rw [List.length_append, chainS_len] at this ⊢
      omega
    · have hb := prune_back (us := doW n ws (pathS 1 page (s.length - 1) (lastS s).1 (lastS s).2 (fresh.take (L + 1 - s.length))).1) (asid := 1) (page := page) (pre := s) _ (fresh.take (L + 1 - s.length)) rfl (-1) _ (s.length : Int) ⟨[], by simp, fun h => absurd rfl h⟩ hB.chain rfl q0 (fresh.getD i 0) (by
        rw [List.getD_eq_getElem?_getD, List.getElem?_eq_getElem (by omega)]
        simp only [Option.getD_some]
        exact List.mem_take_iff_getElem.2 ⟨i, by omega, rfl⟩)
      rw [show s.length + (fresh.take (L + 1 - s.length)).length - 1 = (s ++ chainS page (s.length : Int) (fresh.take (L + 1 - s.length))).length - 1 by rw [List.length_append, chainS_len]] at hb
      exact hb

end Go.Proofs.Ythcdecgecabgaaa

/- Plain laws behind HugeParts: what walks find behind the steps that part a block. -/
namespace Go.Proofs.Ythcdecgecabgaaa
open Go.RowKit
set_option linter.unusedVariables false
set_option linter.unusedSimpArgs false

/-- A walk comes by the table where it ends. -/
theorem walk_sees {ws : List Int} {n p : Int} : ∀ (k : Nat) (lv tb : Int) (f : Found), walkAt ws n p k lv tb = some f → Sees ws n p k lv tb f.fLevel f.fTable := by
  intro k
  induction k with
  | zero => intro lv tb f h; simp [walkAt] at h
  | succ k ih =>
    intro lv tb f h
    by_cases ht : 0 ≤ tb ∧ tb < n
    · rw [walk_step ht rfl] at h
      refine sees_succ.2 ⟨ht, ?_⟩
      split at h
      · rename_i hk
        exact .inr ⟨hk, ih _ _ _ h⟩
      · left
        rw [← Option.some.inj h]
        exact ⟨(foundD_parts _ _ _ _ _).1, (foundD_parts _ _ _ _ _).2.1⟩
    · unfold walkAt at h
      rw [if_neg ht] at h
      cases h
/-- Where all tables are there, each walk ends. -/
theorem tabs_walk {ws : List Int} {n : Nat} {page : Int} : ∀ (k : Nat) (lv tb : Int) (r : List Int), 0 ≤ lv → lv + (k + 1) = 4 → tabsAt ws n (k + 1) lv tb = some r → ∃ z, walkAt ws n page (k + 1) lv tb = some z := by
  intro k
  induction k with
  | zero =>
    intro lv tb r l0 l1 h
    obtain ⟨ht, f, rfl, hf⟩ := tabs_parts h
    rw [walk_step ht rfl]
    split
    · rename_i h1
      have := hf _ (placeN_nat lv page) h1
      simp [tabsAt] at this
    · exact ⟨_, rfl⟩
  | succ k ih =>
    intro lv tb r l0 l1 h
    obtain ⟨ht, f, rfl, hf⟩ := tabs_parts h
    rw [walk_step ht rfl]
    split
    · rename_i h1
      exact ih _ _ _ (by omega) (by omega) (hf _ (placeN_nat lv page) h1)
    · exact ⟨_, rfl⟩
theorem place0 (p : Int) : placeN 0 p = p / 512 % 8 := rfl
theorem place1 (p : Int) : placeN 1 p = p / 64 % 8 := rfl
theorem place2 (p : Int) : placeN 2 p = p / 8 % 8 := rfl
theorem place3 (p : Int) : placeN 3 p = p / 1 % 8 := rfl
/-- Pages whose places are the same down to a level. -/
theorem same_block {p q : Int} (p0 : 0 ≤ p) (p1 : p < 4096) (q0 : 0 ≤ q) (q1 : q < 4096) : (∀ m : Int, 0 ≤ m → m ≤ 2 → placeN m p = placeN m q) ↔ p / 8 = q / 8 := by
  constructor
  · intro h
    have h0 := h 0 (by omega) (by omega)
    have h1 := h 1 (by omega) (by omega)
    have h2 := h 2 (by omega) (by omega)
    rw [place0, place0] at h0
    rw [place1, place1] at h1
    rw [place2, place2] at h2
    omega
  · intro h m m0 m2
    have hm : m = 0 ∨ m = 1 ∨ m = 2 := by omega
    rcases hm with rfl | rfl | rfl
    · rw [place0, place0]; omega
    · rw [place1, place1]; omega
    · rw [place2, place2]; omega

end Go.Proofs.Ythcdecgecabgaaa

/- Maps keyed by a struct of two numbers: look-up, store, delete, by the list of entries. -/
namespace Go.Proofs.Ythcdecgecabgaaa
open Go.RowKit
open Go.ChangeMaps (setBlock)
set_option linter.unusedVariables false
set_option linter.unusedSimpArgs false

/-- A struct of two numbers, as a key. -/
abbrev key2 (a b : Int) : Value := .agg #[.int .i64 a, .int .i64 b]
/-- What a map keyed by such structs wants of its key's type. -/
structure Key2 (P : Program) (k : TypeId) : Prop where
  check : ∀ (w : World) (em : Bool) (a b : Int), (Instr.checkKey em 10000 k (key2 a b)).run P w = .ok () w
  eq : ∀ (w : World) (a b c d : Int), (Op.equal k (key2 a b) (key2 c d)).run P w = .ok (a == c && b == d) w
  und : ∃ fs, P.underlying k = some (.struct fs)
theorem key2_stays {P : Program} (w : World) (a b : Int) : (Instr.keyThatStays (key2 a b) (key2 a b)).run P w = .ok (key2 a b) w := by
  have h : Instr.sameBits 10000 (key2 a b) (key2 a b) = true := by
    show Instr.sameBits (9999 + 1) (key2 a b) (key2 a b) = true
    unfold Instr.sameBits
    simp [Instr.sameBits]
  unfold Instr.keyThatStays
  rw [if_pos h]
  rfl
/-- An entry of such a map. -/
structure KE where
  a : Int
  b : Int
  val : Value
  born : Nat
def KE.ent (e : KE) : MapEntry := ⟨key2 e.a e.b, e.val, e.born⟩
def KE.is (a b : Int) (e : KE) : Bool := a == e.a && b == e.b
def entsK (l : List KE) : Array MapEntry := (l.map KE.ent).toArray
/-- Where a key stands among entries. -/
def findK (a b : Int) (l : List KE) : Option Nat := l.findIdx? (KE.is a b)
def getK (a b : Int) (l : List KE) : Option Value := (findK a b l).bind fun j => (l[j]?).map KE.val
def setK (a b : Int) (v : Value) (clock : Nat) (l : List KE) : List KE := match findK a b l with
  | some j => l.modify j fun e => { e with val := v }
  | none => l ++ [⟨a, b, v, clock⟩]
def clockK (a b : Int) (clock : Nat) (l : List KE) : Nat := match findK a b l with
  | some _ => clock
  | none => clock + 1
def delK (a b : Int) (l : List KE) : List KE := match findK a b l with
  | some j => l.eraseIdx j
  | none => l
theorem findK_cons (a b : Int) (e : KE) (l : List KE) : findK a b (e :: l) = if KE.is a b e then some 0 else (findK a b l).map (· + 1) := by
  unfold findK; rw [List.findIdx?_cons]
theorem findK_lt {a b : Int} {l : List KE} {j : Nat} (h : findK a b l = some j) : ∃ (hj : j < l.length), l[j].a = a ∧ l[j].b = b := by
  obtain ⟨hj, h1, _⟩ := List.findIdx?_eq_some_iff_getElem.1 h
  refine ⟨hj, ?_⟩
  unfold KE.is at h1
  simp at h1
  exact ⟨h1.1.symm, h1.2.symm⟩
section
variable {P : Program} {k : TypeId}
theorem find_asking (K : Key2 P k) (w : World) (a b : Int) : ∀ (l : List KE) (i : Nat), (Instr.findAsking k (key2 a b) (l.map KE.ent) i).run P w = .ok ((findK a b l).bind fun j => (l[j]?).map fun e => (i + j, e.val)) w := by
  intro l
  induction l with
  | nil => intro i; rfl
  | cons e l ih =>
    intro i
    rw [List.map_cons]
    unfold Instr.findAsking
    rw [Sem.run_bind, show e.ent.key = key2 e.a e.b from rfl, K.eq w a b e.a e.b, Result.andThen_ok, findK_cons]
    unfold KE.is
    cases hb : (a == e.a && b == e.b) with
    | true => rfl
    | false =>
      simp only [Bool.false_eq_true, if_false]
      rw [ih (i + 1)]
      cases findK a b l with
      | none => rfl
      | some j => simp [Nat.add_assoc, Nat.add_comm 1 j]
theorem find_key (K : Key2 P k) (w : World) (a b : Int) (l : List KE) : (Instr.findKey k (key2 a b) (entsK l).toList).run P w = .ok ((findK a b l).bind fun j => (l[j]?).map fun e => (j, e.val)) w := by
  obtain ⟨fs, hu⟩ := K.und
  unfold Instr.findKey entsK
  rw [Sem.run_bind, run_underlying hu, Result.andThen_ok]
  cases l with
  | nil => rfl
  | cons e l =>
    have hn : Instr.findNow (.struct fs) (key2 a b) ((e :: l).map KE.ent) 0 = none := by
      rw [List.map_cons]; unfold Instr.findNow Instr.sameNow; rfl
    show ((match Instr.findNow (.struct fs) (key2 a b) ((e :: l).map KE.ent) 0 with
      | some r => pure r
      | none => Instr.findAsking k (key2 a b) ((e :: l).map KE.ent)) : Sem _).run P w = _
    rw [hn]
    have := find_asking K w a b (e :: l) 0
    simp only [Nat.zero_add] at this
    exact this
variable {t e : TypeId} (w : World) (mb : Nat) (l : List KE) (clock : Nat)
theorem run_set {o : Obj} (hm : w.heap[mb]? = some (.map (entsK l) clock)) : (setObj mb o).run P w = .ok () (setBlock w mb o) := by simp [setObj, Sem.run, hm, setBlock]
/-- m[key] = value. -/
theorem run_update2 (K : Key2 P k) (ht : P.underlying t = some (.map k e)) (hm : w.heap[mb]? = some (.map (entsK l) clock)) (a b : Int) (v : Value) :
    (Instr.mapUpdate t (.map (some mb)) (key2 a b) v).run P w = .ok () (setBlock w mb (.map (entsK (setK a b v clock l)) (clockK a b clock l))) := by
  have hset : ∀ o : Obj, (setObj mb o).run P w = .ok () (setBlock w mb o) := fun o => run_set w mb l clock hm
  unfold Instr.mapUpdate
  simp only [Sem.run_bind, run_underlying ht, Result.andThen_ok]
  simp only [getObj, Sem.run_bind, Sem.run, hm, Result.andThen_ok, K.check]
  rw [find_key K w a b l]
  unfold setK clockK
  cases hj : findK a b l with
  | none =>
    simp only [Option.bind_none, Result.andThen_ok]
    rw [hset]
    congr 3
    simp [entsK, KE.ent]
  | some j =>
    obtain ⟨hlt, h1, h2⟩ := findK_lt hj
    have hc : l[j]? = some l[j] := List.getElem?_eq_getElem hlt
    simp only [Option.bind_some, hc, Option.map_some, Result.andThen_ok, Sem.run_bind]
    have hc' : (entsK l)[j]? = some l[j].ent := by simp [entsK, hc]
    have hkey : (((entsK l)[j]?).map (·.key)).getD (key2 a b) = key2 a b := by rw [hc']; show key2 l[j].a l[j].b = _; rw [h1, h2]
    rw [hkey, key2_stays, Result.andThen_ok, hset]
    congr 3
    apply Array.ext'
    unfold entsK
    rw [Array.toList_modify]
    apply List.ext_getElem?
    intro i
    simp only [List.getElem?_modify, List.getElem?_map]
    by_cases hi : j = i
    · subst hi
      simp [hc, KE.ent, h1, h2]
    · simp [hi]
/-- delete(m, key). -/
theorem run_delete2 (K : Key2 P k) (ht : P.underlying t = some (.map k e)) (hm : w.heap[mb]? = some (.map (entsK l) clock)) (a b : Int) (ty : TypeId) :
    (Builtin.delete_ #[t, k] ty #[.map (some mb), key2 a b]).run P w = .ok (.tuple #[]) (setBlock w mb (.map (entsK (delK a b l)) clock)) := by
  have hset : ∀ o : Obj, (setObj mb o).run P w = .ok () (setBlock w mb o) := fun o => run_set w mb l clock hm
  unfold Builtin.delete_
  simp only [List.getElem?_toArray, List.getElem?_cons_zero, List.getElem?_cons_succ, Sem.run_bind, run_underlying ht, Result.andThen_ok]
  simp only [getObj, Sem.run_bind, Sem.run, hm, Result.andThen_ok, K.check]
  rw [find_key K w a b l]
  unfold delK
  cases hj : findK a b l with
  | none =>
    simp only [Option.bind_none, Result.andThen_ok, Sem.run_bind]
    rw [hset]
    rfl
  | some j =>
    obtain ⟨hlt, h1, h2⟩ := findK_lt hj
    have hc : l[j]? = some l[j] := List.getElem?_eq_getElem hlt
    simp only [Option.bind_some, hc, Option.map_some, Result.andThen_ok, Sem.run_bind]
    rw [hset]
    simp [entsK, Result.andThen, Array.eraseIdxIfInBounds, hlt, Go.ChangeMaps.map_eraseIdx]
/-- v, ok := m[key]. -/
theorem run_lookup2 (K : Key2 P k) (ht : P.underlying t = some (.map k e)) (hm : w.heap[mb]? = some (.map (entsK l) clock)) (z : Value) (hz : (zeroValue e).run P w = .ok z w) (a b : Int) :
    (Instr.lookup t (.map (some mb)) (key2 a b) true).run P w = .ok (.tuple #[(getK a b l).getD z, .bool (getK a b l).isSome]) w := by
  unfold Instr.lookup
  simp only [Sem.run_bind, run_underlying ht, Result.andThen_ok]
  simp only [getObj, Sem.run_bind, Sem.run, hm, Result.andThen_ok, K.check]
  rw [show (Sem.run P (pure (entsK l) : Sem (Array MapEntry)) w) = .ok (entsK l) w from rfl, Result.andThen_ok, find_key K w a b l]
  unfold getK
  cases hj : findK a b l with
  | none =>
    simp only [Option.bind_none, Result.andThen_ok, hz]
    simp [Result.andThen, hz]
  | some j =>
    obtain ⟨hlt, h1, h2⟩ := findK_lt hj
    have hc : l[j]? = some l[j] := List.getElem?_eq_getElem hlt
    simp [hc, Result.andThen]
end

end Go.Proofs.Ythcdecgecabgaaa

/- Maps keyed by a struct of two numbers: the walk's laws of a range, a store; one block turned. -/
namespace Go.Proofs.Ythcdecgecabgaaa
open Go.RowKit
open Go.ChangeMaps (setBlock)
set_option linter.unusedVariables false
set_option linter.unusedSimpArgs false

theorem heap_setBlock (w : World) (b : Nat) (o : Obj) (k : Nat) : (setBlock w b o).heap[k]? = if k = b ∧ b < w.heap.size then some o else w.heap[k]? := by
  unfold setBlock
  rw [Array.getElem?_setIfInBounds]
  by_cases h : b = k
  · subst h
    by_cases h2 : b < w.heap.size
    · simp [h2]
    · simp [h2]
  · rw [if_neg h, if_neg (fun hh => h hh.1.symm)]
theorem grow_setBlock (w : World) (b : Nat) (o : Obj) : w.grownBy (setBlock w b o) (some b) :=
  ⟨rfl, rfl, rfl, by simp [setBlock], fun i hi e => by rw [heap_setBlock, if_neg (fun hh => e (by rw [hh.1]))]⟩
theorem ext_grow {W w w' : World} {g : Nat} (h : Ext W w) (k : w.grownBy w' (some g)) (hg : W.heap.size ≤ g) : Ext W w' := .of (grow_new h.grow k hg)

section
variable {P : Program} {w : World} {ops : Array Oper} {rest : List Oper} {o : Oper} {a : Act} {Q : Exit → Act → World → Prop}
/-- 'range m'. -/
theorem wpList_range2 (hg : o.guard = none) (m : Operand) (t k e : TypeId) (hop : o.op = Op.range t m) (ht : P.underlying t = some (.map k e)) (mb : Nat) (es : Array MapEntry) (clock : Nat) (hm : a.eval m = .map (some mb)) (hb : w.heap[mb]? = some (.map es clock))
    (h : wpList P ops Q rest (a.put o.dst (.pointer (some ⟨w.heap.size, 0, none⟩))) (w.alloc (.mapIter (some mb) clock #[] clock))) : wpList P ops Q (o :: rest) a w := by
  refine wpList_plain hg fun K' hK' => ?_
  unfold Oper.wp
  simp [execOp, hop, hm, run_range_map w t k e mb es clock ht hb, Result.andThen]
  exact hK' _ _ h
/-- m[key] = value, keyed by a struct of two numbers. -/
theorem wpList_update2 (hg : o.guard = none) (m x v : Operand) (t k e : TypeId) (hop : o.op = Op.mapUpdate t m x v) (K : Key2 P k) (ht : P.underlying t = some (.map k e)) (mb : Nat) (l : List KE) (clock : Nat) (p q : Int) (val : Value) (hm : a.eval m = .map (some mb)) (hx : a.eval x = key2 p q) (hv : a.eval v = val) (hb : w.heap[mb]? = some (.map (entsK l) clock))
    (h : wpList P ops Q rest (a.put o.dst undef) (setBlock w mb (.map (entsK (setK p q val clock l)) (clockK p q clock l)))) : wpList P ops Q (o :: rest) a w := by
  refine wpList_plain hg fun K' hK' => ?_
  unfold Oper.wp
  simp [execOp, hop, hm, hx, hv, run_update2 w mb l clock K ht hb p q val, Result.andThen]
  exact hK' _ _ h
/-- An entry that the loop's step hands out. -/
structure Came (P : Program) (w w2 : World) (r mb since clock : Nat) (seen : Array Nat) (l : List KE) (e : KE) : Prop where
  mem : e ∈ l
  new : e.born ∉ seen.toList
  iter : w2.heap[r]? = some (.mapIter (some mb) since (seen.push e.born) clock)
  oth : ∀ (k : Nat) (ob : Obj), w.heap[k]? = some ob → k ≠ r → w2.heap[k]? = some ob
  grow : w.grownBy w2 (some r)
  entry : (Instr.entry (.pointer (some ⟨r, 0, none⟩))).run P w2 = .ok (.tuple #[key2 e.a e.b, e.val]) w2
def AllSeen (l : List KE) (seen : Array Nat) : Prop := ∀ e ∈ l, e.born ∈ seen.toList
def Fresh2 (l : List KE) (since : Nat) : Prop := (∀ e ∈ l, e.born < since) ∧ (l.map KE.born).Nodup
/-- The loop's step: nothing is left, or an entry comes. -/
theorem wpList_next2 (hg : o.guard = none) (it : Operand) (hop : o.op = Op.next it false) (r mb since : Nat) (seen : Array Nat) (l : List KE) (clock : Nat) (hit : a.eval it = .pointer (some ⟨r, 0, none⟩))
    (hr : w.heap[r]? = some (.mapIter (some mb) since seen clock)) (hb : w.heap[mb]? = some (.map (entsK l) clock)) (hf : Fresh2 l since) (hsc : since ≤ clock)
    (hDone : AllSeen l seen → wpList P ops Q rest (a.put o.dst (.tuple #[.bool false])) w)
    (hMore : ∀ (e : KE) (w2 : World), Came P w w2 r mb since clock seen l e → wpList P ops Q rest (a.put o.dst (.tuple #[.bool true, key2 e.a e.b, e.val])) w2) : wpList P ops Q (o :: rest) a w := by
  have hold : ∀ x ∈ (entsK l).toList, x.born < since := by
    intro x hx
    unfold entsK at hx
    rw [List.toList_toArray] at hx
    obtain ⟨e, he, rfl⟩ := List.mem_map.1 hx
    exact hf.1 e he
  have hn : ((entsK l).toList.map (·.born)).Nodup := by
    unfold entsK
    rw [List.toList_toArray, List.map_map]
    exact hf.2
  refine wpList_plain hg fun K' hK' => ?_
  unfold Oper.wp
  rcases run_next_at (P := P) w o.type r mb since clock seen (entsK l) clock hr hb hold hsc with ⟨h0, hrun⟩ | ⟨e, he, w1, hw1, hrun⟩
  · simp [execOp, hop, hit, hrun, Result.andThen]
    refine hK' _ _ (hDone fun x hx => ?_)
    have hl : leftOf (entsK l) seen = #[] := Array.eq_empty_of_size_eq_zero h0
    unfold leftOf at hl
    rw [Array.filter_eq_empty_iff] at hl
    have := hl x.ent (by unfold entsK; simpa using ⟨x, hx, rfl⟩)
    simpa [KE.ent] using this
  · simp [execOp, hop, hit, hrun, Result.andThen]
    have hel : e ∈ (entsK l).toList ∧ e.born ∉ seen.toList := by
      unfold leftOf at he
      simpa using he
    have hmr : mb ≠ r := by intro e2; subst e2; rw [hr] at hb; cases hb
    have hrl : r < w1.heap.size := by have := (Array.getElem?_eq_some_iff.1 hr).1; rcases hw1 with rfl | rfl <;> simpa using this
    have hb1 : w1.heap[mb]? = some (.map (entsK l) clock) := by rcases hw1 with rfl | rfl <;> exact hb
    have hen := run_entry_at (P := P) (setBlock w1 r (.mapIter (some mb) since (seen.push e.born) clock)) r mb since seen (entsK l) clock e (by rw [heap_setBlock, if_pos ⟨rfl, hrl⟩]) (by rw [heap_setBlock, if_neg (fun hh => hmr hh.1)]; exact hb1) hel.1 hn
    obtain ⟨h1, h2⟩ := hel
    unfold entsK at h1
    rw [List.toList_toArray] at h1
    obtain ⟨x, hx, rfl⟩ := List.mem_map.1 h1
    refine hK' _ _ (hMore x _ ⟨hx, h2, by rw [heap_setBlock, if_pos ⟨rfl, hrl⟩]; rfl, fun k ob hk hne => ?_, ?_, hen⟩)
    · rw [heap_setBlock, if_neg (fun hh => hne hh.1)]
      rcases hw1 with rfl | rfl <;> exact hk
    · rcases hw1 with rfl | rfl
      · exact grow_setBlock _ r _
      · exact grow_trans (grow_drew (grow_refl _ _)) (grow_setBlock _ r _)
end

theorem part_int (w : World) (xs : Array Value) (i : Nat) (x : Int) (h : xs[i]? = some (.int .i64 x)) : (part 3 xs i).run Try.prog w = .ok (.int .i64 x) w := by
  simp [part, isAgg, run_underlying Try.underlying3, h]
end Go.Proofs.Ythcdecgecabgaaa
