/- Maps keyed by a struct of two numbers: look-up, store, delete, by the list of entries. -/
import Derived.Test.YthcdecgecabgaaaMore
import Derived.Laws.StructEq
import Derived.Maps.RangeRun
namespace Go.Proofs.Ythcdecgecabgaaa
open Go.RowKit
open Go.ChangeMaps (setBlock)
set_option linter.unusedVariables false
set_option linter.unusedSimpArgs false

/-- A struct of two numbers, as a key. -/
abbrev key2 (a b : Int) : Value := .agg #[.int .i64 a, .int .i64 b]
/-- What a map keyed by such structs wants of its key's type. -/
structure Key2 (P : Program) (k : TypeId) : Prop where
  check : ∀ (w : World) (em : Bool) (a b : Int), (Instr.checkKey em 10000 k (key2 a b)).run P w = .ok () w
  eq : ∀ (w : World) (a b c d : Int), (Op.equal k (key2 a b) (key2 c d)).run P w = .ok (a == c && b == d) w
  und : ∃ fs, P.underlying k = some (.struct fs)
theorem key2_stays {P : Program} (w : World) (a b : Int) : (Instr.keyThatStays (key2 a b) (key2 a b)).run P w = .ok (key2 a b) w := by
  have h : Instr.sameBits 10000 (key2 a b) (key2 a b) = true := by
    show Instr.sameBits (9999 + 1) (key2 a b) (key2 a b) = true
    unfold Instr.sameBits
    simp [Instr.sameBits]
  unfold Instr.keyThatStays
  rw [if_pos h]
  rfl
/-- An entry of such a map. -/
structure KE where
  a : Int
  b : Int
  val : Value
  born : Nat
def KE.ent (e : KE) : MapEntry := ⟨key2 e.a e.b, e.val, e.born⟩
def KE.is (a b : Int) (e : KE) : Bool := a == e.a && b == e.b
def entsK (l : List KE) : Array MapEntry := (l.map KE.ent).toArray
/-- Where a key stands among entries. -/
def findK (a b : Int) (l : List KE) : Option Nat := l.findIdx? (KE.is a b)
def getK (a b : Int) (l : List KE) : Option Value := (findK a b l).bind fun j => (l[j]?).map KE.val
def setK (a b : Int) (v : Value) (clock : Nat) (l : List KE) : List KE := match findK a b l with
  | some j => l.modify j fun e => { e with val := v }
  | none => l ++ [⟨a, b, v, clock⟩]
def clockK (a b : Int) (clock : Nat) (l : List KE) : Nat := match findK a b l with
  | some _ => clock
  | none => clock + 1
def delK (a b : Int) (l : List KE) : List KE := match findK a b l with
  | some j => l.eraseIdx j
  | none => l
theorem findK_cons (a b : Int) (e : KE) (l : List KE) : findK a b (e :: l) = if KE.is a b e then some 0 else (findK a b l).map (· + 1) := by
  unfold findK; rw [List.findIdx?_cons]
theorem findK_lt {a b : Int} {l : List KE} {j : Nat} (h : findK a b l = some j) : ∃ (hj : j < l.length), l[j].a = a ∧ l[j].b = b := by
  obtain ⟨hj, h1, _⟩ := List.findIdx?_eq_some_iff_getElem.1 h
  refine ⟨hj, ?_⟩
  unfold KE.is at h1
  simp at h1
  exact ⟨h1.1.symm, h1.2.symm⟩
section
variable {P : Program} {k : TypeId}
theorem find_asking (K : Key2 P k) (w : World) (a b : Int) : ∀ (l : List KE) (i : Nat), (Instr.findAsking k (key2 a b) (l.map KE.ent) i).run P w = .ok ((findK a b l).bind fun j => (l[j]?).map fun e => (i + j, e.val)) w := by
  intro l
  induction l with
  | nil => intro i; rfl
  | cons e l ih =>
    intro i
    rw [List.map_cons]
    unfold Instr.findAsking
    rw [Sem.run_bind, show e.ent.key = key2 e.a e.b from rfl, K.eq w a b e.a e.b, Result.andThen_ok, findK_cons]
    unfold KE.is
    cases hb : (a == e.a && b == e.b) with
    | true => rfl
    | false =>
      simp only [Bool.false_eq_true, if_false]
      rw [ih (i + 1)]
      cases findK a b l with
      | none => rfl
      | some j => simp [Nat.add_assoc, Nat.add_comm 1 j]
theorem find_key (K : Key2 P k) (w : World) (a b : Int) (l : List KE) : (Instr.findKey k (key2 a b) (entsK l).toList).run P w = .ok ((findK a b l).bind fun j => (l[j]?).map fun e => (j, e.val)) w := by
  obtain ⟨fs, hu⟩ := K.und
  unfold Instr.findKey entsK
  rw [Sem.run_bind, run_underlying hu, Result.andThen_ok]
  cases l with
  | nil => rfl
  | cons e l =>
    have hn : Instr.findNow (.struct fs) (key2 a b) ((e :: l).map KE.ent) 0 = none := by
      rw [List.map_cons]; unfold Instr.findNow Instr.sameNow; rfl
    show ((match Instr.findNow (.struct fs) (key2 a b) ((e :: l).map KE.ent) 0 with
      | some r => pure r
      | none => Instr.findAsking k (key2 a b) ((e :: l).map KE.ent)) : Sem _).run P w = _
    rw [hn]
    have := find_asking K w a b (e :: l) 0
    simp only [Nat.zero_add] at this
    exact this
variable {t e : TypeId} (w : World) (mb : Nat) (l : List KE) (clock : Nat)
theorem run_set {o : Obj} (hm : w.heap[mb]? = some (.map (entsK l) clock)) : (setObj mb o).run P w = .ok () (setBlock w mb o) := by simp [setObj, Sem.run, hm, setBlock]
/-- m[key] = value. -/
theorem run_update2 (K : Key2 P k) (ht : P.underlying t = some (.map k e)) (hm : w.heap[mb]? = some (.map (entsK l) clock)) (a b : Int) (v : Value) :
    (Instr.mapUpdate t (.map (some mb)) (key2 a b) v).run P w = .ok () (setBlock w mb (.map (entsK (setK a b v clock l)) (clockK a b clock l))) := by
  have hset : ∀ o : Obj, (setObj mb o).run P w = .ok () (setBlock w mb o) := fun o => run_set w mb l clock hm
  unfold Instr.mapUpdate
  simp only [Sem.run_bind, run_underlying ht, Result.andThen_ok]
  simp only [getObj, Sem.run_bind, Sem.run, hm, Result.andThen_ok, K.check]
  rw [find_key K w a b l]
  unfold setK clockK
  cases hj : findK a b l with
  | none =>
    simp only [Option.bind_none, Result.andThen_ok]
    rw [hset]
    congr 3
    simp [entsK, KE.ent]
  | some j =>
    obtain ⟨hlt, h1, h2⟩ := findK_lt hj
    have hc : l[j]? = some l[j] := List.getElem?_eq_getElem hlt
    simp only [Option.bind_some, hc, Option.map_some, Result.andThen_ok, Sem.run_bind]
    have hc' : (entsK l)[j]? = some l[j].ent := by simp [entsK, hc]
    have hkey : (((entsK l)[j]?).map (·.key)).getD (key2 a b) = key2 a b := by rw [hc']; show key2 l[j].a l[j].b = _; rw [h1, h2]
    rw [hkey, key2_stays, Result.andThen_ok, hset]
    congr 3
    apply Array.ext'
    unfold entsK
    rw [Array.toList_modify]
    apply List.ext_getElem?
    intro i
    simp only [List.getElem?_modify, List.getElem?_map]
    by_cases hi : j = i
    · subst hi
      simp [hc, KE.ent, h1, h2]
    · simp [hi]
/-- delete(m, key). -/
theorem run_delete2 (K : Key2 P k) (ht : P.underlying t = some (.map k e)) (hm : w.heap[mb]? = some (.map (entsK l) clock)) (a b : Int) (ty : TypeId) :
    (Builtin.delete_ #[t, k] ty #[.map (some mb), key2 a b]).run P w = .ok (.tuple #[]) (setBlock w mb (.map (entsK (delK a b l)) clock)) := by
  have hset : ∀ o : Obj, (setObj mb o).run P w = .ok () (setBlock w mb o) := fun o => run_set w mb l clock hm
  unfold Builtin.delete_
  simp only [List.getElem?_toArray, List.getElem?_cons_zero, List.getElem?_cons_succ, Sem.run_bind, run_underlying ht, Result.andThen_ok]
  simp only [getObj, Sem.run_bind, Sem.run, hm, Result.andThen_ok, K.check]
  rw [find_key K w a b l]
  unfold delK
  cases hj : findK a b l with
  | none =>
    simp only [Option.bind_none, Result.andThen_ok, Sem.run_bind]
    rw [hset]
    rfl
  | some j =>
    obtain ⟨hlt, h1, h2⟩ := findK_lt hj
    have hc : l[j]? = some l[j] := List.getElem?_eq_getElem hlt
    simp only [Option.bind_some, hc, Option.map_some, Result.andThen_ok, Sem.run_bind]
    rw [hset]
    simp [entsK, Result.andThen, Array.eraseIdxIfInBounds, hlt, Go.ChangeMaps.map_eraseIdx]
/-- v, ok := m[key]. -/
theorem run_lookup2 (K : Key2 P k) (ht : P.underlying t = some (.map k e)) (hm : w.heap[mb]? = some (.map (entsK l) clock)) (z : Value) (hz : (zeroValue e).run P w = .ok z w) (a b : Int) :
    (Instr.lookup t (.map (some mb)) (key2 a b) true).run P w = .ok (.tuple #[(getK a b l).getD z, .bool (getK a b l).isSome]) w := by
  unfold Instr.lookup
  simp only [Sem.run_bind, run_underlying ht, Result.andThen_ok]
  simp only [getObj, Sem.run_bind, Sem.run, hm, Result.andThen_ok, K.check]
  rw [show (Sem.run P (pure (entsK l) : Sem (Array MapEntry)) w) = .ok (entsK l) w from rfl, Result.andThen_ok, find_key K w a b l]
  unfold getK
  cases hj : findK a b l with
  | none =>
    simp only [Option.bind_none, Result.andThen_ok, hz]
    simp [Result.andThen, hz]
  | some j =>
    obtain ⟨hlt, h1, h2⟩ := findK_lt hj
    have hc : l[j]? = some l[j] := List.getElem?_eq_getElem hlt
    simp [hc, Result.andThen]
end

end Go.Proofs.Ythcdecgecabgaaa
