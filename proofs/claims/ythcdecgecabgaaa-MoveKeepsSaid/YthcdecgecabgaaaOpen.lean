import Derived.Test.YthcdecgecabgaaaBBaseWord
import Derived.ProofKit
import Derived.OpenShut
import Derived.ChangeOld
import Derived.SizedLaws
import Derived.Deep.Slices
import Derived.Deep.Fields
import Derived.ChangeSame
/- Arguments opened: integers with their ranges, structs, slices of structs and of integers. The structs' parts are printed by wip/py/genstruct.py. -/
namespace Go.Proofs.Ythcdecgecabgaaa
open Go.ChangeShapes Go.WideShapes Go.ChangeAt Go.RowKit Go.Deep
set_option linter.unusedVariables false
set_option linter.unusedSimpArgs false

theorem len_cons {α : Type} {n : Nat} {cs : List α} (h : cs.length = n + 1) : ∃ c t, cs = c :: t ∧ t.length = n := by
  cases cs with
  | nil => simp at h
  | cons c t => exact ⟨c, t, rfl, by simpa using h⟩
theorem i64_lo {a : Int} (h : (Lit.int .i64 a).wf = true) : -9223372036854775808 ≤ a := by
  simp only [Lit.wf, Bool.and_eq_true, decide_eq_true_eq] at h; exact h.1
theorem i64_hi {a : Int} (h : (Lit.int .i64 a).wf = true) : a ≤ 9223372036854775807 := by
  simp only [Lit.wf, Bool.and_eq_true, decide_eq_true_eq] at h; exact h.2
theorem u64_lo {a : Int} (h : (Lit.int .u64 a).wf = true) : 0 ≤ a := by
  simp only [Lit.wf, Bool.and_eq_true, decide_eq_true_eq] at h; exact h.1
theorem u64_hi {a : Int} (h : (Lit.int .u64 a).wf = true) : a ≤ 18446744073709551615 := by
  simp only [Lit.wf, Bool.and_eq_true, decide_eq_true_eq] at h; exact h.2

/-- A slice that is read: its elements' cells, element by element. -/
def SlRd (w : World) (v : Value) (sz : Nat) (css : List (List Value)) : Prop :=
  (v = .slice none 0 0 ∧ css = []) ∨ ∃ b o s cap, v = .slice (some ⟨b, o, s⟩) css.length cap ∧ css.length ≤ cap ∧ cap ≤ maxLen ∧
    ∀ i c j u, css[i]? = some c → c[j]? = some u → s = none ∧ w.cell? ⟨b, o + (i * sz + j), none⟩ = some u
theorem SlRd.kept {w w' : World} {v : Value} {sz : Nat} {css : List (List Value)} {row : Option Nat} (h : SlRd w v sz css) (k : w.grownBy w' row) (hr : ∀ q, row = some q → ∀ b o s n c, v = .slice (some ⟨b, o, s⟩) n c → b ≠ q) : SlRd w' v sz css := by
  rcases h with h | ⟨b, o, s, cap, hv, h1, h2, h3⟩
  · exact .inl h
  · refine .inr ⟨b, o, s, cap, hv, h1, h2, fun i c j u hi hj => ⟨(h3 i c j u hi hj).1, k.cell (h3 i c j u hi hj).2 ?_⟩⟩
    intro e
    exact hr b e.symm b o s _ _ hv rfl
theorem SlRd.kept0 {w w' : World} {v : Value} {sz : Nat} {css : List (List Value)} (h : SlRd w v sz css) (k : w.grownBy w' none) : SlRd w' v sz css := h.kept k (by intro q hq; cases hq)

/-- The same, as a walk wants it. -/
theorem SlRd.form {w : World} {v : Value} {sz : Nat} {css : List (List Value)} (h : SlRd w v sz css) : ∃ a cap, v = .slice a css.length cap ∧ css.length ≤ maxLen ∧
    ∀ i c, css[i]? = some c → c ≠ [] → ∃ b o, a = some ⟨b, o, none⟩ ∧ b < w.heap.size ∧ ∀ j u, c[j]? = some u → w.cell? ⟨b, o + (i * sz + j), none⟩ = some u := by
  rcases h with ⟨rfl, rfl⟩ | ⟨b, o, s, cap, rfl, h1, h2, h3⟩
  · exact ⟨none, 0, rfl, by simp, by simp⟩
  · refine ⟨_, cap, rfl, by omega, fun i c hi hc => ?_⟩
    obtain ⟨u, hu⟩ : ∃ u, c[0]? = some u := by
      cases c with
      | nil => exact absurd rfl hc
      | cons u t => exact ⟨u, rfl⟩
    obtain ⟨rfl, hcell⟩ := h3 i c 0 u hi hu
    exact ⟨b, o, rfl, World.block_lt_of_cell? _ _ hcell, fun j u hj => (h3 i c j u hi hj).2⟩

/-- A slice that came in, element by element. -/
theorem open_sl {H : Type} {enc : TypeId × Value → H} {P : Program} {w : World} {spare : Nat → Bool} {held : Bool} {t e : TypeId} {v : Value} {d : DataW H} {ps : List MemPlace} (sz : Nat) (hu : P.underlying t = some (.slice e)) (hc : P.cellsOf e = sz)
    (hv : ∃ a len cap, v = .slice a len cap) (h : DataW.Trod enc P w 0 spare held t v d ps) :
    ∃ css, SlRd w v sz css ∧ (∀ c ∈ css, ∃ (fuel : Nat) (x : DataW H × List MemPlace), DataW.trod enc P w 0 spare held fuel e c = some x) := by
  obtain ⟨a, len, cap, rfl⟩ := hv
  obtain ⟨fuel, hf⟩ := h
  rcases open_slice hu hf with ⟨hcs, _⟩ | ⟨x, l, c, m, n, D, Pl, hcs, _, hl, hm, hmm, _, hi⟩
  · simp [Value.cells] at hcs
    obtain ⟨rfl, rfl, rfl⟩ := hcs
    exact ⟨[], .inl ⟨rfl, rfl⟩, by simp⟩
  · simp [Value.cells] at hcs
    obtain ⟨rfl, rfl, rfl⟩ := hcs
    have hlm : len ≤ m := by rw [hmm]; split <;> omega
    have hall : ∀ i, ∃ c : List Value, i < len → (w.cells? 0 (x.add (i * P.cellsOf e)) (P.cellsOf e) = some c ∧ DataW.trod enc P w 0 spare held n e c = some (D i, Pl i)) := by
      intro i
      by_cases hil : i < len
      · obtain ⟨c, hc⟩ := hi i (by omega)
        exact ⟨c, fun _ => hc⟩
      · exact ⟨[], fun hh => absurd hh hil⟩
    obtain ⟨f, hf'⟩ := Classical.axiomOfChoice hall
    refine ⟨(List.range len).map f, .inr ⟨x.block, x.off, x.spot, cap, by simp, by simpa using hl, hm, ?_⟩, ?_⟩
    · intro i c j u hic hju
      rw [List.getElem?_map] at hic
      obtain ⟨i', hi', rfl⟩ := Option.map_eq_some_iff.1 hic
      have hil : i < len := by
        have := (List.getElem?_eq_some_iff.1 hi').1
        simpa using this
      have hie : i = i' := by
        rw [List.getElem?_range hil] at hi'
        simpa using hi'
      subst hie
      obtain ⟨hcell, _⟩ := hf' i hil
      obtain ⟨_, hlen, hat⟩ := World.cells?_some hcell
      have hjl : j < P.cellsOf e := by have := (List.getElem?_eq_some_iff.1 hju).1; omega
      have hx := (hat j hjl).trans hju
      rw [add_add, hc] at hx
      have hsp : x.spot = none := by
        obtain ⟨hcell0, _⟩ := hf' 0 (by omega)
        obtain ⟨_, hlen0, hat0⟩ := World.cells?_some hcell0
        have h0 := hat0 0 (by omega)
        rw [add_add, Nat.zero_mul, List.getElem?_eq_getElem (by omega)] at h0
        simp only [Addr.add, if_true] at h0
        cases hs : x.spot with
        | none => rfl
        | some q =>
          exfalso
          unfold World.cell? at h0
          rw [hs] at h0
          split at h0 <;> simp at h0
      refine ⟨hsp, ?_⟩
      have hadd : x.add (i * sz + j) = ⟨x.block, x.off + (i * sz + j), none⟩ := by
        unfold Addr.add
        split
        · rename_i h0
          cases x
          simp_all
        · rfl
      rw [← hadd]; exact hx
    · intro c hc'
      obtain ⟨i, hi', rfl⟩ := List.mem_map.1 hc'
      exact ⟨n, _, (hf' i (by simpa using hi')).2⟩

/-- A list of which each element is of a form. -/
theorem all_of {α : Type} {f : α → List Value} {p : α → Prop} : ∀ {css : List (List Value)}, (∀ c ∈ css, ∃ d, c = f d ∧ p d) → ∃ l : List α, css = l.map f ∧ ∀ d ∈ l, p d
  | [], _ => ⟨[], rfl, by simp⟩
  | c :: css, h => by
    obtain ⟨d, rfl, hd⟩ := h c (by simp)
    obtain ⟨l, rfl, hl⟩ := all_of (css := css) (fun c hc => h c (by simp [hc]))
    exact ⟨d :: l, rfl, by simpa using ⟨hd, hl⟩⟩

def intCells (x : Int) : List Value := [.int .i64 x]
theorem open_intCells {H : Type} {enc : TypeId × Value → H} {w : World} {base : Nat} {spare : Nat → Bool} {held : Bool} {fuel : Nat} {cs : List Value} {x : DataW H × List MemPlace}
    (h : DataW.trod enc Try.prog w base spare held fuel 3 cs = some x) : ∃ n : Int, cs = intCells n ∧ (Lit.int .i64 n).wf = true := by
  obtain ⟨n, rfl, _, hw⟩ := DataW.trod_int Try.underlying3 h
  exact ⟨n, rfl, hw⟩


structure Laid where
  fFrame : Int
  fPlace : Int
  fWord : Int
  deriving DecidableEq
def Laid.cells (d : Laid) : List Value := [Value.int .i64 d.fFrame, Value.int .i64 d.fPlace, Value.int .u64 d.fWord]
def Laid.wf (d : Laid) : Prop := (Lit.int .i64 d.fFrame).wf = true ∧ (Lit.int .i64 d.fPlace).wf = true ∧ (Lit.int .u64 d.fWord).wf = true
theorem Laid.cells_len (d : Laid) : d.cells.length = 3 := rfl

structure Desc where
  fKind : Int
  fFrame : Int
  fWrite : Bool
  fExec : Bool
  fSeen : Bool
  fFold : Bool
  fSoft : Int
  deriving DecidableEq
def Desc.cells (d : Desc) : List Value := [Value.int .i64 d.fKind, Value.int .i64 d.fFrame, Value.bool d.fWrite, Value.bool d.fExec, Value.bool d.fSeen, Value.bool d.fFold, Value.int .i64 d.fSoft]
def Desc.wf (d : Desc) : Prop := (Lit.int .i64 d.fKind).wf = true ∧ (Lit.int .i64 d.fFrame).wf = true ∧ (Lit.int .i64 d.fSoft).wf = true
theorem Desc.cells_len (d : Desc) : d.cells.length = 7 := rfl

structure Found where
  fKind : Int
  fLevel : Int
  fTable : Int
  fPlace : Int
  fFrame : Int
  fOrder : Int
  fFirst : Int
  fBase : Int
  fWrite : Bool
  fExec : Bool
  fSeen : Bool
  deriving DecidableEq
def Found.cells (d : Found) : List Value := [Value.int .i64 d.fKind, Value.int .i64 d.fLevel, Value.int .i64 d.fTable, Value.int .i64 d.fPlace, Value.int .i64 d.fFrame, Value.int .i64 d.fOrder, Value.int .i64 d.fFirst, Value.int .i64 d.fBase, Value.bool d.fWrite, Value.bool d.fExec, Value.bool d.fSeen]
def Found.wf (d : Found) : Prop := (Lit.int .i64 d.fKind).wf = true ∧ (Lit.int .i64 d.fLevel).wf = true ∧ (Lit.int .i64 d.fTable).wf = true ∧ (Lit.int .i64 d.fPlace).wf = true ∧ (Lit.int .i64 d.fFrame).wf = true ∧ (Lit.int .i64 d.fOrder).wf = true ∧ (Lit.int .i64 d.fFirst).wf = true ∧ (Lit.int .i64 d.fBase).wf = true
theorem Found.cells_len (d : Found) : d.cells.length = 11 := rfl

structure Slot where
  fTable : Int
  fPlace : Int
  deriving DecidableEq
def Slot.cells (d : Slot) : List Value := [Value.int .i64 d.fTable, Value.int .i64 d.fPlace]
def Slot.wf (d : Slot) : Prop := (Lit.int .i64 d.fTable).wf = true ∧ (Lit.int .i64 d.fPlace).wf = true
theorem Slot.cells_len (d : Slot) : d.cells.length = 2 := rfl

structure Rights where
  fWrite : Bool
  fExec : Bool
  deriving DecidableEq
def Rights.cells (d : Rights) : List Value := [Value.bool d.fWrite, Value.bool d.fExec]
def Rights.wf (d : Rights) : Prop := True
theorem Rights.cells_len (d : Rights) : d.cells.length = 2 := rfl


structure Where where
  fSpace : Int
  fPage : Int
  deriving DecidableEq
def Where.cells (d : Where) : List Value := [Value.int .i64 d.fSpace, Value.int .i64 d.fPage]
def Where.wf (d : Where) : Prop := (Lit.int .i64 d.fSpace).wf = true ∧ (Lit.int .i64 d.fPage).wf = true
theorem Where.cells_len (d : Where) : d.cells.length = 2 := rfl

structure Mapped where
  fPage : Int
  fFrame : Int
  deriving DecidableEq
def Mapped.cells (d : Mapped) : List Value := [Value.int .i64 d.fPage, Value.int .i64 d.fFrame]
def Mapped.wf (d : Mapped) : Prop := (Lit.int .i64 d.fPage).wf = true ∧ (Lit.int .i64 d.fFrame).wf = true
theorem Mapped.cells_len (d : Mapped) : d.cells.length = 2 := rfl

structure Root where
  fAsid : Int
  fFrame : Int
  deriving DecidableEq
def Root.cells (d : Root) : List Value := [Value.int .i64 d.fAsid, Value.int .i64 d.fFrame]
def Root.wf (d : Root) : Prop := (Lit.int .i64 d.fAsid).wf = true ∧ (Lit.int .i64 d.fFrame).wf = true
theorem Root.cells_len (d : Root) : d.cells.length = 2 := rfl

structure Step where
  fKind : Int
  fAsid : Int
  fLevel : Int
  fTable : Int
  fPlace : Int
  fFirst : Int
  fValue : Int
  fTo : Int
  fFrom : Int
  fI : Int
  deriving DecidableEq
def Step.cells (d : Step) : List Value := [Value.int .i64 d.fKind, Value.int .i64 d.fAsid, Value.int .i64 d.fLevel, Value.int .i64 d.fTable, Value.int .i64 d.fPlace, Value.int .i64 d.fFirst, Value.int .u64 d.fValue, Value.int .i64 d.fTo, Value.int .i64 d.fFrom, Value.int .i64 d.fI]
def Step.wf (d : Step) : Prop := (Lit.int .i64 d.fKind).wf = true ∧ (Lit.int .i64 d.fAsid).wf = true ∧ (Lit.int .i64 d.fLevel).wf = true ∧ (Lit.int .i64 d.fTable).wf = true ∧ (Lit.int .i64 d.fPlace).wf = true ∧ (Lit.int .i64 d.fFirst).wf = true ∧ (Lit.int .u64 d.fValue).wf = true ∧ (Lit.int .i64 d.fTo).wf = true ∧ (Lit.int .i64 d.fFrom).wf = true ∧ (Lit.int .i64 d.fI).wf = true
theorem Step.cells_len (d : Step) : d.cells.length = 10 := rfl


theorem open_Laid {H : Type} {enc : TypeId × Value → H} {w : World} {base : Nat} {spare : Nat → Bool} {held : Bool} {fuel : Nat} {cs : List Value} {x : DataW H × List MemPlace}
  (h : DataW.trod enc Try.prog w base spare held fuel 121 cs = some x) : ∃ d : Laid, cs = d.cells ∧ d.wf := by
  obtain ⟨xs, n, _, _, hl, hlen, hf⟩ := DataW.trod_struct Try.underlying121 h
  have hl' : cs.length = 3 := hl.trans (by kernel_rfl)
  obtain ⟨c0, t0, rfl, m0⟩ := len_cons hl'
  obtain ⟨c1, t1, rfl, m1⟩ := len_cons m0
  obtain ⟨c2, t2, rfl, m2⟩ := len_cons m1
  obtain rfl := List.eq_nil_of_length_eq_zero m2
  have hs : ∀ j, j < 3 → ∃ y, xs[j]? = some y := fun j hj => ⟨_, List.getElem?_eq_getElem (by have : xs.length = 3 := hlen; omega)⟩
  obtain ⟨y0, hy0⟩ := hs 0 (by omega)
  have g0 := (hf 0 _ rfl).trans hy0
  have e0 : DataW.trod enc Try.prog w base spare held n 3 ((List.drop 0 [c0, c1, c2]).take (Try.prog.cellsOf 3)) = some y0 := g0
  rw [show Try.prog.cellsOf 3 = 1 from by kernel_rfl] at e0
  replace e0 : DataW.trod enc Try.prog w base spare held n 3 [c0] = some y0 := e0
  obtain ⟨y1, hy1⟩ := hs 1 (by omega)
  have g1 := (hf 1 _ rfl).trans hy1
  have e1 : DataW.trod enc Try.prog w base spare held n 3 ((List.drop 1 [c0, c1, c2]).take (Try.prog.cellsOf 3)) = some y1 := g1
  rw [show Try.prog.cellsOf 3 = 1 from by kernel_rfl] at e1
  replace e1 : DataW.trod enc Try.prog w base spare held n 3 [c1] = some y1 := e1
  obtain ⟨y2, hy2⟩ := hs 2 (by omega)
  have g2 := (hf 2 _ rfl).trans hy2
  have e2 : DataW.trod enc Try.prog w base spare held n 44 ((List.drop 2 [c0, c1, c2]).take (Try.prog.cellsOf 44)) = some y2 := g2
  rw [show Try.prog.cellsOf 44 = 1 from by kernel_rfl] at e2
  replace e2 : DataW.trod enc Try.prog w base spare held n 44 [c2] = some y2 := e2
  obtain ⟨b0, q0, _, r0⟩ := DataW.trod_int Try.underlying3 e0
  simp only [List.cons.injEq, and_true] at q0
  subst q0
  obtain ⟨b1, q1, _, r1⟩ := DataW.trod_int Try.underlying3 e1
  simp only [List.cons.injEq, and_true] at q1
  subst q1
  obtain ⟨b2, q2, _, r2⟩ := DataW.trod_int Try.underlying44 e2
  simp only [List.cons.injEq, and_true] at q2
  subst q2
  exact ⟨⟨b0, b1, b2⟩, rfl, r0, r1, r2⟩

theorem open_Desc {H : Type} {enc : TypeId × Value → H} {w : World} {base : Nat} {spare : Nat → Bool} {held : Bool} {fuel : Nat} {cs : List Value} {x : DataW H × List MemPlace}
  (h : DataW.trod enc Try.prog w base spare held fuel 128 cs = some x) : ∃ d : Desc, cs = d.cells ∧ d.wf := by
  obtain ⟨xs, n, _, _, hl, hlen, hf⟩ := DataW.trod_struct Try.underlying128 h
  have hl' : cs.length = 7 := hl.trans (by kernel_rfl)
  obtain ⟨c0, t0, rfl, m0⟩ := len_cons hl'
  obtain ⟨c1, t1, rfl, m1⟩ := len_cons m0
  obtain ⟨c2, t2, rfl, m2⟩ := len_cons m1
  obtain ⟨c3, t3, rfl, m3⟩ := len_cons m2
  obtain ⟨c4, t4, rfl, m4⟩ := len_cons m3
  obtain ⟨c5, t5, rfl, m5⟩ := len_cons m4
  obtain ⟨c6, t6, rfl, m6⟩ := len_cons m5
  obtain rfl := List.eq_nil_of_length_eq_zero m6
  have hs : ∀ j, j < 7 → ∃ y, xs[j]? = some y := fun j hj => ⟨_, List.getElem?_eq_getElem (by have : xs.length = 7 := hlen; omega)⟩
  obtain ⟨y0, hy0⟩ := hs 0 (by omega)
  have g0 := (hf 0 _ rfl).trans hy0
  have e0 : DataW.trod enc Try.prog w base spare held n 3 ((List.drop 0 [c0, c1, c2, c3, c4, c5, c6]).take (Try.prog.cellsOf 3)) = some y0 := g0
  rw [show Try.prog.cellsOf 3 = 1 from by kernel_rfl] at e0
  replace e0 : DataW.trod enc Try.prog w base spare held n 3 [c0] = some y0 := e0
  obtain ⟨y1, hy1⟩ := hs 1 (by omega)
  have g1 := (hf 1 _ rfl).trans hy1
  have e1 : DataW.trod enc Try.prog w base spare held n 3 ((List.drop 1 [c0, c1, c2, c3, c4, c5, c6]).take (Try.prog.cellsOf 3)) = some y1 := g1
  rw [show Try.prog.cellsOf 3 = 1 from by kernel_rfl] at e1
  replace e1 : DataW.trod enc Try.prog w base spare held n 3 [c1] = some y1 := e1
  obtain ⟨y2, hy2⟩ := hs 2 (by omega)
  have g2 := (hf 2 _ rfl).trans hy2
  have e2 : DataW.trod enc Try.prog w base spare held n 4 ((List.drop 2 [c0, c1, c2, c3, c4, c5, c6]).take (Try.prog.cellsOf 4)) = some y2 := g2
  rw [show Try.prog.cellsOf 4 = 1 from by kernel_rfl] at e2
  replace e2 : DataW.trod enc Try.prog w base spare held n 4 [c2] = some y2 := e2
  obtain ⟨y3, hy3⟩ := hs 3 (by omega)
  have g3 := (hf 3 _ rfl).trans hy3
  have e3 : DataW.trod enc Try.prog w base spare held n 4 ((List.drop 3 [c0, c1, c2, c3, c4, c5, c6]).take (Try.prog.cellsOf 4)) = some y3 := g3
  rw [show Try.prog.cellsOf 4 = 1 from by kernel_rfl] at e3
  replace e3 : DataW.trod enc Try.prog w base spare held n 4 [c3] = some y3 := e3
  obtain ⟨y4, hy4⟩ := hs 4 (by omega)
  have g4 := (hf 4 _ rfl).trans hy4
  have e4 : DataW.trod enc Try.prog w base spare held n 4 ((List.drop 4 [c0, c1, c2, c3, c4, c5, c6]).take (Try.prog.cellsOf 4)) = some y4 := g4
  rw [show Try.prog.cellsOf 4 = 1 from by kernel_rfl] at e4
  replace e4 : DataW.trod enc Try.prog w base spare held n 4 [c4] = some y4 := e4
  obtain ⟨y5, hy5⟩ := hs 5 (by omega)
  have g5 := (hf 5 _ rfl).trans hy5
  have e5 : DataW.trod enc Try.prog w base spare held n 4 ((List.drop 5 [c0, c1, c2, c3, c4, c5, c6]).take (Try.prog.cellsOf 4)) = some y5 := g5
  rw [show Try.prog.cellsOf 4 = 1 from by kernel_rfl] at e5
  replace e5 : DataW.trod enc Try.prog w base spare held n 4 [c5] = some y5 := e5
  obtain ⟨y6, hy6⟩ := hs 6 (by omega)
  have g6 := (hf 6 _ rfl).trans hy6
  have e6 : DataW.trod enc Try.prog w base spare held n 3 ((List.drop 6 [c0, c1, c2, c3, c4, c5, c6]).take (Try.prog.cellsOf 3)) = some y6 := g6
  rw [show Try.prog.cellsOf 3 = 1 from by kernel_rfl] at e6
  replace e6 : DataW.trod enc Try.prog w base spare held n 3 [c6] = some y6 := e6
  obtain ⟨b0, q0, _, r0⟩ := DataW.trod_int Try.underlying3 e0
  simp only [List.cons.injEq, and_true] at q0
  subst q0
  obtain ⟨b1, q1, _, r1⟩ := DataW.trod_int Try.underlying3 e1
  simp only [List.cons.injEq, and_true] at q1
  subst q1
  obtain ⟨b2, q2, _⟩ := DataW.trod_bool Try.underlying4 e2
  simp only [List.cons.injEq, and_true] at q2
  subst q2
  obtain ⟨b3, q3, _⟩ := DataW.trod_bool Try.underlying4 e3
  simp only [List.cons.injEq, and_true] at q3
  subst q3
  obtain ⟨b4, q4, _⟩ := DataW.trod_bool Try.underlying4 e4
  simp only [List.cons.injEq, and_true] at q4
  subst q4
  obtain ⟨b5, q5, _⟩ := DataW.trod_bool Try.underlying4 e5
  simp only [List.cons.injEq, and_true] at q5
  subst q5
  obtain ⟨b6, q6, _, r6⟩ := DataW.trod_int Try.underlying3 e6
  simp only [List.cons.injEq, and_true] at q6
  subst q6
  exact ⟨⟨b0, b1, b2, b3, b4, b5, b6⟩, rfl, r0, r1, r6⟩

theorem open_Found {H : Type} {enc : TypeId × Value → H} {w : World} {base : Nat} {spare : Nat → Bool} {held : Bool} {fuel : Nat} {cs : List Value} {x : DataW H × List MemPlace}
  (h : DataW.trod enc Try.prog w base spare held fuel 53 cs = some x) : ∃ d : Found, cs = d.cells ∧ d.wf := by
  obtain ⟨xs, n, _, _, hl, hlen, hf⟩ := DataW.trod_struct Try.underlying53 h
  have hl' : cs.length = 11 := hl.trans (by kernel_rfl)
  obtain ⟨c0, t0, rfl, m0⟩ := len_cons hl'
  obtain ⟨c1, t1, rfl, m1⟩ := len_cons m0
  obtain ⟨c2, t2, rfl, m2⟩ := len_cons m1
  obtain ⟨c3, t3, rfl, m3⟩ := len_cons m2
  obtain ⟨c4, t4, rfl, m4⟩ := len_cons m3
  obtain ⟨c5, t5, rfl, m5⟩ := len_cons m4
  obtain ⟨c6, t6, rfl, m6⟩ := len_cons m5
  obtain ⟨c7, t7, rfl, m7⟩ := len_cons m6
  obtain ⟨c8, t8, rfl, m8⟩ := len_cons m7
  obtain ⟨c9, t9, rfl, m9⟩ := len_cons m8
  obtain ⟨c10, t10, rfl, m10⟩ := len_cons m9
  obtain rfl := List.eq_nil_of_length_eq_zero m10
  have hs : ∀ j, j < 11 → ∃ y, xs[j]? = some y := fun j hj => ⟨_, List.getElem?_eq_getElem (by have : xs.length = 11 := hlen; omega)⟩
  obtain ⟨y0, hy0⟩ := hs 0 (by omega)
  have g0 := (hf 0 _ rfl).trans hy0
  have e0 : DataW.trod enc Try.prog w base spare held n 3 ((List.drop 0 [c0, c1, c2, c3, c4, c5, c6, c7, c8, c9, c10]).take (Try.prog.cellsOf 3)) = some y0 := g0
  rw [show Try.prog.cellsOf 3 = 1 from by kernel_rfl] at e0
  replace e0 : DataW.trod enc Try.prog w base spare held n 3 [c0] = some y0 := e0
  obtain ⟨y1, hy1⟩ := hs 1 (by omega)
  have g1 := (hf 1 _ rfl).trans hy1
  have e1 : DataW.trod enc Try.prog w base spare held n 3 ((List.drop 1 [c0, c1, c2, c3, c4, c5, c6, c7, c8, c9, c10]).take (Try.prog.cellsOf 3)) = some y1 := g1
  rw [show Try.prog.cellsOf 3 = 1 from by kernel_rfl] at e1
  replace e1 : DataW.trod enc Try.prog w base spare held n 3 [c1] = some y1 := e1
  obtain ⟨y2, hy2⟩ := hs 2 (by omega)
  have g2 := (hf 2 _ rfl).trans hy2
  have e2 : DataW.trod enc Try.prog w base spare held n 3 ((List.drop 2 [c0, c1, c2, c3, c4, c5, c6, c7, c8, c9, c10]).take (Try.prog.cellsOf 3)) = some y2 := g2
  rw [show Try.prog.cellsOf 3 = 1 from by kernel_rfl] at e2
  replace e2 : DataW.trod enc Try.prog w base spare held n 3 [c2] = some y2 := e2
  obtain ⟨y3, hy3⟩ := hs 3 (by omega)
  have g3 := (hf 3 _ rfl).trans hy3
  have e3 : DataW.trod enc Try.prog w base spare held n 3 ((List.drop 3 [c0, c1, c2, c3, c4, c5, c6, c7, c8, c9, c10]).take (Try.prog.cellsOf 3)) = some y3 := g3
  rw [show Try.prog.cellsOf 3 = 1 from by kernel_rfl] at e3
  replace e3 : DataW.trod enc Try.prog w base spare held n 3 [c3] = some y3 := e3
  obtain ⟨y4, hy4⟩ := hs 4 (by omega)
  have g4 := (hf 4 _ rfl).trans hy4
  have e4 : DataW.trod enc Try.prog w base spare held n 3 ((List.drop 4 [c0, c1, c2, c3, c4, c5, c6, c7, c8, c9, c10]).take (Try.prog.cellsOf 3)) = some y4 := g4
  rw [show Try.prog.cellsOf 3 = 1 from by kernel_rfl] at e4
  replace e4 : DataW.trod enc Try.prog w base spare held n 3 [c4] = some y4 := e4
  obtain ⟨y5, hy5⟩ := hs 5 (by omega)
  have g5 := (hf 5 _ rfl).trans hy5
  have e5 : DataW.trod enc Try.prog w base spare held n 3 ((List.drop 5 [c0, c1, c2, c3, c4, c5, c6, c7, c8, c9, c10]).take (Try.prog.cellsOf 3)) = some y5 := g5
  rw [show Try.prog.cellsOf 3 = 1 from by kernel_rfl] at e5
  replace e5 : DataW.trod enc Try.prog w base spare held n 3 [c5] = some y5 := e5
  obtain ⟨y6, hy6⟩ := hs 6 (by omega)
  have g6 := (hf 6 _ rfl).trans hy6
  have e6 : DataW.trod enc Try.prog w base spare held n 3 ((List.drop 6 [c0, c1, c2, c3, c4, c5, c6, c7, c8, c9, c10]).take (Try.prog.cellsOf 3)) = some y6 := g6
  rw [show Try.prog.cellsOf 3 = 1 from by kernel_rfl] at e6
  replace e6 : DataW.trod enc Try.prog w base spare held n 3 [c6] = some y6 := e6
  obtain ⟨y7, hy7⟩ := hs 7 (by omega)
  have g7 := (hf 7 _ rfl).trans hy7
  have e7 : DataW.trod enc Try.prog w base spare held n 3 ((List.drop 7 [c0, c1, c2, c3, c4, c5, c6, c7, c8, c9, c10]).take (Try.prog.cellsOf 3)) = some y7 := g7
  rw [show Try.prog.cellsOf 3 = 1 from by kernel_rfl] at e7
  replace e7 : DataW.trod enc Try.prog w base spare held n 3 [c7] = some y7 := e7
  obtain ⟨y8, hy8⟩ := hs 8 (by omega)
  have g8 := (hf 8 _ rfl).trans hy8
  have e8 : DataW.trod enc Try.prog w base spare held n 4 ((List.drop 8 [c0, c1, c2, c3, c4, c5, c6, c7, c8, c9, c10]).take (Try.prog.cellsOf 4)) = some y8 := g8
  rw [show Try.prog.cellsOf 4 = 1 from by kernel_rfl] at e8
  replace e8 : DataW.trod enc Try.prog w base spare held n 4 [c8] = some y8 := e8
  obtain ⟨y9, hy9⟩ := hs 9 (by omega)
  have g9 := (hf 9 _ rfl).trans hy9
  have e9 : DataW.trod enc Try.prog w base spare held n 4 ((List.drop 9 [c0, c1, c2, c3, c4, c5, c6, c7, c8, c9, c10]).take (Try.prog.cellsOf 4)) = some y9 := g9
  rw [show Try.prog.cellsOf 4 = 1 from by kernel_rfl] at e9
  replace e9 : DataW.trod enc Try.prog w base spare held n 4 [c9] = some y9 := e9
  obtain ⟨y10, hy10⟩ := hs 10 (by omega)
  have g10 := (hf 10 _ rfl).trans hy10
  have e10 : DataW.trod enc Try.prog w base spare held n 4 ((List.drop 10 [c0, c1, c2, c3, c4, c5, c6, c7, c8, c9, c10]).take (Try.prog.cellsOf 4)) = some y10 := g10
  rw [show Try.prog.cellsOf 4 = 1 from by kernel_rfl] at e10
  replace e10 : DataW.trod enc Try.prog w base spare held n 4 [c10] = some y10 := e10
  obtain ⟨b0, q0, _, r0⟩ := DataW.trod_int Try.underlying3 e0
  simp only [List.cons.injEq, and_true] at q0
  subst q0
  obtain ⟨b1, q1, _, r1⟩ := DataW.trod_int Try.underlying3 e1
  simp only [List.cons.injEq, and_true] at q1
  subst q1
  obtain ⟨b2, q2, _, r2⟩ := DataW.trod_int Try.underlying3 e2
  simp only [List.cons.injEq, and_true] at q2
  subst q2
  obtain ⟨b3, q3, _, r3⟩ := DataW.trod_int Try.underlying3 e3
  simp only [List.cons.injEq, and_true] at q3
  subst q3
  obtain ⟨b4, q4, _, r4⟩ := DataW.trod_int Try.underlying3 e4
  simp only [List.cons.injEq, and_true] at q4
  subst q4
  obtain ⟨b5, q5, _, r5⟩ := DataW.trod_int Try.underlying3 e5
  simp only [List.cons.injEq, and_true] at q5
  subst q5
  obtain ⟨b6, q6, _, r6⟩ := DataW.trod_int Try.underlying3 e6
  simp only [List.cons.injEq, and_true] at q6
  subst q6
  obtain ⟨b7, q7, _, r7⟩ := DataW.trod_int Try.underlying3 e7
  simp only [List.cons.injEq, and_true] at q7
  subst q7
  obtain ⟨b8, q8, _⟩ := DataW.trod_bool Try.underlying4 e8
  simp only [List.cons.injEq, and_true] at q8
  subst q8
  obtain ⟨b9, q9, _⟩ := DataW.trod_bool Try.underlying4 e9
  simp only [List.cons.injEq, and_true] at q9
  subst q9
  obtain ⟨b10, q10, _⟩ := DataW.trod_bool Try.underlying4 e10
  simp only [List.cons.injEq, and_true] at q10
  subst q10
  exact ⟨⟨b0, b1, b2, b3, b4, b5, b6, b7, b8, b9, b10⟩, rfl, r0, r1, r2, r3, r4, r5, r6, r7⟩

theorem open_Slot {H : Type} {enc : TypeId × Value → H} {w : World} {base : Nat} {spare : Nat → Bool} {held : Bool} {fuel : Nat} {cs : List Value} {x : DataW H × List MemPlace}
  (h : DataW.trod enc Try.prog w base spare held fuel 126 cs = some x) : ∃ d : Slot, cs = d.cells ∧ d.wf := by
  obtain ⟨xs, n, _, _, hl, hlen, hf⟩ := DataW.trod_struct Try.underlying126 h
  have hl' : cs.length = 2 := hl.trans (by kernel_rfl)
  obtain ⟨c0, t0, rfl, m0⟩ := len_cons hl'
  obtain ⟨c1, t1, rfl, m1⟩ := len_cons m0
  obtain rfl := List.eq_nil_of_length_eq_zero m1
  have hs : ∀ j, j < 2 → ∃ y, xs[j]? = some y := fun j hj => ⟨_, List.getElem?_eq_getElem (by have : xs.length = 2 := hlen; omega)⟩
  obtain ⟨y0, hy0⟩ := hs 0 (by omega)
  have g0 := (hf 0 _ rfl).trans hy0
  have e0 : DataW.trod enc Try.prog w base spare held n 3 ((List.drop 0 [c0, c1]).take (Try.prog.cellsOf 3)) = some y0 := g0
  rw [show Try.prog.cellsOf 3 = 1 from by kernel_rfl] at e0
  replace e0 : DataW.trod enc Try.prog w base spare held n 3 [c0] = some y0 := e0
  obtain ⟨y1, hy1⟩ := hs 1 (by omega)
  have g1 := (hf 1 _ rfl).trans hy1
  have e1 : DataW.trod enc Try.prog w base spare held n 3 ((List.drop 1 [c0, c1]).take (Try.prog.cellsOf 3)) = some y1 := g1
  rw [show Try.prog.cellsOf 3 = 1 from by kernel_rfl] at e1
  replace e1 : DataW.trod enc Try.prog w base spare held n 3 [c1] = some y1 := e1
  obtain ⟨b0, q0, _, r0⟩ := DataW.trod_int Try.underlying3 e0
  simp only [List.cons.injEq, and_true] at q0
  subst q0
  obtain ⟨b1, q1, _, r1⟩ := DataW.trod_int Try.underlying3 e1
  simp only [List.cons.injEq, and_true] at q1
  subst q1
  exact ⟨⟨b0, b1⟩, rfl, r0, r1⟩

theorem open_Rights {H : Type} {enc : TypeId × Value → H} {w : World} {base : Nat} {spare : Nat → Bool} {held : Bool} {fuel : Nat} {cs : List Value} {x : DataW H × List MemPlace}
  (h : DataW.trod enc Try.prog w base spare held fuel 190 cs = some x) : ∃ d : Rights, cs = d.cells ∧ d.wf := by
  obtain ⟨xs, n, _, _, hl, hlen, hf⟩ := DataW.trod_struct Try.underlying190 h
  have hl' : cs.length = 2 := hl.trans (by kernel_rfl)
  obtain ⟨c0, t0, rfl, m0⟩ := len_cons hl'
  obtain ⟨c1, t1, rfl, m1⟩ := len_cons m0
  obtain rfl := List.eq_nil_of_length_eq_zero m1
  have hs : ∀ j, j < 2 → ∃ y, xs[j]? = some y := fun j hj => ⟨_, List.getElem?_eq_getElem (by have : xs.length = 2 := hlen; omega)⟩
  obtain ⟨y0, hy0⟩ := hs 0 (by omega)
  have g0 := (hf 0 _ rfl).trans hy0
  have e0 : DataW.trod enc Try.prog w base spare held n 4 ((List.drop 0 [c0, c1]).take (Try.prog.cellsOf 4)) = some y0 := g0
  rw [show Try.prog.cellsOf 4 = 1 from by kernel_rfl] at e0
  replace e0 : DataW.trod enc Try.prog w base spare held n 4 [c0] = some y0 := e0
  obtain ⟨y1, hy1⟩ := hs 1 (by omega)
  have g1 := (hf 1 _ rfl).trans hy1
  have e1 : DataW.trod enc Try.prog w base spare held n 4 ((List.drop 1 [c0, c1]).take (Try.prog.cellsOf 4)) = some y1 := g1
  rw [show Try.prog.cellsOf 4 = 1 from by kernel_rfl] at e1
  replace e1 : DataW.trod enc Try.prog w base spare held n 4 [c1] = some y1 := e1
  obtain ⟨b0, q0, _⟩ := DataW.trod_bool Try.underlying4 e0
  simp only [List.cons.injEq, and_true] at q0
  subst q0
  obtain ⟨b1, q1, _⟩ := DataW.trod_bool Try.underlying4 e1
  simp only [List.cons.injEq, and_true] at q1
  subst q1
  exact ⟨⟨b0, b1⟩, rfl, trivial⟩


theorem open_Where {H : Type} {enc : TypeId × Value → H} {w : World} {base : Nat} {spare : Nat → Bool} {held : Bool} {fuel : Nat} {cs : List Value} {x : DataW H × List MemPlace}
  (h : DataW.trod enc Try.prog w base spare held fuel 57 cs = some x) : ∃ d : Where, cs = d.cells ∧ d.wf := by
  obtain ⟨xs, n, _, _, hl, hlen, hf⟩ := DataW.trod_struct Try.underlying57 h
  have hl' : cs.length = 2 := hl.trans (by kernel_rfl)
  obtain ⟨c0, t0, rfl, m0⟩ := len_cons hl'
  obtain ⟨c1, t1, rfl, m1⟩ := len_cons m0
  obtain rfl := List.eq_nil_of_length_eq_zero m1
  have hs : ∀ j, j < 2 → ∃ y, xs[j]? = some y := fun j hj => ⟨_, List.getElem?_eq_getElem (by have : xs.length = 2 := hlen; omega)⟩
  obtain ⟨y0, hy0⟩ := hs 0 (by omega)
  have g0 := (hf 0 _ rfl).trans hy0
  have e0 : DataW.trod enc Try.prog w base spare held n 3 ((List.drop 0 [c0, c1]).take (Try.prog.cellsOf 3)) = some y0 := g0
  rw [show Try.prog.cellsOf 3 = 1 from by kernel_rfl] at e0
  replace e0 : DataW.trod enc Try.prog w base spare held n 3 [c0] = some y0 := e0
  obtain ⟨y1, hy1⟩ := hs 1 (by omega)
  have g1 := (hf 1 _ rfl).trans hy1
  have e1 : DataW.trod enc Try.prog w base spare held n 3 ((List.drop 1 [c0, c1]).take (Try.prog.cellsOf 3)) = some y1 := g1
  rw [show Try.prog.cellsOf 3 = 1 from by kernel_rfl] at e1
  replace e1 : DataW.trod enc Try.prog w base spare held n 3 [c1] = some y1 := e1
  obtain ⟨b0, q0, _, r0⟩ := DataW.trod_int Try.underlying3 e0
  simp only [List.cons.injEq, and_true] at q0
  subst q0
  obtain ⟨b1, q1, _, r1⟩ := DataW.trod_int Try.underlying3 e1
  simp only [List.cons.injEq, and_true] at q1
  subst q1
  exact ⟨⟨b0, b1⟩, rfl, r0, r1⟩

theorem open_Mapped {H : Type} {enc : TypeId × Value → H} {w : World} {base : Nat} {spare : Nat → Bool} {held : Bool} {fuel : Nat} {cs : List Value} {x : DataW H × List MemPlace}
  (h : DataW.trod enc Try.prog w base spare held fuel 171 cs = some x) : ∃ d : Mapped, cs = d.cells ∧ d.wf := by
  obtain ⟨xs, n, _, _, hl, hlen, hf⟩ := DataW.trod_struct Try.underlying171 h
  have hl' : cs.length = 2 := hl.trans (by kernel_rfl)
  obtain ⟨c0, t0, rfl, m0⟩ := len_cons hl'
  obtain ⟨c1, t1, rfl, m1⟩ := len_cons m0
  obtain rfl := List.eq_nil_of_length_eq_zero m1
  have hs : ∀ j, j < 2 → ∃ y, xs[j]? = some y := fun j hj => ⟨_, List.getElem?_eq_getElem (by have : xs.length = 2 := hlen; omega)⟩
  obtain ⟨y0, hy0⟩ := hs 0 (by omega)
  have g0 := (hf 0 _ rfl).trans hy0
  have e0 : DataW.trod enc Try.prog w base spare held n 3 ((List.drop 0 [c0, c1]).take (Try.prog.cellsOf 3)) = some y0 := g0
  rw [show Try.prog.cellsOf 3 = 1 from by kernel_rfl] at e0
  replace e0 : DataW.trod enc Try.prog w base spare held n 3 [c0] = some y0 := e0
  obtain ⟨y1, hy1⟩ := hs 1 (by omega)
  have g1 := (hf 1 _ rfl).trans hy1
  have e1 : DataW.trod enc Try.prog w base spare held n 3 ((List.drop 1 [c0, c1]).take (Try.prog.cellsOf 3)) = some y1 := g1
  rw [show Try.prog.cellsOf 3 = 1 from by kernel_rfl] at e1
  replace e1 : DataW.trod enc Try.prog w base spare held n 3 [c1] = some y1 := e1
  obtain ⟨b0, q0, _, r0⟩ := DataW.trod_int Try.underlying3 e0
  simp only [List.cons.injEq, and_true] at q0
  subst q0
  obtain ⟨b1, q1, _, r1⟩ := DataW.trod_int Try.underlying3 e1
  simp only [List.cons.injEq, and_true] at q1
  subst q1
  exact ⟨⟨b0, b1⟩, rfl, r0, r1⟩

theorem open_Root {H : Type} {enc : TypeId × Value → H} {w : World} {base : Nat} {spare : Nat → Bool} {held : Bool} {fuel : Nat} {cs : List Value} {x : DataW H × List MemPlace}
  (h : DataW.trod enc Try.prog w base spare held fuel 38 cs = some x) : ∃ d : Root, cs = d.cells ∧ d.wf := by
  obtain ⟨xs, n, _, _, hl, hlen, hf⟩ := DataW.trod_struct Try.underlying38 h
  have hl' : cs.length = 2 := hl.trans (by kernel_rfl)
  obtain ⟨c0, t0, rfl, m0⟩ := len_cons hl'
  obtain ⟨c1, t1, rfl, m1⟩ := len_cons m0
  obtain rfl := List.eq_nil_of_length_eq_zero m1
  have hs : ∀ j, j < 2 → ∃ y, xs[j]? = some y := fun j hj => ⟨_, List.getElem?_eq_getElem (by have : xs.length = 2 := hlen; omega)⟩
  obtain ⟨y0, hy0⟩ := hs 0 (by omega)
  have g0 := (hf 0 _ rfl).trans hy0
  have e0 : DataW.trod enc Try.prog w base spare held n 3 ((List.drop 0 [c0, c1]).take (Try.prog.cellsOf 3)) = some y0 := g0
  rw [show Try.prog.cellsOf 3 = 1 from by kernel_rfl] at e0
  replace e0 : DataW.trod enc Try.prog w base spare held n 3 [c0] = some y0 := e0
  obtain ⟨y1, hy1⟩ := hs 1 (by omega)
  have g1 := (hf 1 _ rfl).trans hy1
  have e1 : DataW.trod enc Try.prog w base spare held n 3 ((List.drop 1 [c0, c1]).take (Try.prog.cellsOf 3)) = some y1 := g1
  rw [show Try.prog.cellsOf 3 = 1 from by kernel_rfl] at e1
  replace e1 : DataW.trod enc Try.prog w base spare held n 3 [c1] = some y1 := e1
  obtain ⟨b0, q0, _, r0⟩ := DataW.trod_int Try.underlying3 e0
  simp only [List.cons.injEq, and_true] at q0
  subst q0
  obtain ⟨b1, q1, _, r1⟩ := DataW.trod_int Try.underlying3 e1
  simp only [List.cons.injEq, and_true] at q1
  subst q1
  exact ⟨⟨b0, b1⟩, rfl, r0, r1⟩

theorem open_Step {H : Type} {enc : TypeId × Value → H} {w : World} {base : Nat} {spare : Nat → Bool} {held : Bool} {fuel : Nat} {cs : List Value} {x : DataW H × List MemPlace}
  (h : DataW.trod enc Try.prog w base spare held fuel 46 cs = some x) : ∃ d : Step, cs = d.cells ∧ d.wf := by
  obtain ⟨xs, n, _, _, hl, hlen, hf⟩ := DataW.trod_struct Try.underlying46 h
  have hl' : cs.length = 10 := hl.trans (by kernel_rfl)
  obtain ⟨c0, t0, rfl, m0⟩ := len_cons hl'
  obtain ⟨c1, t1, rfl, m1⟩ := len_cons m0
  obtain ⟨c2, t2, rfl, m2⟩ := len_cons m1
  obtain ⟨c3, t3, rfl, m3⟩ := len_cons m2
  obtain ⟨c4, t4, rfl, m4⟩ := len_cons m3
  obtain ⟨c5, t5, rfl, m5⟩ := len_cons m4
  obtain ⟨c6, t6, rfl, m6⟩ := len_cons m5
  obtain ⟨c7, t7, rfl, m7⟩ := len_cons m6
  obtain ⟨c8, t8, rfl, m8⟩ := len_cons m7
  obtain ⟨c9, t9, rfl, m9⟩ := len_cons m8
  obtain rfl := List.eq_nil_of_length_eq_zero m9
  have hs : ∀ j, j < 10 → ∃ y, xs[j]? = some y := fun j hj => ⟨_, List.getElem?_eq_getElem (by have : xs.length = 10 := hlen; omega)⟩
  obtain ⟨y0, hy0⟩ := hs 0 (by omega)
  have g0 := (hf 0 _ rfl).trans hy0
  have e0 : DataW.trod enc Try.prog w base spare held n 3 ((List.drop 0 [c0, c1, c2, c3, c4, c5, c6, c7, c8, c9]).take (Try.prog.cellsOf 3)) = some y0 := g0
  rw [show Try.prog.cellsOf 3 = 1 from by kernel_rfl] at e0
  replace e0 : DataW.trod enc Try.prog w base spare held n 3 [c0] = some y0 := e0
  obtain ⟨y1, hy1⟩ := hs 1 (by omega)
  have g1 := (hf 1 _ rfl).trans hy1
  have e1 : DataW.trod enc Try.prog w base spare held n 3 ((List.drop 1 [c0, c1, c2, c3, c4, c5, c6, c7, c8, c9]).take (Try.prog.cellsOf 3)) = some y1 := g1
  rw [show Try.prog.cellsOf 3 = 1 from by kernel_rfl] at e1
  replace e1 : DataW.trod enc Try.prog w base spare held n 3 [c1] = some y1 := e1
  obtain ⟨y2, hy2⟩ := hs 2 (by omega)
  have g2 := (hf 2 _ rfl).trans hy2
  have e2 : DataW.trod enc Try.prog w base spare held n 3 ((List.drop 2 [c0, c1, c2, c3, c4, c5, c6, c7, c8, c9]).take (Try.prog.cellsOf 3)) = some y2 := g2
  rw [show Try.prog.cellsOf 3 = 1 from by kernel_rfl] at e2
  replace e2 : DataW.trod enc Try.prog w base spare held n 3 [c2] = some y2 := e2
  obtain ⟨y3, hy3⟩ := hs 3 (by omega)
  have g3 := (hf 3 _ rfl).trans hy3
  have e3 : DataW.trod enc Try.prog w base spare held n 3 ((List.drop 3 [c0, c1, c2, c3, c4, c5, c6, c7, c8, c9]).take (Try.prog.cellsOf 3)) = some y3 := g3
  rw [show Try.prog.cellsOf 3 = 1 from by kernel_rfl] at e3
  replace e3 : DataW.trod enc Try.prog w base spare held n 3 [c3] = some y3 := e3
  obtain ⟨y4, hy4⟩ := hs 4 (by omega)
  have g4 := (hf 4 _ rfl).trans hy4
  have e4 : DataW.trod enc Try.prog w base spare held n 3 ((List.drop 4 [c0, c1, c2, c3, c4, c5, c6, c7, c8, c9]).take (Try.prog.cellsOf 3)) = some y4 := g4
  rw [show Try.prog.cellsOf 3 = 1 from by kernel_rfl] at e4
  replace e4 : DataW.trod enc Try.prog w base spare held n 3 [c4] = some y4 := e4
  obtain ⟨y5, hy5⟩ := hs 5 (by omega)
  have g5 := (hf 5 _ rfl).trans hy5
  have e5 : DataW.trod enc Try.prog w base spare held n 3 ((List.drop 5 [c0, c1, c2, c3, c4, c5, c6, c7, c8, c9]).take (Try.prog.cellsOf 3)) = some y5 := g5
  rw [show Try.prog.cellsOf 3 = 1 from by kernel_rfl] at e5
  replace e5 : DataW.trod enc Try.prog w base spare held n 3 [c5] = some y5 := e5
  obtain ⟨y6, hy6⟩ := hs 6 (by omega)
  have g6 := (hf 6 _ rfl).trans hy6
  have e6 : DataW.trod enc Try.prog w base spare held n 44 ((List.drop 6 [c0, c1, c2, c3, c4, c5, c6, c7, c8, c9]).take (Try.prog.cellsOf 44)) = some y6 := g6
  rw [show Try.prog.cellsOf 44 = 1 from by kernel_rfl] at e6
  replace e6 : DataW.trod enc Try.prog w base spare held n 44 [c6] = some y6 := e6
  obtain ⟨y7, hy7⟩ := hs 7 (by omega)
  have g7 := (hf 7 _ rfl).trans hy7
  have e7 : DataW.trod enc Try.prog w base spare held n 3 ((List.drop 7 [c0, c1, c2, c3, c4, c5, c6, c7, c8, c9]).take (Try.prog.cellsOf 3)) = some y7 := g7
  rw [show Try.prog.cellsOf 3 = 1 from by kernel_rfl] at e7
  replace e7 : DataW.trod enc Try.prog w base spare held n 3 [c7] = some y7 := e7
  obtain ⟨y8, hy8⟩ := hs 8 (by omega)
  have g8 := (hf 8 _ rfl).trans hy8
  have e8 : DataW.trod enc Try.prog w base spare held n 3 ((List.drop 8 [c0, c1, c2, c3, c4, c5, c6, c7, c8, c9]).take (Try.prog.cellsOf 3)) = some y8 := g8
  rw [show Try.prog.cellsOf 3 = 1 from by kernel_rfl] at e8
  replace e8 : DataW.trod enc Try.prog w base spare held n 3 [c8] = some y8 := e8
  obtain ⟨y9, hy9⟩ := hs 9 (by omega)
  have g9 := (hf 9 _ rfl).trans hy9
  have e9 : DataW.trod enc Try.prog w base spare held n 3 ((List.drop 9 [c0, c1, c2, c3, c4, c5, c6, c7, c8, c9]).take (Try.prog.cellsOf 3)) = some y9 := g9
  rw [show Try.prog.cellsOf 3 = 1 from by kernel_rfl] at e9
  replace e9 : DataW.trod enc Try.prog w base spare held n 3 [c9] = some y9 := e9
  obtain ⟨b0, q0, _, r0⟩ := DataW.trod_int Try.underlying3 e0
  simp only [List.cons.injEq, and_true] at q0
  subst q0
  obtain ⟨b1, q1, _, r1⟩ := DataW.trod_int Try.underlying3 e1
  simp only [List.cons.injEq, and_true] at q1
  subst q1
  obtain ⟨b2, q2, _, r2⟩ := DataW.trod_int Try.underlying3 e2
  simp only [List.cons.injEq, and_true] at q2
  subst q2
  obtain ⟨b3, q3, _, r3⟩ := DataW.trod_int Try.underlying3 e3
  simp only [List.cons.injEq, and_true] at q3
  subst q3
  obtain ⟨b4, q4, _, r4⟩ := DataW.trod_int Try.underlying3 e4
  simp only [List.cons.injEq, and_true] at q4
  subst q4
  obtain ⟨b5, q5, _, r5⟩ := DataW.trod_int Try.underlying3 e5
  simp only [List.cons.injEq, and_true] at q5
  subst q5
  obtain ⟨b6, q6, _, r6⟩ := DataW.trod_int Try.underlying44 e6
  simp only [List.cons.injEq, and_true] at q6
  subst q6
  obtain ⟨b7, q7, _, r7⟩ := DataW.trod_int Try.underlying3 e7
  simp only [List.cons.injEq, and_true] at q7
  subst q7
  obtain ⟨b8, q8, _, r8⟩ := DataW.trod_int Try.underlying3 e8
  simp only [List.cons.injEq, and_true] at q8
  subst q8
  obtain ⟨b9, q9, _, r9⟩ := DataW.trod_int Try.underlying3 e9
  simp only [List.cons.injEq, and_true] at q9
  subst q9
  exact ⟨⟨b0, b1, b2, b3, b4, b5, b6, b7, b8, b9⟩, rfl, r0, r1, r2, r3, r4, r5, r6, r7, r8, r9⟩

end Go.Proofs.Ythcdecgecabgaaa
