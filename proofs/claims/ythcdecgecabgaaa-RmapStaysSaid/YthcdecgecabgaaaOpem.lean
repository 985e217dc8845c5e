/- Deeds of scripts opened, as in Open; printed by wip/py/genstruct.py. -/
import Derived.Test.YthcdecgecabgaaaOpen
namespace Go.Proofs.Ythcdecgecabgaaa
open Go.ChangeShapes Go.WideShapes Go.ChangeAt Go.RowKit Go.Deep
set_option linter.unusedVariables false
set_option linter.unusedSimpArgs false

structure Access where
  fKind : Int
  fPage : Int
  fI : Int
  fV : Int
  deriving DecidableEq
def Access.cells (d : Access) : List Value := [Value.int .i64 d.fKind, Value.int .i64 d.fPage, Value.int .i64 d.fI, Value.int .u64 d.fV]
def Access.wf (d : Access) : Prop := (Lit.int .i64 d.fKind).wf = true ∧ (Lit.int .i64 d.fPage).wf = true ∧ (Lit.int .i64 d.fI).wf = true ∧ (Lit.int .u64 d.fV).wf = true
theorem Access.cells_len (d : Access) : d.cells.length = 4 := rfl

structure Deed11 where
  fWhat : Int
  fFrame : Int
  fTo : Int
  fW : Where
  deriving DecidableEq
def Deed11.cells (d : Deed11) : List Value := [Value.int .i64 d.fWhat, Value.int .i64 d.fFrame, Value.int .i64 d.fTo, Value.int .i64 d.fW.fSpace, Value.int .i64 d.fW.fPage]
def Deed11.wf (d : Deed11) : Prop := (Lit.int .i64 d.fWhat).wf = true ∧ (Lit.int .i64 d.fFrame).wf = true ∧ (Lit.int .i64 d.fTo).wf = true ∧ d.fW.wf
theorem Deed11.cells_len (d : Deed11) : d.cells.length = 5 := rfl

structure Deed14 where
  fWhat : Int
  fStep : Step
  fCpu : Int
  fAsid : Int
  fRoot : Int
  fPage : Int
  fN : Int
  fA : Access
  deriving DecidableEq
def Deed14.cells (d : Deed14) : List Value := [Value.int .i64 d.fWhat, Value.int .i64 d.fStep.fKind, Value.int .i64 d.fStep.fAsid, Value.int .i64 d.fStep.fLevel, Value.int .i64 d.fStep.fTable, Value.int .i64 d.fStep.fPlace, Value.int .i64 d.fStep.fFirst, Value.int .u64 d.fStep.fValue, Value.int .i64 d.fStep.fTo, Value.int .i64 d.fStep.fFrom, Value.int .i64 d.fStep.fI, Value.int .i64 d.fCpu, Value.int .i64 d.fAsid, Value.int .i64 d.fRoot, Value.int .i64 d.fPage, Value.int .i64 d.fN, Value.int .i64 d.fA.fKind, Value.int .i64 d.fA.fPage, Value.int .i64 d.fA.fI, Value.int .u64 d.fA.fV]
def Deed14.wf (d : Deed14) : Prop := (Lit.int .i64 d.fWhat).wf = true ∧ d.fStep.wf ∧ (Lit.int .i64 d.fCpu).wf = true ∧ (Lit.int .i64 d.fAsid).wf = true ∧ (Lit.int .i64 d.fRoot).wf = true ∧ (Lit.int .i64 d.fPage).wf = true ∧ (Lit.int .i64 d.fN).wf = true ∧ d.fA.wf
theorem Deed14.cells_len (d : Deed14) : d.cells.length = 20 := rfl

theorem open_Access {H : Type} {enc : TypeId × Value → H} {w : World} {base : Nat} {spare : Nat → Bool} {held : Bool} {fuel : Nat} {cs : List Value} {x : DataW H × List MemPlace}
  (h : DataW.trod enc Try.prog w base spare held fuel 100 cs = some x) : ∃ d : Access, cs = d.cells ∧ d.wf := by
  obtain ⟨xs, n, _, _, hl, hlen, hf⟩ := DataW.trod_struct Try.underlying100 h
  have hl' : cs.length = 4 := hl.trans (by kernel_rfl)
  obtain ⟨c0, t0, rfl, m0⟩ := len_cons hl'
  obtain ⟨c1, t1, rfl, m1⟩ := len_cons m0
  obtain ⟨c2, t2, rfl, m2⟩ := len_cons m1
  obtain ⟨c3, t3, rfl, m3⟩ := len_cons m2
  obtain rfl := List.eq_nil_of_length_eq_zero m3
  have hs : ∀ j, j < 4 → ∃ y, xs[j]? = some y := fun j hj => ⟨_, List.getElem?_eq_getElem (by have : xs.length = 4 := hlen; omega)⟩
  obtain ⟨y0, hy0⟩ := hs 0 (by omega)
  have g0 := (hf 0 _ rfl).trans hy0
  have e0 : DataW.trod enc Try.prog w base spare held n 3 ((List.drop 0 [c0, c1, c2, c3]).take (Try.prog.cellsOf 3)) = some y0 := g0
  rw [show Try.prog.cellsOf 3 = 1 from by kernel_rfl] at e0
  replace e0 : DataW.trod enc Try.prog w base spare held n 3 [c0] = some y0 := e0
  obtain ⟨y1, hy1⟩ := hs 1 (by omega)
  have g1 := (hf 1 _ rfl).trans hy1
  have e1 : DataW.trod enc Try.prog w base spare held n 3 ((List.drop 1 [c0, c1, c2, c3]).take (Try.prog.cellsOf 3)) = some y1 := g1
  rw [show Try.prog.cellsOf 3 = 1 from by kernel_rfl] at e1
  replace e1 : DataW.trod enc Try.prog w base spare held n 3 [c1] = some y1 := e1
  obtain ⟨y2, hy2⟩ := hs 2 (by omega)
  have g2 := (hf 2 _ rfl).trans hy2
  have e2 : DataW.trod enc Try.prog w base spare held n 3 ((List.drop 2 [c0, c1, c2, c3]).take (Try.prog.cellsOf 3)) = some y2 := g2
  rw [show Try.prog.cellsOf 3 = 1 from by kernel_rfl] at e2
  replace e2 : DataW.trod enc Try.prog w base spare held n 3 [c2] = some y2 := e2
  obtain ⟨y3, hy3⟩ := hs 3 (by omega)
  have g3 := (hf 3 _ rfl).trans hy3
  have e3 : DataW.trod enc Try.prog w base spare held n 44 ((List.drop 3 [c0, c1, c2, c3]).take (Try.prog.cellsOf 44)) = some y3 := g3
  rw [show Try.prog.cellsOf 44 = 1 from by kernel_rfl] at e3
  replace e3 : DataW.trod enc Try.prog w base spare held n 44 [c3] = some y3 := e3
  obtain ⟨b0, q0, _, r0⟩ := DataW.trod_int Try.underlying3 e0
  simp only [List.cons.injEq, and_true] at q0
  subst q0
  obtain ⟨b1, q1, _, r1⟩ := DataW.trod_int Try.underlying3 e1
  simp only [List.cons.injEq, and_true] at q1
  subst q1
  obtain ⟨b2, q2, _, r2⟩ := DataW.trod_int Try.underlying3 e2
  simp only [List.cons.injEq, and_true] at q2
  subst q2
  obtain ⟨b3, q3, _, r3⟩ := DataW.trod_int Try.underlying44 e3
  simp only [List.cons.injEq, and_true] at q3
  subst q3
  exact ⟨⟨b0, b1, b2, b3⟩, rfl, r0, r1, r2, r3⟩

theorem open_Deed11 {H : Type} {enc : TypeId × Value → H} {w : World} {base : Nat} {spare : Nat → Bool} {held : Bool} {fuel : Nat} {cs : List Value} {x : DataW H × List MemPlace}
  (h : DataW.trod enc Try.prog w base spare held fuel 77 cs = some x) : ∃ d : Deed11, cs = d.cells ∧ d.wf := by
  obtain ⟨xs, n, _, _, hl, hlen, hf⟩ := DataW.trod_struct Try.underlying77 h
  have hl' : cs.length = 5 := hl.trans (by kernel_rfl)
  obtain ⟨c0, t0, rfl, m0⟩ := len_cons hl'
  obtain ⟨c1, t1, rfl, m1⟩ := len_cons m0
  obtain ⟨c2, t2, rfl, m2⟩ := len_cons m1
  obtain ⟨c3, t3, rfl, m3⟩ := len_cons m2
  obtain ⟨c4, t4, rfl, m4⟩ := len_cons m3
  obtain rfl := List.eq_nil_of_length_eq_zero m4
  have hs : ∀ j, j < 4 → ∃ y, xs[j]? = some y := fun j hj => ⟨_, List.getElem?_eq_getElem (by have : xs.length = 4 := hlen; omega)⟩
  obtain ⟨y0, hy0⟩ := hs 0 (by omega)
  have g0 := (hf 0 _ rfl).trans hy0
  have e0 : DataW.trod enc Try.prog w base spare held n 3 ((List.drop 0 [c0, c1, c2, c3, c4]).take (Try.prog.cellsOf 3)) = some y0 := g0
  rw [show Try.prog.cellsOf 3 = 1 from by kernel_rfl] at e0
  replace e0 : DataW.trod enc Try.prog w base spare held n 3 [c0] = some y0 := e0
  obtain ⟨y1, hy1⟩ := hs 1 (by omega)
  have g1 := (hf 1 _ rfl).trans hy1
  have e1 : DataW.trod enc Try.prog w base spare held n 3 ((List.drop 1 [c0, c1, c2, c3, c4]).take (Try.prog.cellsOf 3)) = some y1 := g1
  rw [show Try.prog.cellsOf 3 = 1 from by kernel_rfl] at e1
  replace e1 : DataW.trod enc Try.prog w base spare held n 3 [c1] = some y1 := e1
  obtain ⟨y2, hy2⟩ := hs 2 (by omega)
  have g2 := (hf 2 _ rfl).trans hy2
  have e2 : DataW.trod enc Try.prog w base spare held n 3 ((List.drop 2 [c0, c1, c2, c3, c4]).take (Try.prog.cellsOf 3)) = some y2 := g2
  rw [show Try.prog.cellsOf 3 = 1 from by kernel_rfl] at e2
  replace e2 : DataW.trod enc Try.prog w base spare held n 3 [c2] = some y2 := e2
  obtain ⟨y3, hy3⟩ := hs 3 (by omega)
  have g3 := (hf 3 _ rfl).trans hy3
  have e3 : DataW.trod enc Try.prog w base spare held n 57 ((List.drop 3 [c0, c1, c2, c3, c4]).take (Try.prog.cellsOf 57)) = some y3 := g3
  rw [show Try.prog.cellsOf 57 = 2 from by kernel_rfl] at e3
  replace e3 : DataW.trod enc Try.prog w base spare held n 57 [c3, c4] = some y3 := e3
  obtain ⟨b0, q0, _, r0⟩ := DataW.trod_int Try.underlying3 e0
  simp only [List.cons.injEq, and_true] at q0
  subst q0
  obtain ⟨b1, q1, _, r1⟩ := DataW.trod_int Try.underlying3 e1
  simp only [List.cons.injEq, and_true] at q1
  subst q1
  obtain ⟨b2, q2, _, r2⟩ := DataW.trod_int Try.underlying3 e2
  simp only [List.cons.injEq, and_true] at q2
  subst q2
  obtain ⟨b3, q3, r3⟩ := open_Where e3
  simp only [Where.cells, List.cons.injEq, and_true] at q3
  obtain ⟨rfl, rfl⟩ := q3
  exact ⟨⟨b0, b1, b2, b3⟩, rfl, r0, r1, r2, r3⟩

theorem open_Deed14 {H : Type} {enc : TypeId × Value → H} {w : World} {base : Nat} {spare : Nat → Bool} {held : Bool} {fuel : Nat} {cs : List Value} {x : DataW H × List MemPlace}
  (h : DataW.trod enc Try.prog w base spare held fuel 102 cs = some x) : ∃ d : Deed14, cs = d.cells ∧ d.wf := by
  obtain ⟨xs, n, _, _, hl, hlen, hf⟩ := DataW.trod_struct Try.underlying102 h
  have hl' : cs.length = 20 := hl.trans (by kernel_rfl)
  obtain ⟨c0, t0, rfl, m0⟩ := len_cons hl'
  obtain ⟨c1, t1, rfl, m1⟩ := len_cons m0
  obtain ⟨c2, t2, rfl, m2⟩ := len_cons m1
  obtain ⟨c3, t3, rfl, m3⟩ := len_cons m2
  obtain ⟨c4, t4, rfl, m4⟩ := len_cons m3
  obtain ⟨c5, t5, rfl, m5⟩ := len_cons m4
  obtain ⟨c6, t6, rfl, m6⟩ := len_cons m5
  obtain ⟨c7, t7, rfl, m7⟩ := len_cons m6
  obtain ⟨c8, t8, rfl, m8⟩ := len_cons m7
  obtain ⟨c9, t9, rfl, m9⟩ := len_cons m8
  obtain ⟨c10, t10, rfl, m10⟩ := len_cons m9
  obtain ⟨c11, t11, rfl, m11⟩ := len_cons m10
  obtain ⟨c12, t12, rfl, m12⟩ := len_cons m11
  obtain ⟨c13, t13, rfl, m13⟩ := len_cons m12
  obtain ⟨c14, t14, rfl, m14⟩ := len_cons m13
  obtain ⟨c15, t15, rfl, m15⟩ := len_cons m14
  obtain ⟨c16, t16, rfl, m16⟩ := len_cons m15
  obtain ⟨c17, t17, rfl, m17⟩ := len_cons m16
  obtain ⟨c18, t18, rfl, m18⟩ := len_cons m17
  obtain ⟨c19, t19, rfl, m19⟩ := len_cons m18
  obtain rfl := List.eq_nil_of_length_eq_zero m19
  have hs : ∀ j, j < 8 → ∃ y, xs[j]? = some y := fun j hj => ⟨_, List.getElem?_eq_getElem (by have : xs.length = 8 := hlen; omega)⟩
  obtain ⟨y0, hy0⟩ := hs 0 (by omega)
  have g0 := (hf 0 _ rfl).trans hy0
  have e0 : DataW.trod enc Try.prog w base spare held n 3 ((List.drop 0 [c0, c1, c2, c3, c4, c5, c6, c7, c8, c9, c10, c11, c12, c13, c14, c15, c16, c17, c18, c19]).take (Try.prog.cellsOf 3)) = some y0 := g0
  rw [show Try.prog.cellsOf 3 = 1 from by kernel_rfl] at e0
  replace e0 : DataW.trod enc Try.prog w base spare held n 3 [c0] = some y0 := e0
  obtain ⟨y1, hy1⟩ := hs 1 (by omega)
  have g1 := (hf 1 _ rfl).trans hy1
  have e1 : DataW.trod enc Try.prog w base spare held n 46 ((List.drop 1 [c0, c1, c2, c3, c4, c5, c6, c7, c8, c9, c10, c11, c12, c13, c14, c15, c16, c17, c18, c19]).take (Try.prog.cellsOf 46)) = some y1 := g1
  rw [show Try.prog.cellsOf 46 = 10 from by kernel_rfl] at e1
  replace e1 : DataW.trod enc Try.prog w base spare held n 46 [c1, c2, c3, c4, c5, c6, c7, c8, c9, c10] = some y1 := e1
  obtain ⟨y2, hy2⟩ := hs 2 (by omega)
  have g2 := (hf 2 _ rfl).trans hy2
  have e2 : DataW.trod enc Try.prog w base spare held n 3 ((List.drop 11 [c0, c1, c2, c3, c4, c5, c6, c7, c8, c9, c10, c11, c12, c13, c14, c15, c16, c17, c18, c19]).take (Try.prog.cellsOf 3)) = some y2 := g2
  rw [show Try.prog.cellsOf 3 = 1 from by kernel_rfl] at e2
  replace e2 : DataW.trod enc Try.prog w base spare held n 3 [c11] = some y2 := e2
  obtain ⟨y3, hy3⟩ := hs 3 (by omega)
  have g3 := (hf 3 _ rfl).trans hy3
  have e3 : DataW.trod enc Try.prog w base spare held n 3 ((List.drop 12 [c0, c1, c2, c3, c4, c5, c6, c7, c8, c9, c10, c11, c12, c13, c14, c15, c16, c17, c18, c19]).take (Try.prog.cellsOf 3)) = some y3 := g3
  rw [show Try.prog.cellsOf 3 = 1 from by kernel_rfl] at e3
  replace e3 : DataW.trod enc Try.prog w base spare held n 3 [c12] = some y3 := e3
  obtain ⟨y4, hy4⟩ := hs 4 (by omega)
  have g4 := (hf 4 _ rfl).trans hy4
  have e4 : DataW.trod enc Try.prog w base spare held n 3 ((List.drop 13 [c0, c1, c2, c3, c4, c5, c6, c7, c8, c9, c10, c11, c12, c13, c14, c15, c16, c17, c18, c19]).take (Try.prog.cellsOf 3)) = some y4 := g4
  rw [show Try.prog.cellsOf 3 = 1 from by kernel_rfl] at e4
  replace e4 : DataW.trod enc Try.prog w base spare held n 3 [c13] = some y4 := e4
  obtain ⟨y5, hy5⟩ := hs 5 (by omega)
  have g5 := (hf 5 _ rfl).trans hy5
  have e5 : DataW.trod enc Try.prog w base spare held n 3 ((List.drop 14 [c0, c1, c2, c3, c4, c5, c6, c7, c8, c9, c10, c11, c12, c13, c14, c15, c16, c17, c18, c19]).take (Try.prog.cellsOf 3)) = some y5 := g5
  rw [show Try.prog.cellsOf 3 = 1 from by kernel_rfl] at e5
  replace e5 : DataW.trod enc Try.prog w base spare held n 3 [c14] = some y5 := e5
  obtain ⟨y6, hy6⟩ := hs 6 (by omega)
  have g6 := (hf 6 _ rfl).trans hy6
  have e6 : DataW.trod enc Try.prog w base spare held n 3 ((List.drop 15 [c0, c1, c2, c3, c4, c5, c6, c7, c8, c9, c10, c11, c12, c13, c14, c15, c16, c17, c18, c19]).take (Try.prog.cellsOf 3)) = some y6 := g6
  rw [show Try.prog.cellsOf 3 = 1 from by kernel_rfl] at e6
  replace e6 : DataW.trod enc Try.prog w base spare held n 3 [c15] = some y6 := e6
  obtain ⟨y7, hy7⟩ := hs 7 (by omega)
  have g7 := (hf 7 _ rfl).trans hy7
  have e7 : DataW.trod enc Try.prog w base spare held n 100 ((List.drop 16 [c0, c1, c2, c3, c4, c5, c6, c7, c8, c9, c10, c11, c12, c13, c14, c15, c16, c17, c18, c19]).take (Try.prog.cellsOf 100)) = some y7 := g7
  rw [show Try.prog.cellsOf 100 = 4 from by kernel_rfl] at e7
  replace e7 : DataW.trod enc Try.prog w base spare held n 100 [c16, c17, c18, c19] = some y7 := e7
  obtain ⟨b0, q0, _, r0⟩ := DataW.trod_int Try.underlying3 e0
  simp only [List.cons.injEq, and_true] at q0
  subst q0
  obtain ⟨b1, q1, r1⟩ := open_Step e1
  simp only [Step.cells, List.cons.injEq, and_true] at q1
  obtain ⟨rfl, rfl, rfl, rfl, rfl, rfl, rfl, rfl, rfl, rfl⟩ := q1
  obtain ⟨b2, q2, _, r2⟩ := DataW.trod_int Try.underlying3 e2
  simp only [List.cons.injEq, and_true] at q2
  subst q2
  obtain ⟨b3, q3, _, r3⟩ := DataW.trod_int Try.underlying3 e3
  simp only [List.cons.injEq, and_true] at q3
  subst q3
  obtain ⟨b4, q4, _, r4⟩ := DataW.trod_int Try.underlying3 e4
  simp only [List.cons.injEq, and_true] at q4
  subst q4
  obtain ⟨b5, q5, _, r5⟩ := DataW.trod_int Try.underlying3 e5
  simp only [List.cons.injEq, and_true] at q5
  subst q5
  obtain ⟨b6, q6, _, r6⟩ := DataW.trod_int Try.underlying3 e6
  simp only [List.cons.injEq, and_true] at q6
  subst q6
  obtain ⟨b7, q7, r7⟩ := open_Access e7
  simp only [Access.cells, List.cons.injEq, and_true] at q7
  obtain ⟨rfl, rfl, rfl, rfl⟩ := q7
  exact ⟨⟨b0, b1, b2, b3, b4, b5, b6, b7⟩, rfl, r0, r1, r2, r3, r4, r5, r6, r7⟩

end Go.Proofs.Ythcdecgecabgaaa
