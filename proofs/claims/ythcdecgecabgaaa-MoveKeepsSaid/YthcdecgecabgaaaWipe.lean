import Derived.Test.YthcdecgecabgaaaBStepsSamePart
import Derived.Test.YthcdecgecabgaaaBPhytWalk
import Derived.Laws.OwnMore
/- Rows of the call's own whose cells are written over; what the laws that ask twice share. -/
namespace Go.Proofs.Ythcdecgecabgaaa
open Go.RowKit
set_option linter.unusedVariables false
set_option linter.unusedSimpArgs false

/-- A row of the call's own, whatever its cells are. -/
def Row (w : World) (B : Nat) (T : TypeId) (sz : Nat) (v : Value) (n : Nat) : Prop := ∃ xs, w.ownsRow B T sz v n xs
section
variable {w W : World} {B sz n cap g : Nat} {T : TypeId} {v : Value} {a : Option Addr}
theorem Row.of {xs : List Value} (h : w.ownsRow B T sz v n xs) : Row w B T sz v n := ⟨xs, h⟩
theorem Row.more (h : Row w B T sz v n) (x : Array Obj × Nat) : Row (more w x) B T sz v n := ⟨_, own_more h.choose_spec x⟩
theorem Row.alloc (h : Row w B T sz v n) (o : Obj) : Row (w.alloc o) B T sz v n := ⟨_, own_alloc h.choose_spec o⟩
theorem Row.drew (h : Row w B T sz v n) : Row w.drew B T sz v n := h
theorem Row.drewN (h : Row w B T sz v n) (k : Nat) : Row (w.drewN k) B T sz v n := h
theorem Row.set (h : Row w B T sz (.slice (some ⟨g, 0, none⟩) n cap) n) (j : Nat) (u : Value) : Row (w.setCell ⟨g, j, none⟩ u) B T sz (.slice (some ⟨g, 0, none⟩) n cap) n := ⟨_, (World.ownsRow.stored h.choose_spec j u).1⟩
theorem Row.nil (w : World) (B : Nat) (T : TypeId) (sz : Nat) : Row w B T sz (.slice none 0 0) 0 := ⟨_, World.ownsRow_nil _ _ _ _⟩
theorem ext_set (h : Ext W w) (hg : W.heap.size ≤ g) (j : Nat) (u : Value) : Ext W (w.setCell ⟨g, j, none⟩ u) :=
  .of ⟨h.grow.os, h.grow.tape, h.grow.output, by simpa using h.size, fun i hi e => by rw [heap_setCell_other _ _ _ _ (by show i ≠ g; omega)]; exact h.grow.block i hi e⟩
theorem Row.cells (h : Row w B T sz (.slice a n cap) n) (hn : 0 < n) : ∃ g, a = some ⟨g, 0, none⟩ ∧ B ≤ g ∧ g < w.heap.size ∧ (∀ j, j < n * sz → ∃ u, w.cell? ⟨g, j, none⟩ = some u) ∧ ∀ j, w.frozen? ⟨g, j, none⟩ = false := by
  obtain ⟨xs, ho⟩ := h
  obtain ⟨g, rfl, h1, h2, _, h4, h5⟩ := own_at ho hn
  refine ⟨g, rfl, h1, h2, fun j hj => ⟨xs[j]'(by rw [ho.1]; exact hj), h4 j _ (List.getElem?_eq_getElem _)⟩, h5⟩
end
/-- A row's cells at the q-th element of ten. -/
theorem row_ten {w : World} {g n : Nat} (h : ∀ j, j < n * 10 → ∃ u, w.cell? ⟨g, j, none⟩ = some u) (q : Nat) (hq : q < n) : ∃ u0 u1 u2 u3 u4 u5 u6 u7 u8 u9, w.cell? ⟨g, q * 10, none⟩ = some u0 ∧ w.cell? ⟨g, q * 10 + 1, none⟩ = some u1 ∧ w.cell? ⟨g, q * 10 + 2, none⟩ = some u2 ∧ w.cell? ⟨g, q * 10 + 3, none⟩ = some u3 ∧ w.cell? ⟨g, q * 10 + 4, none⟩ = some u4 ∧ w.cell? ⟨g, q * 10 + 5, none⟩ = some u5 ∧ w.cell? ⟨g, q * 10 + 6, none⟩ = some u6 ∧ w.cell? ⟨g, q * 10 + 7, none⟩ = some u7 ∧ w.cell? ⟨g, q * 10 + 8, none⟩ = some u8 ∧ w.cell? ⟨g, q * 10 + 9, none⟩ = some u9 := by
  obtain ⟨u0, h0⟩ := h (q * 10) (by omega)
  obtain ⟨u1, h1⟩ := h (q * 10 + 1) (by omega)
  obtain ⟨u2, h2⟩ := h (q * 10 + 2) (by omega)
  obtain ⟨u3, h3⟩ := h (q * 10 + 3) (by omega)
  obtain ⟨u4, h4⟩ := h (q * 10 + 4) (by omega)
  obtain ⟨u5, h5⟩ := h (q * 10 + 5) (by omega)
  obtain ⟨u6, h6⟩ := h (q * 10 + 6) (by omega)
  obtain ⟨u7, h7⟩ := h (q * 10 + 7) (by omega)
  obtain ⟨u8, h8⟩ := h (q * 10 + 8) (by omega)
  obtain ⟨u9, h9⟩ := h (q * 10 + 9) (by omega)
  exact ⟨u0, u1, u2, u3, u4, u5, u6, u7, u8, u9, h0, h1, h2, h3, h4, h5, h6, h7, h8, h9⟩
theorem phys_Same_yes (w : World) {b g n c b' g' n' c' : Nat} {ws : List Int} (hm : MemAt w b g n c ws) (hm' : MemAt w b' g' n' c' ws) :
    Calls Try.prog 59 #[.pointer (some ⟨b, 0, none⟩), .pointer (some ⟨b', 0, none⟩)] w fun e w' => e = .returned (.bool true) ∧ ∃ m, w' = w.drewN m :=
  (phys_Same w hm hm').mono fun _ _ ⟨he, hw⟩ => ⟨he.trans (ret_bool (by simp)), hw⟩
/-- Steps that are told begin with a step of a kind, and are not too many. -/
def FirstK (k : Int) (r : StepsR) : Prop := ∀ s, r = .yes s → s.length ≤ 900000 ∧ ∀ h : Step, s[0]? = some h → h.fKind = k
/-- What was told: so many steps, of which the first is of a kind, and an error or none. -/
def Told (k : Int) (n : Nat) (ev : Value) (B : Nat) (w' : World) (e : Ending) : Prop := ∃ a cap, e = .returned (.tuple #[.slice a n cap, ev]) ∧ Row w' B 46 10 (.slice a n cap) n ∧ n ≤ cap ∧ cap ≤ maxLen ∧ (0 < n → ∃ g, a = some ⟨g, 0, none⟩ ∧ B ≤ g ∧ g < w'.heap.size ∧ w'.cell? ⟨g, 0, none⟩ = some (.int .i64 k))
theorem told_of {k : Int} {R : StepsR} (h : FirstK k R) : ∃ n ev, n ≤ 900000 ∧ (ev = .nilIface ∨ ∃ k : Nat, ev = errW k) ∧ ∀ B w' e, StepsRet B w' R e → Told k n ev B w' e := by
  cases R with
  | no j => exact ⟨0, _, by omega, .inr ⟨j, rfl⟩, fun B w' e he => ⟨none, 0, he, Row.nil _ _ _ _, Nat.le_refl _, by simp, fun h => absurd h (by omega)⟩⟩
  | yes s =>
    obtain ⟨h1, h2⟩ := h s rfl
    refine ⟨s.length, _, h1, .inl rfl, fun B w' e he => ?_⟩
    obtain ⟨a, cap, rfl, ho⟩ := he
    have hc := own_cap ho
    refine ⟨a, cap, rfl, .of ho, hc.2.1, hc.2.2, fun hn => ?_⟩
    obtain ⟨g, rfl, hB, hg, _, hx, _⟩ := own_at ho hn
    refine ⟨g, rfl, hB, hg, ?_⟩
    have hz : s[0]? = some s[0] := List.getElem?_eq_getElem hn
    have := (step_at hx 0 _ hz).1
    rw [h2 _ hz] at this
    simpa using this
theorem told_any {k : Int} {R : StepsR} (h : FirstK k R) {f : FuncId} {n : Nat} {ws : List Int} {args : Array Value} (hc : ∀ w b g c, MemAt w b g n c ws → Calls Try.prog f (#[.pointer (some ⟨b, 0, none⟩)] ++ args) w fun e w' => Ext w w' ∧ StepsRet w.heap.size w' R e) :
    ∃ j ev, j ≤ 900000 ∧ (ev = .nilIface ∨ ∃ k : Nat, ev = errW k) ∧ ∀ w b g c, MemAt w b g n c ws → Calls Try.prog f (#[.pointer (some ⟨b, 0, none⟩)] ++ args) w fun e w' => Ext w w' ∧ Told k j ev w.heap.size w' e := by
  obtain ⟨j, ev, hj, hv, ht⟩ := told_of h
  exact ⟨j, ev, hj, hv, fun w b g c hm => (hc w b g c hm).mono fun e w' ⟨h1, h2⟩ => ⟨h1, ht _ w' e h2⟩⟩

end Go.Proofs.Ythcdecgecabgaaa
