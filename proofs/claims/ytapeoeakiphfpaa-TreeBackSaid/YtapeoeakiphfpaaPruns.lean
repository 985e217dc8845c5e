/- The law paviorlaw12.TreeStays. -/
import Derived.Test.YtapeoeakiphfpaaPrune
import Derived.Test.YtapeoeakiphfpaaPatht
import Derived.Test.YtapeoeakiphfpaaTabs
import Derived.Test.YtapeoeakiphfpaaIn
import Derived.Test.YtapeoeakiphfpaaSamq
import Derived.Deep.QuietTactic
import Derived.BigQuiet
namespace Go.Proofs.Ytapeoeakiphfpaa
open Go.RowKit
set_option linter.unusedVariables false
set_option linter.unusedSimpArgs false
attribute [local go_sem] setCell_drewN alloc_drewN lt_moreE le_moreE lt_moreK le_moreK cell_more frozen_more set_more drew_more drewN_more

theorem tabs_head {ws : List Int} {n : Int} {k : Nat} {level t : Int} {r : List Int} (h : tabsAt ws n (k + 1) level t = some r) : r[0]? = some t := by
  by_cases ht : 0 ≤ t ∧ t < n
  · rw [tabsAt_in ht] at h
    have key : ∀ (j i : Nat), i + j = 8 → ∀ (l r : List Int), tabsFrom ws n k level t i l = some r → ∃ m, r = l ++ m := by
      intro j
      induction j with
      | zero =>
        intro i hi l r hr
        obtain rfl : i = 8 := by omega
        rw [tabsFrom_end] at hr
        cases hr
        exact ⟨[], by simp⟩
      | succ j ihj =>
        intro i hi l r hr
        by_cases hk : (decD level (ws.getD (t.toNat * 8 + i) 0)).fKind = 1
        · cases hm : tabsAt ws n k (level + 1) (decD level (ws.getD (t.toNat * 8 + i) 0)).fFrame with
          | none => rw [tabsFrom_no (by omega) rfl hk hm] at hr; cases hr
          | some m =>
            rw [tabsFrom_go (by omega) rfl hk hm] at hr
            obtain ⟨m', rfl⟩ := ihj (i + 1) (by omega) _ _ hr
            exact ⟨m ++ m', by simp⟩
        · rw [tabsFrom_skip (by omega) rfl hk] at hr
          exact ihj (i + 1) (by omega) _ _ hr
    obtain ⟨m, rfl⟩ := key 8 0 rfl [t] r h
    rfl
  · rw [tabsAt_out ht] at h; cases h

def ErrOr (ev : Value) : Prop := ev = .nilIface ∨ ∃ k : Nat, ev = errW k
theorem err_nil {ev : Value} (h : ErrOr ev) : ∃ b : Bool, (∀ w, (binOp .eql 27 ev .nilIface).run Try.prog w = .ok (.bool b) w) ∧ ∀ x c w, (eqGuard .eql 27 x (.const c) ev .nilIface).run Try.prog w = .ok () w := by
  have h1 : ∀ (w : World) (d : Nat) (tp : TypeId) (v : Value), (Op.equalIn (d + 1) 27 (.iface tp v) .nilIface).run Try.prog w = .ok false w := fun w d tp v => by simp [Op.equalIn, run_underlying Try.underlying27]
  have h2 : ∀ (w : World) (d : Nat), (Op.equalIn (d + 1) 27 .nilIface .nilIface).run Try.prog w = .ok true w := fun w d => by simp [Op.equalIn, run_underlying Try.underlying27]
  rcases h with rfl | ⟨k, rfl⟩
  · exact ⟨true, fun w => by simp only [binOp]; simp [Op.equal, Op.maxDepth, h2 w 9999], fun x c w => by simp [eqGuard]⟩
  · exact ⟨false, fun w => by simp only [binOp]; simp [Op.equal, Op.maxDepth, h1 w 9999], fun x c w => by simp [eqGuard]⟩
def ToldPath (s : List Step) (t : Int × Int) (ev : Value) (B : Nat) (w' : World) (e : Ending) : Prop := ∃ a cap, e = .returned (.tuple #[.slice a s.length cap, .agg #[.int .i64 t.1, .int .i64 t.2], ev]) ∧ OwnS w' B (.slice a s.length cap) s
theorem path_any (n : Nat) (ws : List Int) (hw : WOk ws) (root asid page : Int) (fresh : List Int) (hfl : fresh.length ≤ 20) : ∃ (s : List Step) (t : Int × Int) (ev : Value), ErrOr ev ∧
    ∀ w b g c v, MemAt w b g n c ws → SlRd w v 1 (fresh.map intCells) → Calls Try.prog 35 #[.pointer (some ⟨b, 0, none⟩), .int .i64 root, .int .i64 asid, .int .i64 page, .int .i64 3, v] w fun e w' => Ext w w' ∧ ToldPath s t ev w.heap.size w' e := by
  have no : ∀ (B : Nat) (w' : World) (e : Ending) (k : Nat), PathRet B w' (.no k) e → ToldPath [] (0, 0) (errW k) B w' e := fun B w' e k h => ⟨none, 0, h, World.ownsRow_nil _ _ _ _⟩
  by_cases h : 0 ≤ root ∧ root < n ∧ 0 ≤ page ∧ page < 4096
  · obtain ⟨r0, r1, p0, p1⟩ := h
    cases hR : pathRes n asid page 3 fresh (wayAt ws n page (3 + 1) 0 root) with
    | no k => exact ⟨[], (0, 0), errW k, .inr ⟨k, rfl⟩, fun w b g c v hm hv => (tree_PathR w hm hw root asid page 3 r0 r1 p0 p1 (by omega) (by omega) fresh v hv (by omega) _ rfl _ hR).mono fun e w' ⟨h1, h2⟩ => ⟨h1, no _ _ _ _ h2⟩⟩
    | yes s t => exact ⟨s, t, .nilIface, .inl rfl, fun w b g c v hm hv => (tree_PathR w hm hw root asid page 3 r0 r1 p0 p1 (by omega) (by omega) fresh v hv (by omega) _ rfl _ hR).mono fun e w' ⟨h1, h2⟩ => ⟨h1, h2⟩⟩
  · exact ⟨[], (0, 0), errW 1, .inr ⟨1, rfl⟩, fun w b g c v hm hv => (tree_Path_no w hm root asid page 3 v (by omega)).mono fun e w' ⟨h1, h2⟩ => ⟨h1, no _ _ _ 1 h2⟩⟩
def ToldPrune (s : List Step) (k : Nat) (ev : Value) (B : Nat) (w' : World) (e : Ending) : Prop := ∃ a cap a2 cap2, e = .returned (.tuple #[.slice a s.length cap, .slice a2 k cap2, ev]) ∧ OwnS w' B (.slice a s.length cap) s
theorem prune_any (n : Nat) (ws : List Int) (hw : WOk ws) (root asid page : Int) : ∃ (s : List Step) (k : Nat) (ev : Value), ErrOr ev ∧
    ∀ w b g c, MemAt w b g n c ws → Calls Try.prog 40 #[.pointer (some ⟨b, 0, none⟩), .int .i64 root, .int .i64 asid, .int .i64 page] w fun e w' => Ext w w' ∧ ToldPrune s k ev w.heap.size w' e := by
  have no : ∀ (B : Nat) (w' : World) (e : Ending) (k : Nat), PruneRet B w' (.no k) e → ToldPrune [] 0 (errW k) B w' e := fun B w' e k h => ⟨none, 0, none, 0, h, World.ownsRow_nil _ _ _ _⟩
  by_cases h : 0 ≤ root ∧ root < n ∧ 0 ≤ page ∧ page < 4096
  · obtain ⟨r0, r1, p0, p1⟩ := h
    cases hR : pruneRes ws asid page (wayAt ws n page 4 0 root) with
    | no k => exact ⟨[], 0, errW k, .inr ⟨k, rfl⟩, fun w b g c hm => (tree_Prune w hm hw root asid page r0 r1 p0 p1 _ rfl).mono fun e w' ⟨h1, h2⟩ => ⟨h1, no _ _ _ _ (hR ▸ h2)⟩⟩
    | yes s gone => exact ⟨s, gone.length, .nilIface, .inl rfl, fun w b g c hm => (tree_Prune w hm hw root asid page r0 r1 p0 p1 _ rfl).mono fun e w' ⟨h1, h2⟩ => ⟨h1, by
        rw [hR] at h2
        obtain ⟨a, cap, a2, cap2, he, ho, _⟩ := h2
        exact ⟨a, cap, a2, cap2, he, ho⟩⟩⟩
  · exact ⟨[], 0, errW 1, .inr ⟨1, rfl⟩, fun w b g c hm => (tree_Prune_no w hm root asid page h).mono fun e w' ⟨h1, h2⟩ => ⟨h1, no _ _ _ 1 h2⟩⟩
def ToldTabs (t : List Int) (ev : Value) (B : Nat) (w' : World) (e : Ending) : Prop := ∃ a cap, e = .returned (.tuple #[.slice a t.length cap, ev]) ∧ w'.ownsRow B 3 1 (.slice a t.length cap) t.length (t.map intC).flatten
theorem tabs_any (n : Nat) (ws : List Int) (hw : WOk ws) (root : Int) : ∃ (t : List Int) (ev : Value), ErrOr ev ∧ (0 < t.length → t[0]? = some root) ∧
    ∀ w b g c, MemAt w b g n c ws → Calls Try.prog 34 #[.pointer (some ⟨b, 0, none⟩), .int .i64 root] w fun e w' => Ext w w' ∧ ToldTabs t ev w.heap.size w' e := by
  by_cases h : 0 ≤ root ∧ root < n
  · obtain ⟨r0, r1⟩ := h
    cases hR : tabsAt ws n 4 0 root with
    | none => exact ⟨[], errW 2, .inr ⟨2, rfl⟩, fun h => absurd h (by simp), fun w b g c hm => (tree_Tables w hm hw root r0 r1 _ rfl).mono fun e w' ⟨h1, h2⟩ => ⟨h1, by rw [hR] at h2; exact ⟨none, 0, h2, World.ownsRow_nil _ _ _ _⟩⟩⟩
    | some t => exact ⟨t, .nilIface, .inl rfl, fun _ => tabs_head hR, fun w b g c hm => (tree_Tables w hm hw root r0 r1 _ rfl).mono fun e w' ⟨h1, h2⟩ => ⟨h1, by rw [hR] at h2; exact h2⟩⟩
  · exact ⟨[], errW 1, .inr ⟨1, rfl⟩, fun h => absurd h (by simp), fun w b g c hm => (tree_Tables_no w hm root h).mono fun e w' ⟨h1, h2⟩ => ⟨h1, none, 0, h2, World.ownsRow_nil _ _ _ _⟩⟩

end Go.Proofs.Ytapeoeakiphfpaa
