import Derived.Test.YtapeoeakiphfpaaBMorfBeds
import Derived.Test.YtapeoeakiphfpaaBSemwPathrPathtWipe
import Derived.Test.YtapeoeakiphfpaaBStepsSamePart
import Derived.Test.YtapeoeakiphfpaaPrune
import Derived.Test.YtapeoeakiphfpaaTabs
import Derived.Deep.QuietTactic
import Derived.BigQuiet
/- A slice that came in is appended to a row of the call's own. -/
namespace Go.Proofs.Ytapeoeakiphfpaa
open Go.RowKit
set_option linter.unusedVariables false
set_option linter.unusedSimpArgs false

theorem rd_news {w : World} {b o sz : Nat} {s : Option Nat} {css : List (List Value)} (hz : 0 < sz) (hcs : ∀ c ∈ css, c.length = sz)
    (h : ∀ i c j u, css[i]? = some c → c[j]? = some u → s = none ∧ w.cell? ⟨b, o + (i * sz + j), none⟩ = some u) : ∀ j u, css.flatten[j]? = some u → w.cell? ((⟨b, o, s⟩ : Addr).add j) = some u := by
  intro j u hu
  have hl : css.flatten.length = css.length * sz := by
    clear h hu
    induction css with
    | nil => simp
    | cons c t ih => rw [List.flatten_cons, List.length_append, ih (fun c hc => hcs c (.tail _ hc)), hcs c (.head _), List.length_cons, Nat.add_mul]; omega
  have hj : j < css.length * sz := by have := (List.getElem?_eq_some_iff.1 hu).1; omega
  have hi : j / sz < css.length := (Nat.div_lt_iff_lt_mul hz).2 hj
  have hr : j % sz < sz := Nat.mod_lt _ hz
  have hc : css[j / sz]? = some css[j / sz] := List.getElem?_eq_getElem hi
  have hlc : (css[j / sz]).length = sz := hcs _ (List.getElem_mem hi)
  have hu' : (css[j / sz])[j % sz]? = some (css[j / sz])[j % sz] := List.getElem?_eq_getElem (by omega)
  have hf := flatten_at sz css (j / sz) (j % sz) _ _ hcs hc hu'
  have e : j / sz * sz + j % sz = j := by rw [Nat.mul_comm]; exact Nat.div_add_mod j sz
  rw [e, hu] at hf
  obtain ⟨rfl, hcell⟩ := h _ _ _ _ hc hu'
  rw [e] at hcell
  have hadd : (⟨b, o, none⟩ : Addr).add j = ⟨b, o + j, none⟩ := by unfold Addr.add; split <;> simp_all
  rw [hadd, hcell, Option.some.inj hf]

theorem wpList_append_in {P : Program} (W : World) {w : World} {ops : Array Oper} {rest : List Oper} {o : Oper} {a : Act} {Q : Exit → Act → World → Prop} {t e : TypeId} {z : Value} {size bytes : Nat} (el : ElemAt P t e z size bytes)
    (hgd : o.guard = none) (s x : Operand) (ho : o.op = .call { callee := .builtin .append, args := #[s, x], argTypes := #[t, t] })
    (v : Value) (n : Nat) (xs : List Value) (hs : a.eval s = v) (hown : w.ownsRow W.heap.size e size v n xs) (hW : Ext W w)
    (v2 : Value) (css : List (List Value)) (hx : a.eval x = v2) (hrd : SlRd w v2 size css) (hcs : ∀ c ∈ css, c.length = size) (h1 : css.flatten.all Value.oneCell' = true) (hn : n + css.length ≤ 1000000)
    (h : ∀ v' x', Hid ((more W x').ownsRow W.heap.size e size v' (n + css.length) (xs ++ css.flatten)) → (∀ k ob, w.heap[k]? = some ob → v.ownBlock ≠ some k → (more W x').heap[k]? = some ob) → wpList P ops Q rest (a.put o.dst v') (more W x')) : wpList P ops Q (o :: rest) a w := by
  obtain ⟨i, hi, hz, h3, h4⟩ := info_parts el.info
  rcases hrd with ⟨rfl, rfl⟩ | ⟨b, of, s', cap, rfl, g1, g2, g3⟩
  · obtain ⟨x', rfl⟩ := hW
    refine wpList_append_own_none hgd s x t ho W.heap.size e i size el.sl hi v n xs hs hown hx ?_
    exact h v x' (show World.ownsRow _ _ _ _ _ _ _ by simpa using hown) (fun k ob hk _ => hk)
  · have hb : (n + css.length) * bytes ≤ 1000000 * 1000 := Nat.mul_le_mul hn el.small
    have hl : css.flatten.length = css.length * size := by
      clear h hx g1 g3 hn hb h1
      induction css with
      | nil => simp
      | cons c t ih => rw [List.flatten_cons, List.length_append, ih (fun c hc => hcs c (.tail _ hc)), hcs c (.head _), List.length_cons, Nat.add_mul]; omega
    refine wpList_append_own w hgd s x t ho W.heap.size e i z size bytes el.sl hi hz h3 h4 el.zs el.pos v n xs hs hown ⟨b, of, s'⟩ css.length cap css.flatten hx hl
      (rd_news el.pos hcs g3) (by intro u hu; exact List.all_eq_true.1 h1 u hu) (by unfold maxLen; omega) (by omega) hW.size ?_
    intro v' w' ho' hg' _
    obtain ⟨x', rfl⟩ := more_of_grow (grow_row hW.grow hown hg')
    exact h v' x' ho' fun k ob hk hne => (hg'.block k (Array.getElem?_eq_some_iff.1 hk).1 (fun e => hne e.symm)).trans hk
theorem ints_flat (l : List Int) : (l.map intCells).flatten.all Value.oneCell' = true := all_flat intCells _ (fun a => rfl) l
theorem ints_one (l : List Int) : ∀ c ∈ l.map intCells, c.length = 1 := by
  intro c hc
  obtain ⟨x, _, rfl⟩ := List.mem_map.1 hc
  rfl

end Go.Proofs.Ytapeoeakiphfpaa

/- The contract of paviorref12.Same once more: it only draws. -/
namespace Go.Proofs.Ytapeoeakiphfpaa
open Go.RowKit
set_option linter.unusedVariables false
set_option linter.unusedSimpArgs false
attribute [local go_sem] setCell_drewN alloc_drewN lt_moreE le_moreE lt_moreK le_moreK cell_more frozen_more set_more drew_more drewN_more

set_option maxRecDepth 100000 in
set_option maxHeartbeats 4000000 in
theorem ref12_SameQ (w : World) {B1 B2 : Nat} {a1 a2 : Option Addr} {c1 c2 : Nat} {s : List Step} (HO1 : OwnS w B1 (.slice a1 s.length c1) s) (HO2 : OwnS w B2 (.slice a2 s.length c2) s) :
    Calls Try.prog 70 #[.slice a1 s.length c1, .slice a2 s.length c2] w fun e w' => e = .returned (.bool true) ∧ ∃ m, w' = w.drewN m := by
  have hc1 := own_cap HO1
  have hc2 := own_cap HO2
  have HA1 := Lib.hid (own_at HO1)
  have HA2 := Lib.hid (own_at HO2)
  have hm1 : c1 ≤ 9223372036854775807 := by have := hc1.2.2; unfold maxLen at this; exact this
  have hm2 : c2 ≤ 9223372036854775807 := by have := hc2.2.2; unfold maxLen at this; exact this
  have hs1 := hc1.2.1
  have hs2 := hc2.2.1
  clear HO1 HO2 hc1 hc2
  go_enter Try.func70, Try.ntmps70
  go_wp2_with fail
  go_loopw [5] (fun i wr => ∃ q : Nat, q ≤ s.length ∧ i = .int .i64 q ∧ ∃ m, wr = w.drewN m) (fun i _ => s.length - (intOf i).toNat)
  case atStart => exact ⟨0, by omega, rfl, 0, rfl⟩
  case round =>
    obtain ⟨q, hq, rfl, m, rfl⟩ := hrel
    by_cases hlt : q < s.length
    · obtain ⟨g1, rfl, _, hg1, _, hx1, _⟩ := HA1.out (by omega)
      obtain ⟨g2, rfl, _, hg2, _, hx2, _⟩ := HA2.out (by omega)
      have hz : s[q]? = some s[q] := List.getElem?_eq_getElem hlt
      obtain ⟨x0, x1, x2, x3, x4, x5, x6, x7, x8, x9⟩ := step_at hx1 q _ hz
      obtain ⟨y0, y1, y2, y3, y4, y5, y6, y7, y8, y9⟩ := step_at hx2 q _ hz
      generalize s[q] = z at *
      obtain ⟨F0, F1, F2, F3, F4, F5, F6, F7, F8, F9⟩ := z
      clear hz hx1 hx2 HA1 HA2
      go_wp2_with fail
      go_region
      all_goals go_wp2_with fail
      go_roundw
      case rel => exact ⟨q + 1, by omega, by go_num, m + 1, rfl⟩
      case measure => simp [intOf]; omega
    · obtain rfl : q = s.length := by omega
      go_wp2_with fail
      go_ret
      exact ⟨rfl, m, rfl⟩

end Go.Proofs.Ytapeoeakiphfpaa

/- The law paviorlaw12.TreeStays. -/
namespace Go.Proofs.Ytapeoeakiphfpaa
open Go.RowKit
set_option linter.unusedVariables false
set_option linter.unusedSimpArgs false
attribute [local go_sem] setCell_drewN alloc_drewN lt_moreE le_moreE lt_moreK le_moreK cell_more frozen_more set_more drew_more drewN_more

theorem tabs_head {ws : List Int} {n : Int} {k : Nat} {level t : Int} {r : List Int} (h : tabsAt ws n (k + 1) level t = some r) : r[0]? = some t := by
  by_cases ht : 0 ≤ t ∧ t < n
  · rw [tabsAt_in ht] at h
    have key : ∀ (j i : Nat), i + j = 8 → ∀ (l r : List Int), tabsFrom ws n k level t i l = some r → ∃ m, r = l ++ m := by
      intro j
      induction j with
      | zero =>
        intro i hi l r hr
        obtain rfl : i = 8 := by omega
        rw [tabsFrom_end] at hr
        cases hr
        exact ⟨[], by simp⟩
      | succ j ihj =>
        intro i hi l r hr
        by_cases hk : (decD level (ws.getD (t.toNat * 8 + i) 0)).fKind = 1
        · cases hm : tabsAt ws n k (level + 1) (decD level (ws.getD (t.toNat * 8 + i) 0)).fFrame with
          | none => rw [tabsFrom_no (by omega) rfl hk hm] at hr; cases hr
          | some m =>
            rw [tabsFrom_go (by omega) rfl hk hm] at hr
            obtain ⟨m', rfl⟩ := ihj (i + 1) (by omega) _ _ hr
            exact ⟨m ++ m', by simp⟩
        · rw [tabsFrom_skip (by omega) rfl hk] at hr
          exact ihj (i + 1) (by omega) _ _ hr
    obtain ⟨m, rfl⟩ := key 8 0 rfl [t] r h
    rfl
  · rw [tabsAt_out ht] at h; cases h

def ErrOr (ev : Value) : Prop := ev = .nilIface ∨ ∃ k : Nat, ev = errW k
theorem err_nil {ev : Value} (h : ErrOr ev) : ∃ b : Bool, (∀ w, (binOp .eql 27 ev .nilIface).run Try.prog w = .ok (.bool b) w) ∧ ∀ x c w, (eqGuard .eql 27 x (.const c) ev .nilIface).run Try.prog w = .ok () w := by
  have h1 : ∀ (w : World) (d : Nat) (tp : TypeId) (v : Value), (Op.equalIn (d + 1) 27 (.iface tp v) .nilIface).run Try.prog w = .ok false w := fun w d tp v => by simp [Op.equalIn, run_underlying Try.underlying27]
  have h2 : ∀ (w : World) (d : Nat), (Op.equalIn (d + 1) 27 .nilIface .nilIface).run Try.prog w = .ok true w := fun w d => by simp [Op.equalIn, run_underlying Try.underlying27]
  rcases h with rfl | ⟨k, rfl⟩
  · exact ⟨true, fun w => by simp only [binOp]; simp [Op.equal, Op.maxDepth, h2 w 9999], fun x c w => by simp [eqGuard]⟩
  · exact ⟨false, fun w => by simp only [binOp]; simp [Op.equal, Op.maxDepth, h1 w 9999], fun x c w => by simp [eqGuard]⟩
def ToldPath (s : List Step) (t : Int × Int) (ev : Value) (B : Nat) (w' : World) (e : Ending) : Prop := ∃ a cap, e = .returned (.tuple #[.slice a s.length cap, .agg #[.int .i64 t.1, .int .i64 t.2], ev]) ∧ OwnS w' B (.slice a s.length cap) s
theorem path_any (n : Nat) (ws : List Int) (hw : WOk ws) (root asid page : Int) (fresh : List Int) (hfl : fresh.length ≤ 20) : ∃ (s : List Step) (t : Int × Int) (ev : Value), ErrOr ev ∧
    ∀ w b g c v, MemAt w b g n c ws → SlRd w v 1 (fresh.map intCells) → Calls Try.prog 35 #[.pointer (some ⟨b, 0, none⟩), .int .i64 root, .int .i64 asid, .int .i64 page, .int .i64 3, v] w fun e w' => Ext w w' ∧ ToldPath s t ev w.heap.size w' e := by
  have no : ∀ (B : Nat) (w' : World) (e : Ending) (k : Nat), PathRet B w' (.no k) e → ToldPath [] (0, 0) (errW k) B w' e := fun B w' e k h => ⟨none, 0, h, World.ownsRow_nil _ _ _ _⟩
  by_cases h : 0 ≤ root ∧ root < n ∧ 0 ≤ page ∧ page < 4096
  · obtain ⟨r0, r1, p0, p1⟩ := h
    cases hR : pathRes n asid page 3 fresh (wayAt ws n page (3 + 1) 0 root) with
    | no k => exact ⟨[], (0, 0), errW k, .inr ⟨k, rfl⟩, fun w b g c v hm hv => (tree_PathR w hm hw root asid page 3 r0 r1 p0 p1 (by omega) (by omega) fresh v hv (by omega) _ rfl _ hR).mono fun e w' ⟨h1, h2⟩ => ⟨h1, no _ _ _ _ h2⟩⟩
    | yes s t => exact ⟨s, t, .nilIface, .inl rfl, fun w b g c v hm hv => (tree_PathR w hm hw root asid page 3 r0 r1 p0 p1 (by omega) (by omega) fresh v hv (by omega) _ rfl _ hR).mono fun e w' ⟨h1, h2⟩ => ⟨h1, h2⟩⟩
  · exact ⟨[], (0, 0), errW 1, .inr ⟨1, rfl⟩, fun w b g c v hm hv => (tree_Path_no w hm root asid page 3 v (by omega)).mono fun e w' ⟨h1, h2⟩ => ⟨h1, no _ _ _ 1 h2⟩⟩
def ToldPrune (s : List Step) (k : Nat) (ev : Value) (B : Nat) (w' : World) (e : Ending) : Prop := ∃ a cap a2 cap2, e = .returned (.tuple #[.slice a s.length cap, .slice a2 k cap2, ev]) ∧ OwnS w' B (.slice a s.length cap) s
theorem prune_any (n : Nat) (ws : List Int) (hw : WOk ws) (root asid page : Int) : ∃ (s : List Step) (k : Nat) (ev : Value), ErrOr ev ∧
    ∀ w b g c, MemAt w b g n c ws → Calls Try.prog 40 #[.pointer (some ⟨b, 0, none⟩), .int .i64 root, .int .i64 asid, .int .i64 page] w fun e w' => Ext w w' ∧ ToldPrune s k ev w.heap.size w' e := by
  have no : ∀ (B : Nat) (w' : World) (e : Ending) (k : Nat), PruneRet B w' (.no k) e → ToldPrune [] 0 (errW k) B w' e := fun B w' e k h => ⟨none, 0, none, 0, h, World.ownsRow_nil _ _ _ _⟩
  by_cases h : 0 ≤ root ∧ root < n ∧ 0 ≤ page ∧ page < 4096
  · obtain ⟨r0, r1, p0, p1⟩ := h
    cases hR : pruneRes ws asid page (wayAt ws n page 4 0 root) with
    | no k => exact ⟨[], 0, errW k, .inr ⟨k, rfl⟩, fun w b g c hm => (tree_Prune w hm hw root asid page r0 r1 p0 p1 _ rfl).mono fun e w' ⟨h1, h2⟩ => ⟨h1, no _ _ _ _ (hR ▸ h2)⟩⟩
    | yes s gone => exact ⟨s, gone.length, .nilIface, .inl rfl, fun w b g c hm => (tree_Prune w hm hw root asid page r0 r1 p0 p1 _ rfl).mono fun e w' ⟨h1, h2⟩ => ⟨h1, by
        rw [hR] at h2
        obtain ⟨a, cap, a2, cap2, he, ho, _⟩ := h2
        exact ⟨a, cap, a2, cap2, he, ho⟩⟩⟩
  · exact ⟨[], 0, errW 1, .inr ⟨1, rfl⟩, fun w b g c hm => (tree_Prune_no w hm root asid page h).mono fun e w' ⟨h1, h2⟩ => ⟨h1, no _ _ _ 1 h2⟩⟩
def ToldTabs (t : List Int) (ev : Value) (B : Nat) (w' : World) (e : Ending) : Prop := ∃ a cap, e = .returned (.tuple #[.slice a t.length cap, ev]) ∧ w'.ownsRow B 3 1 (.slice a t.length cap) t.length (t.map intC).flatten
theorem tabs_any (n : Nat) (ws : List Int) (hw : WOk ws) (root : Int) : ∃ (t : List Int) (ev : Value), ErrOr ev ∧ (0 < t.length → t[0]? = some root) ∧
    ∀ w b g c, MemAt w b g n c ws → Calls Try.prog 34 #[.pointer (some ⟨b, 0, none⟩), .int .i64 root] w fun e w' => Ext w w' ∧ ToldTabs t ev w.heap.size w' e := by
  by_cases h : 0 ≤ root ∧ root < n
  · obtain ⟨r0, r1⟩ := h
    cases hR : tabsAt ws n 4 0 root with
    | none => exact ⟨[], errW 2, .inr ⟨2, rfl⟩, fun h => absurd h (by simp), fun w b g c hm => (tree_Tables w hm hw root r0 r1 _ rfl).mono fun e w' ⟨h1, h2⟩ => ⟨h1, by rw [hR] at h2; exact ⟨none, 0, h2, World.ownsRow_nil _ _ _ _⟩⟩⟩
    | some t => exact ⟨t, .nilIface, .inl rfl, fun _ => tabs_head hR, fun w b g c hm => (tree_Tables w hm hw root r0 r1 _ rfl).mono fun e w' ⟨h1, h2⟩ => ⟨h1, by rw [hR] at h2; exact h2⟩⟩
  · exact ⟨[], errW 1, .inr ⟨1, rfl⟩, fun h => absurd h (by simp), fun w b g c hm => (tree_Tables_no w hm root h).mono fun e w' ⟨h1, h2⟩ => ⟨h1, none, 0, h2, World.ownsRow_nil _ _ _ _⟩⟩

end Go.Proofs.Ytapeoeakiphfpaa

/- Path, Prune, Tables and Need of any arguments whatever; no number twice in a list. -/
namespace Go.Proofs.Ytapeoeakiphfpaa
open Go.RowKit
set_option linter.unusedVariables false
set_option linter.unusedSimpArgs false
attribute [local go_sem] setCell_drewN alloc_drewN lt_moreE le_moreE lt_moreK le_moreK cell_more frozen_more set_more drew_more drewN_more

def tabsQ (ws : List Int) (n : Nat) (root : Int) : Option (List Int) := if 0 ≤ root ∧ root < n then tabsAt ws n 4 0 root else none
def TabsQ (B : Nat) (w' : World) (r : Option (List Int)) (e : Ending) : Prop := match r with
  | some s => ∃ a cap, e = .returned (.tuple #[.slice a s.length cap, .nilIface]) ∧ w'.ownsRow B 3 1 (.slice a s.length cap) s.length (s.map intC).flatten
  | none => ∃ k : Nat, e = .returned (.tuple #[.slice none 0 0, errW k])
theorem tree_TablesQ (w : World) {b g n c : Nat} {ws : List Int} (hm : MemAt w b g n c ws) (hw : WOk ws) (root : Int) (r : Option (List Int)) (hr : tabsQ ws n root = r) :
    Calls Try.prog 34 #[.pointer (some ⟨b, 0, none⟩), .int .i64 root] w fun e w' => Ext w w' ∧ TabsQ w.heap.size w' r e := by
  unfold tabsQ at hr
  by_cases h : 0 ≤ root ∧ root < n
  · rw [if_pos h] at hr
    refine (tree_Tables w hm hw root h.1 h.2 r hr).mono fun e w' ⟨h1, h2⟩ => ⟨h1, ?_⟩
    cases r with
    | none => exact ⟨2, h2⟩
    | some s => exact h2
  · rw [if_neg h] at hr
    subst hr
    exact (tree_Tables_no w hm root h).mono fun e w' ⟨h1, h2⟩ => ⟨h1, 1, h2⟩
theorem tabsQ_some {ws : List Int} {n : Nat} {root : Int} {s : List Int} (h : tabsQ ws n root = some s) : 0 ≤ root ∧ root < n ∧ tabsAt ws n 4 0 root = some s := by
  unfold tabsQ at h
  split at h
  · rename_i h1; exact ⟨h1.1, h1.2, h⟩
  · cases h
def pathQ (ws : List Int) (n : Nat) (root asid page level : Int) (fresh : List Int) : PathR :=
  if 0 ≤ root ∧ root < n ∧ 0 ≤ page ∧ page < 4096 ∧ 1 ≤ level ∧ level < 4 then pathRes n asid page level.toNat fresh (wayAt ws n page (level.toNat + 1) 0 root) else .no 1
theorem tree_PathQ (w : World) {b g n c : Nat} {ws : List Int} (hm : MemAt w b g n c ws) (hw : WOk ws) (root asid page level : Int) (fresh : List Int) (v : Value) (hv : SlRd w v 1 (fresh.map intCells)) (hfl : fresh.length ≤ 1000) (R : PathR) (hR : pathQ ws n root asid page level fresh = R) :
    Calls Try.prog 35 #[.pointer (some ⟨b, 0, none⟩), .int .i64 root, .int .i64 asid, .int .i64 page, .int .i64 level, v] w fun e w' => Ext w w' ∧ PathRet w.heap.size w' R e := by
  unfold pathQ at hR
  by_cases h : 0 ≤ root ∧ root < n ∧ 0 ≤ page ∧ page < 4096 ∧ 1 ≤ level ∧ level < 4
  · rw [if_pos h] at hR
    obtain ⟨L, rfl⟩ := Int.eq_ofNat_of_zero_le (show 0 ≤ level by omega)
    exact tree_PathR w hm hw root asid page L (by omega) (by omega) (by omega) (by omega) (by omega) (by omega) fresh v hv hfl _ rfl R hR
  · rw [if_neg h] at hR
    subst hR
    exact tree_Path_no w hm root asid page level v h
theorem pathQ_yes {ws : List Int} {n : Nat} {root asid page level : Int} {fresh : List Int} {st : List Step} {t : Int × Int} (h : pathQ ws n root asid page level fresh = .yes st t) :
    ∃ L : Nat, level = L ∧ 0 ≤ root ∧ root < n ∧ 0 ≤ page ∧ page < 4096 ∧ 1 ≤ L ∧ L < 4 ∧ pathRes n asid page L fresh (wayAt ws n page (L + 1) 0 root) = .yes st t := by
  unfold pathQ at h
  split at h
  · rename_i h1
    obtain ⟨L, rfl⟩ := Int.eq_ofNat_of_zero_le (show 0 ≤ level by omega)
    exact ⟨L, rfl, by omega, by omega, by omega, by omega, by omega, by omega, h⟩
  · cases h
def pruneQ (ws : List Int) (n : Nat) (root asid page : Int) : PruneR :=
  if 0 ≤ root ∧ root < n ∧ 0 ≤ page ∧ page < 4096 then pruneRes ws asid page (wayAt ws n page 4 0 root) else .no 1
theorem tree_PruneQ (w : World) {b g n c : Nat} {ws : List Int} (hm : MemAt w b g n c ws) (hw : WOk ws) (root asid page : Int) (R : PruneR) (hR : pruneQ ws n root asid page = R) :
    Calls Try.prog 40 #[.pointer (some ⟨b, 0, none⟩), .int .i64 root, .int .i64 asid, .int .i64 page] w fun e w' => Ext w w' ∧ PruneRet w.heap.size w' R e := by
  unfold pruneQ at hR
  by_cases h : 0 ≤ root ∧ root < n ∧ 0 ≤ page ∧ page < 4096
  · rw [if_pos h] at hR
    subst hR
    exact tree_Prune w hm hw root asid page h.1 h.2.1 h.2.2.1 h.2.2.2 _ rfl
  · rw [if_neg h] at hR
    subst hR
    exact tree_Prune_no w hm root asid page h
theorem pruneQ_yes {ws : List Int} {n : Nat} {root asid page : Int} {st : List Step} {gone : List Int} (h : pruneQ ws n root asid page = .yes st gone) :
    0 ≤ root ∧ root < n ∧ 0 ≤ page ∧ page < 4096 ∧ pruneRes ws asid page (wayAt ws n page 4 0 root) = .yes st gone := by
  unfold pruneQ at h
  split at h
  · rename_i h1; exact ⟨h1.1, h1.2.1, h1.2.2.1, h1.2.2.2, h⟩
  · cases h
/-- No two of the first k are the same. -/
def Unlike (l : List Int) (k : Nat) : Prop := ∀ i j : Nat, i < j → j < k → l.getD i 0 ≠ l.getD j 0
/-- The k-th is none of the first q. -/
def UnlikeAt (l : List Int) (k q : Nat) : Prop := ∀ i : Nat, i < q → l.getD i 0 ≠ l.getD k 0
theorem unlike_zero (l : List Int) : Unlike l 0 := fun i j _ h => absurd h (by omega)
theorem unlikeAt_zero (l : List Int) (k : Nat) : UnlikeAt l k 0 := fun i h => absurd h (by omega)
theorem unlikeAt_succ {l : List Int} {k q : Nat} (h : UnlikeAt l k q) (hne : l.getD q 0 ≠ l.getD k 0) : UnlikeAt l k (q + 1) := by
  intro i hi
  by_cases e : i = q
  · subst e; exact hne
  · exact h i (by omega)
theorem unlike_succ {l : List Int} {k : Nat} (h : Unlike l k) (hk : UnlikeAt l k k) : Unlike l (k + 1) := by
  intro i j hij hj
  by_cases e : j = k
  · subst e; exact hk i hij
  · exact h i j hij (by omega)
theorem unlike_nodup {l : List Int} (h : Unlike l l.length) : l.Nodup := by
  rw [List.nodup_iff_pairwise_ne, List.pairwise_iff_getElem]
  intro i j hi hj hij
  have := h i j hij hj
  simpa [List.getD, List.getElem?_eq_getElem hi, List.getElem?_eq_getElem hj] using this
theorem ints_cell {w : World} {B n cap : Nat} {a : Option Addr} {l : List Int} (h : w.ownsRow B 3 1 (.slice a n cap) n (l.map intC).flatten) (hn : 0 < n) (hl : n = l.length) : ∃ g, a = some ⟨g, 0, none⟩ ∧ B ≤ g ∧ g < w.heap.size ∧ n ≤ cap ∧ cap ≤ maxLen ∧ ∀ i, i < n → w.cell? ⟨g, i, none⟩ = some (.int .i64 (l.getD i 0)) := by
  have hc := own_cap h
  obtain ⟨g, rfl, h1, h2, h3, h4, _⟩ := own_at h hn
  refine ⟨g, rfl, h1, h2, h3, hc.2.2, fun i hi => h4 i _ (flat_one (fun x => Value.int .i64 x) l i _ ?_)⟩
  rw [List.getElem?_eq_getElem (by omega)]
  simp [List.getD, List.getElem?_eq_getElem (show i < l.length by omega)]

end Go.Proofs.Ytapeoeakiphfpaa

/- Plain laws behind TreeBack: Prune takes away what Path laid. -/
namespace Go.Proofs.Ytapeoeakiphfpaa
open Go.RowKit
set_option linter.unusedVariables false
set_option linter.unusedSimpArgs false

/-- A step that writes or clears, at a place that is there. -/
def StepIn (n : Nat) (s : Step) : Prop := (s.fKind = 4 ∧ 0 ≤ s.fTo ∧ s.fTo < n) ∨ (s.fKind = 1 ∧ 0 ≤ s.fTable ∧ s.fTable < n ∧ 0 ≤ s.fPlace ∧ s.fPlace < 8)
theorem pathS_in {n : Nat} (asid page : Int) : ∀ (fs : List Int) (l : Nat) (tb pl : Int), (∀ f ∈ fs, 0 ≤ f ∧ f < n) → 0 ≤ tb → tb < n → 0 ≤ pl → pl < 8 → ∀ s ∈ (pathS asid page l tb pl fs).1, StepIn n s := by
  intro fs
  induction fs with
  | nil => intro l tb pl _ _ _ _ _ s hs; cases hs
  | cons f fs ih =>
    intro l tb pl hf t0 t1 p0 p1 s hs
    simp only [pathS, List.mem_cons] at hs
    have h0 := hf f (.head _)
    rcases hs with rfl | rfl | hs
    · exact .inl ⟨rfl, h0⟩
    · exact .inr ⟨rfl, t0, t1, p0, p1⟩
    · exact ih _ _ _ (fun x hx => hf x (.tail _ hx)) h0.1 h0.2 (placeN_lo _ _) (by have := placeN_hi ((l + 1 : Nat) : Int) page; simpa using this) s hs
/-- Where all tables are there, so is each way. -/
theorem tabs_way {ws : List Int} {n : Nat} {page : Int} : ∀ (k : Nat) (lv tb : Int) (r : List Int), tabsAt ws n (k + 1) lv tb = some r → ∃ z, wayAt ws n page (k + 1) lv tb = some z := by
  intro k
  induction k with
  | zero =>
    intro lv tb r h
    rw [wayAt_in rfl rfl rfl]
    split
    · exact ⟨_, rfl⟩
    · rename_i h1; simp at h1
  | succ k ih =>
    intro lv tb r h
    obtain ⟨ht, f, rfl, hf⟩ := tabs_parts h
    rw [wayAt_in rfl rfl rfl]
    split
    · exact ⟨_, rfl⟩
    · rename_i h1
      have hk : (decD lv (ws.getD (tb.toNat * 8 + (placeN lv page).toNat) 0)).fKind = 1 := Classical.byContradiction fun hh => h1 (.inr hh)
      have hm := hf _ (placeN_nat lv page) hk
      obtain ⟨z, hz⟩ := ih _ _ _ hm
      rw [if_pos (tabs_parts hm).1, hz]
      exact ⟨_, rfl⟩
theorem path_back {ws : List Int} {n L : Nat} {root page : Int} {fresh r : List Int} {st : List Step} {t : Int × Int} (hn : n ≤ 512) (hw : ws.length = n * 8) (r0 : 0 ≤ root) (r1 : root < n) (p0 : 0 ≤ page) (p1 : page < 4096) (l1 : L < 4) (hr : tabsAt ws n 4 0 root = some r) (hnd : (r ++ fresh).Nodup)
    (hR : pathRes n 1 page L fresh (wayAt ws n page (L + 1) 0 root) = .yes st t) :
    (∀ s ∈ st, StepIn n s) ∧ st.length / 2 ≤ fresh.length ∧ ∃ sp gone, pruneQ (doW n ws st) n root 1 page = .yes sp gone ∧ gone.length ≤ 10 ∧ ∀ i, i < st.length / 2 → fresh.getD i 0 ∈ gone := by
  obtain ⟨s, d, hs, rfl, hd, hf, hl, _, _⟩ := path_parts hR
  obtain ⟨q0, q1⟩ := wayAt_len _ _ _ _ _ hs
  have hfs : (fresh.take (L + 1 - s.length)).length = L + 1 - s.length := by rw [List.length_take]; omega
  have hnd' : (r ++ fresh.take (L + 1 - s.length)).Nodup := by
    obtain ⟨a, b, c⟩ := List.nodup_append.1 hnd
    exact List.nodup_append.2 ⟨a, b.sublist (List.take_sublist _ _), fun x hx y hy => c x hx y ((List.take_sublist _ _).subset hy)⟩
  have hin : ∀ f ∈ fresh.take (L + 1 - s.length), 0 ≤ f ∧ f < n := fun f h => hf f ((List.take_sublist _ _).subset h)
  have hB := path_behind (asid := 1) hn hw r0 r1 l1 hr hnd' hs (fun h => hd fun h0 => h (List.eq_nil_of_length_eq_zero (by omega))) (by omega) hin
  have hlen := pathS_len 1 page (fresh.take (L + 1 - s.length)) (s.length - 1) (lastS s).1 (lastS s).2
  have hz : s[s.length - 1]? = some (lastS s) := by unfold lastS; rw [List.getD_eq_getElem?_getD, List.getElem?_eq_getElem (by omega)]; rfl
  obtain ⟨hsee, hpl, _⟩ := way_sees _ _ _ _ _ r0 r1 hs _ _ hz
  obtain ⟨_, _, T0, T1⟩ := sees_lo _ _ _ _ _ hsee
  have hp0 := placeN_lo (0 + ((s.length - 1 : Nat) : Int)) page
  have hp1 := placeN_hi (0 + ((s.length - 1 : Nat) : Int)) page
  rw [← hpl] at hp0 hp1
  have hIn := pathS_in (n := n) 1 page (fresh.take (L + 1 - s.length)) (s.length - 1) (lastS s).1 (lastS s).2 hin T0 T1 hp0 hp1
  have hsl : (pathS 1 page (s.length - 1) (lastS s).1 (lastS s).2 (fresh.take (L + 1 - s.length))).1.length / 2 = L + 1 - s.length := by omega
  refine ⟨hIn, by omega, ?_⟩
  rw [hsl]
  unfold pruneQ
  rw [if_pos ⟨r0, r1, p0, p1⟩]
  by_cases h0 : fresh.take (L + 1 - s.length) = []
  · rw [h0]
    rw [h0] at hfs
    simp only [List.length_nil] at hfs
    show ∃ sp gone, pruneRes ws 1 page (wayAt ws n page 4 0 root) = _ ∧ _
    obtain ⟨⟨s2, d2⟩, hz2⟩ := tabs_way (page := page) _ _ _ _ hr
    rw [hz2]
    have h4 := wayAt_len _ _ _ _ _ hz2
    refine ⟨_, _, rfl, ?_, fun i hi => by omega⟩
    have := pruneG_len ws 1 page s2 (s2.length - 1) (-1)
    omega
  · have hway := hB.way (4 - (L + 1)) (by omega) h0
    rw [show s.length + (fresh.take (L + 1 - s.length)).length + (4 - (L + 1)) = 4 by omega] at hway
    rw [hway]
    refine ⟨_, _, rfl, ?_, fun i hi => ?_⟩
    · have := pruneG_len (doW n ws (pathS 1 page (s.length - 1) (lastS s).1 (lastS s).2 (fresh.take (L + 1 - s.length))).1) 1 page (s ++ chainS page (s.length : Int) (fresh.take (L + 1 - s.length))) ((s ++ chainS page (s.length : Int) (fresh.take (L + 1 - s.length))).length - 1) (-1)
      rw [List.length_append, chainS_len] at this ⊢
      omega
    · have hb := prune_back (us := doW n ws (pathS 1 page (s.length - 1) (lastS s).1 (lastS s).2 (fresh.take (L + 1 - s.length))).1) (asid := 1) (page := page) (pre := s) _ (fresh.take (L + 1 - s.length)) rfl (-1) _ (s.length : Int) ⟨[], by simp, fun h => absurd rfl h⟩ hB.chain rfl q0 (fresh.getD i 0) (by
        rw [List.getD_eq_getElem?_getD, List.getElem?_eq_getElem (by omega)]
        simp only [Option.getD_some]
        exact List.mem_take_iff_getElem.2 ⟨i, by omega, rfl⟩)
      rw [show s.length + (fresh.take (L + 1 - s.length)).length - 1 = (s ++ chainS page (s.length : Int) (fresh.take (L + 1 - s.length))).length - 1 by rw [List.length_append, chainS_len]] at hb
      exact hb

end Go.Proofs.Ytapeoeakiphfpaa
