import Derived.Test.YtapeoeakiphfpaaMore
import Derived.Test.YtapeoeakiphfpaaReff
import Derived.Test.YtapeoeakiphfpaaBLayPlainPagw
import Derived.Test.YtapeoeakiphfpaaBMorfBeds
import Derived.Test.YtapeoeakiphfpaaWhole
/- The contract of paviorlaw00.Code: which error's number. -/
namespace Go.Proofs.Ytapeoeakiphfpaa
open Go.RowKit
set_option linter.unusedVariables false
set_option linter.unusedSimpArgs false
attribute [local go_sem] setCell_drewN alloc_drewN lt_moreE le_moreE lt_moreK le_moreK cell_more frozen_more set_more drew_more drewN_more

set_option maxHeartbeats 400000 in
theorem law00_Code_nil (w : World) : Calls Try.prog 69 #[.nilIface] w fun e w' => e = .returned (.int .i64 0) ∧ w' = w := by
  go_enter Try.func69, Try.ntmps69
  go_wp2
  go_ret
  exact ⟨rfl, rfl⟩

set_option maxHeartbeats 1000000 in
theorem law00_Code (w : World) (k : Nat) (h1 : 1 ≤ k) (h2 : k ≤ 8) : Calls Try.prog 69 #[errW k] w fun e w' => e = .returned (.int .i64 k) ∧ w' = w := by
  have heq := fun (w : World) (a b : Int) => eql_err w a b
  have HEQ := Lib.hid heq
  clear heq
  go_enter Try.func69, Try.ntmps69
  go_wp2_with fail
  go_loop [3] (fun c => ∃ j : Nat, 1 ≤ j ∧ j ≤ k ∧ c = .int .i64 j) (fun c => (9 - intOf c).toNat)
  case atStart => exact ⟨1, by omega, h1, rfl⟩
  case round =>
    obtain ⟨j, hj1, hj2, rfl⟩ := hrel
    have he := fun w => HEQ.out w k j
    by_cases h : k = j
    · subst h
      have hb : ((k : Int) == (k : Int)) = true := by simp
      rw [hb] at he
      clear hb
      go_wp2
      go_ret
      exact ⟨rfl, rfl⟩
    · have hb : ((k : Int) == (j : Int)) = false := by simp; omega
      rw [hb] at he
      clear hb
      go_wp2
      go_round
      case rel => exact ⟨j + 1, by omega, by omega, by go_num⟩
      case measure => simp [intOf]; omega

end Go.Proofs.Ytapeoeakiphfpaa

/- The law paviorlaw04.WalkFinds. -/
namespace Go.Proofs.Ytapeoeakiphfpaa
open Go.RowKit
set_option linter.unusedVariables false
set_option linter.unusedSimpArgs false
attribute [local go_sem] setCell_drewN alloc_drewN lt_moreE le_moreE lt_moreK le_moreK cell_more frozen_more set_more drew_more drewN_more

theorem lay_ext (w : World) (fr : Int) (hfr : (Lit.int .i64 fr).wf = true) (l : List Laid) (hl : ∀ d ∈ l, d.wf) (v : Value) (hv : SlRd w v 3 (l.map Laid.cells)) :
    Calls Try.prog 33 #[.int .i64 fr, v] w fun e w' => ∃ b g h hc gb gc, e = .returned (.tuple #[.pointer (some ⟨b, 0, none⟩), .slice (some ⟨h, 0, none⟩) (layN fr) hc]) ∧
      MemAt w' b g (layN fr) (layN fr) (layW (layN fr) l) ∧ RefAt w' h hc (layN fr) gb gc (layW (layN fr) l) ∧ Ext w w' :=
  (law04_Lay w fr hfr l hl v hv).mono fun _ _ ⟨b, g, h, hc, gb, gc, he, hm, hr, hg, _⟩ => ⟨b, g, h, hc, gb, gc, he, hm, hr, .of hg⟩
theorem ref04_Walk {w : World} {h hc n : Nat} {gb gc : Nat → Nat} {us : List Int} (hr : RefAt w h hc n gb gc us) (hw : WOk us) (root page : Int) (p0 : 0 ≤ page) (p1 : page < 4096) (r : Option Found) (hres : walkAt us n page 4 0 root = r) :
    Calls Try.prog 45 #[.slice (some ⟨h, 0, none⟩) n hc, .int .i64 root, .int .i64 page] w fun e w' => Ext w w' ∧ e = .returned (refV r) := by
  have HR := Lib.hid hr
  have HA := Lib.hid (fun w hr => ref04_at (h := h) (hc := hc) (n := n) (gb := gb) (gc := gc) hw page p0 p1 4 w hr 0 root (by omega) (by omega) (by omega))
  rw [hres] at HA
  clear hr hw hres
  cases r with
  | none =>
    go_enter Try.func45, Try.ntmps45
    go_wp2_with (go_at_call 94; refine (HA.out _ (by repeat (first | exact HR.out | apply RefAt.more | apply RefAt.alloc | apply RefAt.drew | apply RefAt.drewN))).mono ?_; rintro e w' ⟨⟨ex1, rfl⟩, rfl⟩; rw [refV_n])
    refine bodyPost_ret (results_ct rfl _ _ w.heap.size 80 _ (0, 0) _ rfl (by repeat (first | (with_reducible exact heap_alloc_new _ _) | (with_reducible apply box_more) | (with_reducible apply box_alloc) | (with_reducible apply box_drew) | (with_reducible apply box_drewN))) Try.underlying80 rfl (by kernel_rfl)) rfl ?_
    exact ⟨(by repeat (first | exact Ext.refl _ | apply Ext.more | apply Ext.alloc | apply Ext.drew | apply Ext.drewN)), rfl⟩
  | some r =>
    obtain ⟨F0, F1, F2, F3, F4, F5, F6, F7, F8, F9, F10⟩ := r
    go_enter Try.func45, Try.ntmps45
    go_wp2_with (go_at_call 94; refine (HA.out _ (by repeat (first | exact HR.out | apply RefAt.more | apply RefAt.alloc | apply RefAt.drew | apply RefAt.drewN))).mono ?_; rintro e w' ⟨⟨ex1, rfl⟩, rfl⟩; rw [refV_s])
    refine bodyPost_ret (results_ct rfl _ _ w.heap.size 80 _ (0, 0) _ rfl (by repeat (first | (with_reducible exact heap_alloc_new _ _) | (with_reducible apply box_more) | (with_reducible apply box_alloc) | (with_reducible apply box_drew) | (with_reducible apply box_drewN))) Try.underlying80 rfl (by kernel_rfl)) rfl ?_
    exact ⟨(by repeat (first | exact Ext.refl _ | apply Ext.more | apply Ext.alloc | apply Ext.drew | apply Ext.drewN)), rfl⟩

theorem zeroF_v : zeroF.v = .agg #[.int .i64 0, .int .i64 0, .int .i64 0, .int .i64 0, .int .i64 0, .int .i64 0, .int .i64 0, .int .i64 0, .bool false, .bool false, .bool false] := rfl
theorem walkV_n : walkV none = .tuple #[.agg #[.int .i64 0, .int .i64 0, .int .i64 0, .int .i64 0, .int .i64 0, .int .i64 0, .int .i64 0, .int .i64 0, .bool false, .bool false, .bool false], errW 2] := rfl
theorem walkV_s (F0 F1 F2 F3 F4 F5 F6 F7 : Int) (F8 F9 F10 : Bool) : walkV (some ⟨F0, F1, F2, F3, F4, F5, F6, F7, F8, F9, F10⟩) = .tuple #[.agg #[.int .i64 F0, .int .i64 F1, .int .i64 F2, .int .i64 F3, .int .i64 F4, .int .i64 F5, .int .i64 F6, .int .i64 F7, .bool F8, .bool F9, .bool F10], .nilIface] := rfl

end Go.Proofs.Ytapeoeakiphfpaa

/- The contract of the document's answer paviorref04.Whole; the law paviorlaw04.WalkWhole. -/
namespace Go.Proofs.Ytapeoeakiphfpaa
open Go.RowKit
set_option linter.unusedVariables false
set_option linter.unusedSimpArgs false
attribute [local go_sem] setCell_drewN alloc_drewN lt_moreE le_moreE lt_moreK le_moreK cell_more frozen_more set_more drew_more drewN_more

theorem el_Found : ElemAt Try.prog 85 80 (.agg #[.int .i64 0, .int .i64 0, .int .i64 0, .int .i64 0, .int .i64 0, .int .i64 0, .int .i64 0, .int .i64 0, .bool false, .bool false, .bool false]) 11 72 := ⟨Try.underlying85, by kernel_rfl, rfl, by decide, by decide⟩
/-- The cells of an element. -/
theorem found_at {w : World} {g : Nat} {l : List Found} (h : ∀ i u, ((l.map Found.cells).flatten)[i]? = some u → w.cell? ⟨g, i, none⟩ = some u) (q : Nat) (f : Found) (hq : l[q]? = some f) :
    w.cell? ⟨g, q * 11, none⟩ = some (.int .i64 f.fKind) ∧ w.cell? ⟨g, q * 11 + 1, none⟩ = some (.int .i64 f.fLevel) ∧ w.cell? ⟨g, q * 11 + 2, none⟩ = some (.int .i64 f.fTable) ∧ w.cell? ⟨g, q * 11 + 3, none⟩ = some (.int .i64 f.fPlace) ∧ w.cell? ⟨g, q * 11 + 4, none⟩ = some (.int .i64 f.fFrame) ∧ w.cell? ⟨g, q * 11 + 5, none⟩ = some (.int .i64 f.fOrder) ∧ w.cell? ⟨g, q * 11 + 6, none⟩ = some (.int .i64 f.fFirst) ∧ w.cell? ⟨g, q * 11 + 7, none⟩ = some (.int .i64 f.fBase) ∧ w.cell? ⟨g, q * 11 + 8, none⟩ = some (.bool f.fWrite) ∧ w.cell? ⟨g, q * 11 + 9, none⟩ = some (.bool f.fExec) ∧ w.cell? ⟨g, q * 11 + 10, none⟩ = some (.bool f.fSeen) := by
  have key := fun j u hj => h (q * 11 + j) u (flatten_at 11 (l.map Found.cells) q j f.cells u (by simp [Found.cells]) (by simp [hq]) hj)
  exact ⟨key 0 _ rfl, key 1 _ rfl, key 2 _ rfl, key 3 _ rfl, key 4 _ rfl, key 5 _ rfl, key 6 _ rfl, key 7 _ rfl, key 8 _ rfl, key 9 _ rfl, key 10 _ rfl⟩
/-- What the document's Whole answers. -/
def RWholeRet (B : Nat) (w' : World) (r : Option (List Found)) (e : Ending) : Prop := match r with
  | some s => ∃ a cap, e = .returned (.tuple #[.slice a s.length cap, .int .i64 0]) ∧ w'.ownsRow B 80 11 (.slice a s.length cap) s.length (s.map Found.cells).flatten
  | none => e = .returned (.tuple #[.slice none 0 0, .int .i64 2])
theorem rwholeRet_some {B B' n : Nat} {w' : World} {r : Option (List Found)} {s : List Found} {v : Value} {xs : List Value} (hr : r = some s) (h : w'.ownsRow B' 80 11 v n xs) (hb : B ≤ B') (hn : n = s.length) (hx : xs = (s.map Found.cells).flatten) : RWholeRet B w' r (.returned (.tuple #[v, .int .i64 0])) := by
  obtain ⟨a, cap, rfl⟩ := own_form h
  subst hn hx hr
  exact ⟨a, cap, rfl, own_low h hb⟩
theorem pagesW_in {ws : List Int} {n root p : Int} {k : Nat} {f : Found} (hp : p < 4096) (hw : walkAt ws n p 4 0 root = some f) : pagesW ws n root (k + 1) p = (pagesW ws n root k (p + 1)).map fun l => if f.fKind = 3 ∨ (f.fKind = 2 ∧ f.fFirst = p) then f :: l else l := by
  conv => lhs; unfold pagesW
  rw [if_pos hp, hw]
theorem pagesW_no {ws : List Int} {n root p : Int} {k : Nat} (hp : p < 4096) (hw : walkAt ws n p 4 0 root = none) : pagesW ws n root (k + 1) p = none := by
  conv => lhs; unfold pagesW
  rw [if_pos hp, hw]
theorem pagesW_end {ws : List Int} {n root : Int} {k : Nat} : pagesW ws n root (k + 1) 4096 = some [] := by
  unfold pagesW
  rw [if_neg (by omega)]

end Go.Proofs.Ytapeoeakiphfpaa

/- The walk of the law WalkStays. -/
namespace Go.Proofs.Ytapeoeakiphfpaa
open Go.RowKit
set_option linter.unusedVariables false
set_option linter.unusedSimpArgs false
attribute [local go_sem] setCell_drewN alloc_drewN

theorem wholeAt_len {ws : List Int} {n root : Int} : ∀ (k : Nat) (p : Int) (l : List Found), p ≤ 4096 + 512 → wholeAt ws n root k p = some l → (l.length : Int) ≤ 4096 + 512 - p := by
  intro k
  induction k with
  | zero => intro p l _ h; simp [wholeAt] at h
  | succ k ih =>
    intro p l hp h
    unfold wholeAt at h
    split at h
    · split at h
      · cases h
      · rename_i f hf
        obtain ⟨l', hl', rfl⟩ := Option.map_eq_some_iff.1 h
        have hlv := walkAt_level _ _ _ _ hf
        have hs := stride_cases hlv.1 (by omega)
        have := ih _ _ (by omega) hl'
        split <;> simp <;> omega
    · simp only [Option.some.injEq] at h
      subst h
      simp; omega
/-- Whatever is asked, a walk tells the same each time. -/
theorem walk_Walk_any (n : Nat) (ws : List Int) (hw : WOk ws) (root page : Int) : ∃ (F : Found) (E : Value), (E = .nilIface ∨ ∃ c, E = errW c) ∧ ∀ (w : World) (b g c : Nat), MemAt w b g n c ws →
    Calls Try.prog 89 #[.pointer (some ⟨b, 0, none⟩), .int .i64 root, .int .i64 page] w fun e w' => e = .returned (.tuple #[F.v, E]) ∧ w.grownBy w' none := by
  by_cases h : 0 ≤ root ∧ root < n ∧ 0 ≤ page ∧ page < 4096
  · obtain ⟨h0, h1, h2, h3⟩ := h
    cases hr : walkAt ws n page 4 0 root with
    | none => exact ⟨zeroF, errW 2, .inr ⟨2, rfl⟩, fun w b g c hm => by have := walk_Walk w hm hw root page h0 h1 h2 h3; rw [hr] at this; exact this⟩
    | some f => exact ⟨f, .nilIface, .inl rfl, fun w b g c hm => by have := walk_Walk w hm hw root page h0 h1 h2 h3; rw [hr] at this; exact this⟩
  · exact ⟨zeroF, errW 1, .inr ⟨1, rfl⟩, fun w b g c hm => walk_Walk_no w hm root page h⟩
theorem walk_Whole_any (n : Nat) (ws : List Int) (hw : WOk ws) (root : Int) : ∃ (k : Nat) (xs : List Value) (E : Value), (E = .nilIface ∨ ∃ c, E = errW c) ∧ k ≤ 5000 ∧ ∀ (w : World) (b g c : Nat), MemAt w b g n c ws →
    Calls Try.prog 99 #[.pointer (some ⟨b, 0, none⟩), .int .i64 root] w fun e w' => ∃ v, e = .returned (.tuple #[v, E]) ∧ w'.ownsRow w.heap.size 80 11 v k xs ∧ w.grownBy w' none := by
  by_cases h : 0 ≤ root ∧ root < n
  · obtain ⟨h0, h1⟩ := h
    cases hr : wholeAt ws n root 4097 0 with
    | none =>
      refine ⟨0, [], errW 2, .inr ⟨2, rfl⟩, by omega, fun w b g c hm => ?_⟩
      refine (walk_Whole w hm hw root h0 h1).mono ?_
      rintro e w' ⟨he, hg⟩
      rw [hr] at he
      exact ⟨_, he, World.ownsRow_nil _ _ _ _, hg⟩
    | some l =>
      refine ⟨l.length, l.flatMap Found.cells, .nilIface, .inl rfl, by have := wholeAt_len _ _ _ (by omega) hr; omega, fun w b g c hm => ?_⟩
      refine (walk_Whole w hm hw root h0 h1).mono ?_
      rintro e w' ⟨he, hg⟩
      rw [hr] at he
      obtain ⟨v, rfl, ho⟩ := he
      exact ⟨v, rfl, ho, hg⟩
  · refine ⟨0, [], errW 1, .inr ⟨1, rfl⟩, by omega, fun w b g c hm => ?_⟩
    refine (walk_Whole_no w hm root h).mono ?_
    rintro e w' ⟨rfl, hg⟩
    exact ⟨_, rfl, World.ownsRow_nil _ _ _ _, hg⟩

/-- The list a of k found things lies in a block of its own, from block B on. -/
def AOk (B k : Nat) (w : World) (ad : Option Addr) : Prop := k ≠ 0 → ∃ ga, ad = some ⟨ga, 0, none⟩ ∧ B ≤ ga ∧ ∃ cur, w.heap[ga]? = some (.cells cur 80 (0, 0)) ∧ k * 11 ≤ cur.size
theorem own_AOk {w : World} {B k : Nat} {v : Value} {xs : List Value} (h : w.ownsRow B 80 11 v k xs) : ∃ ad cap, v = .slice ad k cap ∧ AOk B k w ad := by
  rcases h.2 with ⟨rfl, rfl⟩ | ⟨g, cap, cur, rfl, hb, hg, hnc, hcm, hcs, htk⟩
  · exact ⟨none, 0, rfl, fun h => absurd rfl h⟩
  · exact ⟨_, cap, rfl, fun _ => ⟨g, rfl, hb, cur, hg, by rw [hcs]; omega⟩⟩
theorem AOk.kept {w w' : World} {B k : Nat} {ad : Option Addr} {row : Option Nat} (h : AOk B k w ad) (hg : w.grownBy w' row) (hr : ∀ q, row = some q → q < B) : AOk B k w' ad := by
  intro hk
  obtain ⟨ga, rfl, hb, cur, hc, hs⟩ := h hk
  exact ⟨ga, rfl, hb, cur, by rw [hg.block ga (Array.getElem?_eq_some_iff.1 hc).1 (fun e => by have := hr ga e.symm; omega)]; exact hc, hs⟩
theorem put11_row (w : World) (g o : Nat) (cur : Array Value) (hg : w.heap[g]? = some (.cells cur 80 (0, 0))) (v0 v1 v2 v3 v4 v5 v6 v7 v8 v9 v10 : Value) :
    ∃ cur', (((((((((((w.setCell ⟨g, o, none⟩ v0).setCell ⟨g, o + 1, none⟩ v1).setCell ⟨g, o + 2, none⟩ v2).setCell ⟨g, o + 3, none⟩ v3).setCell ⟨g, o + 4, none⟩ v4).setCell ⟨g, o + 5, none⟩ v5).setCell ⟨g, o + 6, none⟩ v6).setCell ⟨g, o + 7, none⟩ v7).setCell ⟨g, o + 8, none⟩ v8).setCell ⟨g, o + 9, none⟩ v9).setCell ⟨g, o + 10, none⟩ v10).heap[g]? = some (.cells cur' 80 (0, 0)) ∧ cur'.size = cur.size := by
  have h0 := heap_setCell_same _ g (o) _ _ v0 hg
  have h1 := heap_setCell_same _ g (o + 1) _ _ v1 h0
  have h2 := heap_setCell_same _ g (o + 2) _ _ v2 h1
  have h3 := heap_setCell_same _ g (o + 3) _ _ v3 h2
  have h4 := heap_setCell_same _ g (o + 4) _ _ v4 h3
  have h5 := heap_setCell_same _ g (o + 5) _ _ v5 h4
  have h6 := heap_setCell_same _ g (o + 6) _ _ v6 h5
  have h7 := heap_setCell_same _ g (o + 7) _ _ v7 h6
  have h8 := heap_setCell_same _ g (o + 8) _ _ v8 h7
  have h9 := heap_setCell_same _ g (o + 9) _ _ v9 h8
  have h10 := heap_setCell_same _ g (o + 10) _ _ v10 h9
  exact ⟨_, h10, by simp⟩
theorem put11_grow (w : World) (g o : Nat) (v0 v1 v2 v3 v4 v5 v6 v7 v8 v9 v10 : Value) : w.grownBy (((((((((((w.setCell ⟨g, o, none⟩ v0).setCell ⟨g, o + 1, none⟩ v1).setCell ⟨g, o + 2, none⟩ v2).setCell ⟨g, o + 3, none⟩ v3).setCell ⟨g, o + 4, none⟩ v4).setCell ⟨g, o + 5, none⟩ v5).setCell ⟨g, o + 6, none⟩ v6).setCell ⟨g, o + 7, none⟩ v7).setCell ⟨g, o + 8, none⟩ v8).setCell ⟨g, o + 9, none⟩ v9).setCell ⟨g, o + 10, none⟩ v10) (some g) := by
  repeat (refine grow_setCell ?_ _ _ (.inr rfl))
  exact grow_refl _ _
theorem some_cell {w : World} {g : Nat} {cur : Array Value} {T : TypeId} (hg : w.heap[g]? = some (.cells cur T (0, 0))) (j : Nat) (h : j < cur.size) : ∃ u, w.cell? ⟨g, j, none⟩ = some u := by
  rw [cell_of_row w g j _ _ _ hg]
  exact ⟨_, Array.getElem?_eq_getElem h⟩

end Go.Proofs.Ytapeoeakiphfpaa
