import Derived.Test.YthcdecgecabgaaaBMerghFitsHugeHugfHugsHugtMovq
import Derived.Test.YthcdecgecabgaaaBStepsSamePart
import Derived.Test.YthcdecgecabgaaaBMorfBeds
import Derived.Shelf.Spec.SlicesGrow
import Derived.Test.YthcdecgecabgaaaBRefgCodeLawgNeed
import Derived.Test.YthcdecgecabgaaaBLayPlainPagw
/- The contracts of move.write, slices.Grow and slices.Concat at steps. -/
namespace Go.Proofs.Ythcdecgecabgaaa
open Go.RowKit
set_option linter.unusedVariables false
set_option linter.unusedSimpArgs false
attribute [local go_sem] setCell_drewN alloc_drewN lt_moreE le_moreE lt_moreK le_moreK cell_more frozen_more set_more drew_more drewN_more

/-- What move.write tells of a place and what its page says. -/
def writeV (p : Place) (d : Desc) : Value := if okD 3 d = true then .tuple #[.agg (Step.cells ⟨1, p.asid, 3, p.tb, p.pl, p.page, encW d, 0, 0, 0⟩).toArray, .nilIface] else .tuple #[.agg (Step.cells ⟨1, p.asid, 3, p.tb, p.pl, p.page, 0, 0, 0, 0⟩).toArray, errW 1]

set_option maxRecDepth 100000 in
set_option maxHeartbeats 4000000 in
theorem move_write (w : World) (p : Place) (d : Desc) :
    Calls Try.prog 66 #[.agg p.cells.toArray, .agg d.cells.toArray] w fun e w' => Ext w w' ∧ e = .returned (writeV p d) := by
  cases hok : okD 3 d with
  | true =>
    have HE := Lib.hid (fun w => extC (pte_Encode_yes w 3 d hok))
    have HV := Lib.hid (show writeV p d = .tuple #[.agg (Step.cells ⟨1, p.asid, 3, p.tb, p.pl, p.page, encW d, 0, 0, 0⟩).toArray, .nilIface] from by unfold writeV; rw [if_pos hok])
    generalize encW d = X at *
    clear hok
    obtain ⟨pa, pp, pt, pq, d0, d1, d2, d3, d4, d5, d6⟩ := p
    obtain ⟨e0, e1, e2, e3, e4, e5, e6⟩ := d
    simp only [Place.cells, Desc.cells, Desc.v] at *
    go_enter Try.func66, Try.ntmps66
    go_wp2_with fail
    refine (HE.out _).mono ?_
    rintro e w' ⟨⟨x1, rfl⟩, rfl⟩
    go_wp2_with fail
    refine bodyPost_ret (results_ct rfl _ _ (w.heap.size + 2) 46 _ (0, 0) _ rfl (by repeat (first | (with_reducible exact heap_alloc_at _ _ (by simp)) | (with_reducible apply box_more) | (with_reducible apply box_alloc) | (with_reducible apply box_drew) | (with_reducible apply box_drewN))) Try.underlying46 rfl (by kernel_rfl)) rfl ?_
    exact ⟨(by repeat (first | exact Ext.refl _ | apply Ext.more | apply Ext.alloc | apply Ext.drew | apply Ext.drewN)), by rw [HV.out]; rfl⟩
  | false =>
    have HE := Lib.hid (fun w => extC (pte_Encode_no w 3 d hok))
    have HV := Lib.hid (show writeV p d = .tuple #[.agg (Step.cells ⟨1, p.asid, 3, p.tb, p.pl, p.page, 0, 0, 0, 0⟩).toArray, errW 1] from by unfold writeV; rw [if_neg (by rw [hok]; simp)])
    clear hok
    obtain ⟨pa, pp, pt, pq, d0, d1, d2, d3, d4, d5, d6⟩ := p
    obtain ⟨e0, e1, e2, e3, e4, e5, e6⟩ := d
    simp only [Place.cells, Desc.cells, Desc.v] at *
    go_enter Try.func66, Try.ntmps66
    go_wp2_with fail
    refine (HE.out _).mono ?_
    rintro e w' ⟨⟨x1, rfl⟩, rfl⟩
    go_wp2_with fail
    refine bodyPost_ret (results_ct rfl _ _ (w.heap.size + 2) 46 _ (0, 0) _ rfl (by repeat (first | (with_reducible exact heap_alloc_at _ _ (by simp)) | (with_reducible apply box_more) | (with_reducible apply box_alloc) | (with_reducible apply box_drew) | (with_reducible apply box_drewN))) Try.underlying46 rfl (by kernel_rfl)) rfl ?_
    exact ⟨(by repeat (first | exact Ext.refl _ | apply Ext.more | apply Ext.alloc | apply Ext.drew | apply Ext.drewN)), by rw [HV.out]; rfl⟩

end Go.Proofs.Ythcdecgecabgaaa

/- slices.Grow and slices.Concat at steps. -/
namespace Go.Proofs
open Go.Shelf
shelf_lay_g Lays8.n4 Nm8 4 at Try 113 as YthcdecgecabgaaagrowS
end Go.Proofs
namespace Go.Proofs.Ythcdecgecabgaaa
open Go.RowKit
set_option linter.unusedVariables false
set_option linter.unusedSimpArgs false
attribute [local go_sem] setCell_drewN alloc_drewN lt_moreE le_moreE lt_moreK le_moreK cell_more frozen_more set_more drew_more drewN_more

theorem steps_Grow (w : World) (n : Nat) (hn : n ≤ 1000000) :
    Calls Try.prog 113 #[.slice none 0 0, .int .i64 n] w fun e w' => Ext w w' ∧ ∃ v, e = .returned v ∧ Hid (w'.ownsRow w.heap.size 46 10 v 0 []) := by
  obtain ⟨i, hi, hz, hs, hb⟩ := info_parts el_Step.info
  by_cases h0 : n = 0
  · subst h0
    refine (show Calls Try.prog 113 _ w _ from Any8.slices_Grow_room YthcdecgecabgaaagrowS none 0 0 0 w (by omega) (by omega) (by omega) (by omega)).mono ?_
    rintro e w' ⟨rfl, rfl⟩
    exact ⟨Ext.refl _, _, rfl, World.ownsRow_nil _ _ _ _⟩
  · refine (show Calls Try.prog 113 _ w _ from Any8.slices_Grow_grow YthcdecgecabgaaagrowS i _ hi hz (by omega) none 0 0 n [] w (by omega) (by omega) (by rw [hb]; omega) (by omega) (by simp) (fun _ => rfl) (fun a h => by cases h)).mono ?_
    rintro e w' ⟨rfl, rfl⟩
    refine ⟨(Ext.refl w).drew.alloc _, _, rfl, ?_⟩
    show World.ownsRow _ _ _ _ _ _ _
    have hg1 := grownCap_ge w (0 + n) 0 46
    have hg2 := grownCap_le_maxLen w (0 + n) 0 46 (by unfold maxLen; omega)
    refine ⟨rfl, .inr ⟨w.heap.size, grownCap w (0 + n) 0 46, _, rfl, Nat.le_refl _, heap_alloc_new w.drew _, Nat.zero_le _, hg2, ?_, by simp⟩⟩
    simp only [Array.size_append, size_zeroCells, el_Step.zs]
    show 0 + (0 + n - 0) * 10 + (grownCap w (0 + n) 0 46 - (0 + n)) * 10 = grownCap w (0 + n) 0 46 * 10
    omega

/-- Rows of steps, one behind the other. -/
def catS (l : List (Value × List Step)) : List Step := l.flatMap (·.2)
theorem catS_snoc {l : List (Value × List Step)} {q : Nat} {z : Value × List Step} (h : l[q]? = some z) : catS (l.take (q + 1)) = catS (l.take q) ++ z.2 := by
  unfold catS
  rw [take_snoc h, List.flatMap_append]
  simp
theorem catS_le {l : List (Value × List Step)} {q : Nat} : (catS (l.take q)).length ≤ (catS l).length := by
  have h : catS l = catS (l.take q) ++ catS (l.drop q) := by unfold catS; rw [← List.flatMap_append, List.take_append_drop]
  rw [h, List.length_append]
  omega

set_option maxRecDepth 100000 in
set_option maxHeartbeats 4000000 in
theorem steps_Concat (w : World) (B : Nat) (rs : List (Value × List Step)) (hr : ∀ r ∈ rs, w.ownsRow B 46 10 r.1 r.2.length (CS r.2)) (g cap : Nat) (hg : g < w.heap.size) (hc : ∀ i r, rs[i]? = some r → w.cell? ⟨g, i, none⟩ = some r.1) (hlen : rs.length ≤ 1000) (hsum : (catS rs).length ≤ 100000) :
    Calls Try.prog 67 #[.slice (some ⟨g, 0, none⟩) rs.length cap] w fun e w' => Ext w w' ∧ ∃ a c2, e = .returned (.slice a (catS rs).length c2) ∧ OwnS w' w.heap.size (.slice a (catS rs).length c2) (catS rs) := by
  obtain ⟨k1, k2, k3⟩ := lt_facts hg
  have HRs := Lib.hid hr
  have HC := Lib.hid hc
  have HG := Lib.hid (fun w' n hn => steps_Grow w' n hn)
  clear hr hc
  go_enter Try.func67, Try.ntmps67
  go_wp2_with fail
  go_loopw [3, 5, 11] (fun s f i wr => ∃ q m : Nat, q ≤ rs.length ∧ i = .int .i64 q ∧ s = .int .i64 m ∧ wr = w ∧ Hid (m = (catS (rs.take q)).length)) (fun _ _ i _ => rs.length - (intOf i).toNat)
  case atStart => exact ⟨0, 0, by omega, by trivial, by trivial, by trivial, by trivial⟩
  case round =>
    obtain ⟨q, m, hq, rfl, rfl, hwr, HS⟩ := hrel
    subst wr
    by_cases hlt : q < rs.length
    · have hz : rs[q]? = some rs[q] := List.getElem?_eq_getElem hlt
      have x0 := HC.out q _ hz
      have ho := HRs.out _ (List.getElem_mem hlt)
      obtain ⟨a, c2, hf⟩ := own_form ho
      rw [hf] at x0
      have hS2 := catS_snoc hz
      have hle := catS_le (l := rs) (q := q + 1)
      rw [hS2, List.length_append] at hle
      have hm := HS.out
      have HS2 := Lib.hid (show m + (rs[q]).2.length = (catS (rs.take (q + 1))).length from by rw [hS2, List.length_append, ← HS.out])
      have hb : m + (rs[q]).2.length ≤ 100000 := by omega
      generalize (rs[q]).2.length = y at *
      clear ho hf hS2 hle hm HS hz
      go_wp2_with fail
      go_roundw
      case rel => exact ⟨q + 1, m + y, by omega, by go_num, by go_num, by trivial, HS2⟩
      case measure => simp [intOf]; omega
    · obtain rfl : q = rs.length := by omega
      rw [List.take_of_length_le (Nat.le_refl _)] at HS
      have hmb : m ≤ 100000 := by have := HS.out; omega
      go_wp2_with fail
      refine (HG.out _ m (by omega)).mono ?_
      rintro e w' ⟨⟨ex, rfl⟩, v, rfl, HO⟩
      go_wp2_with fail
      go_loopw [6, 8, 27] (fun o f i wr => ∃ q m : Nat, q ≤ rs.length ∧ i = .int .i64 q ∧ Ext w wr ∧ Hid (m = (catS (rs.take q)).length) ∧ Hid (wr.ownsRow w.heap.size 46 10 o m (CS (catS (rs.take q))))) (fun _ _ i _ => rs.length - (intOf i).toNat)
      case atStart => exact ⟨0, 0, by omega, rfl, (by repeat (first | exact Ext.refl _ | apply Ext.more | apply Ext.alloc | apply Ext.drew | apply Ext.drewN)), rfl, HO⟩
      case round =>
        obtain ⟨q, m, hq, rfl, ⟨x, rfl⟩, HS', HO'⟩ := hrel
        by_cases hlt : q < rs.length
        · have hz : rs[q]? = some rs[q] := List.getElem?_eq_getElem hlt
          have x0 := HC.out q _ hz
          have ho := HRs.out _ (List.getElem_mem hlt)
          have hS2 := catS_snoc hz
          have hle := catS_le (l := rs) (q := q + 1)
          rw [hS2, List.length_append] at hle
          have hm := HS'.out
          have hb : m + (rs[q]).2.length ≤ 100000 := by omega
          have HS2 := Lib.hid (show m + (rs[q]).2.length = (catS (rs.take (q + 1))).length from by rw [hS2, List.length_append, ← HS'.out])
          have HE := Lib.hid (show CS (catS (rs.take (q + 1))) = CS (catS (rs.take q)) ++ CS (rs[q]).2 from by rw [hS2, CS_append])
          obtain ⟨a, c2, hf⟩ := own_form ho
          rw [hf] at x0 ho
          have HOr := Lib.hid ho
          have h1 := CS_one (rs[q]).2
          generalize CS (rs[q]).2 = xs2 at *
          generalize (rs[q]).2.length = y at *
          clear ho hf hS2 hle hm hz
          go_wp2_with (at_builtin; refine wpList_append_any w el_Step rfl _ _ rfl u6 m _ rfl (by repeat (first | exact HO'.out | apply own_more | apply own_alloc | apply own_drew | apply own_drewN)) (by repeat (first | exact Ext.refl _ | apply Ext.more | apply Ext.alloc | apply Ext.drew | apply Ext.drewN)) B _ y xs2 rfl (by repeat (first | exact HOr.out | apply own_more | apply own_alloc | apply own_drew | apply own_drewN)) h1 (by omega) ?_; intro v' x' HO2 keep; clear keep)
          go_roundw
          case rel => exact ⟨q + 1, m + y, by omega, by go_num, (by repeat (first | exact Ext.refl _ | apply Ext.more | apply Ext.alloc | apply Ext.drew | apply Ext.drewN)), HS2, by
            show World.ownsRow _ _ _ _ _ _ _
            rw [HE.out]
            exact HO2.out⟩
          case measure => simp [intOf]; omega
        · obtain rfl : q = rs.length := by omega
          rw [List.take_of_length_le (Nat.le_refl _)] at HS' HO'
          have hm2 := HS'.out
          subst hm2
          obtain ⟨a, c2, rfl⟩ := own_form HO'.out
          go_wp2_with fail
          go_ret
          exact ⟨(by repeat (first | exact Ext.refl _ | apply Ext.more | apply Ext.alloc | apply Ext.drew | apply Ext.drewN)), a, c2, rfl, HO'.out⟩

end Go.Proofs.Ythcdecgecabgaaa

/- Rows of the call's own beside each other, in a region that draws its order: an append to the first. -/
namespace Go.Proofs.Ythcdecgecabgaaa
open Go.RowKit
set_option linter.unusedVariables false
set_option linter.unusedSimpArgs false
attribute [local go_sem] setCell_drewN alloc_drewN lt_moreE le_moreE lt_moreK le_moreK cell_more frozen_more set_more drew_more drewN_more

/-- As step_append_new, at the first of several rows. -/
theorem step_append_beds {P : Program} (W : World) {w : World} {ops : Array Oper} {o : Oper} {a : Act} {K : Act → World → Prop} {Q : Exit → Act → World → Prop} {E : Prop} {t e : TypeId} {z : Value} {size bytes : Nat} (el : ElemAt P t e z size bytes)
    (hgd : o.guard = none) (s x : Operand) (ho : o.op = .call { callee := .builtin .append, args := #[s, x], argTypes := #[t, t] })
    (l : List (Value × Nat × List Value)) (v : Value) (n : Nat) (xs : List Value) (hs : a.eval s = v) (hB : Beds w W.heap.size e size ((v, n, xs) :: l)) (hW : Ext W w)
    (cs : Array Value) (T : TypeId) (m ad : Nat) (hx : a.eval x = .slice (some ⟨ad, 0, none⟩) m m) (hbox : w.heap[ad]? = some (.cells cs T (0, 0))) (hl : cs.size = m * size) (h1 : cs.toList.all Value.oneCell' = true) (hn : n + m ≤ 1000000)
    (h : ∀ v' x', Hid (Beds (more W x') W.heap.size e size ((v', n + m, xs ++ cs.toList) :: l)) → (∀ k ob, w.heap[k]? = some ob → v.ownBlock ≠ some k → (more W x').heap[k]? = some ob) → K (a.put o.dst v') (more W x')) :
    if Region.wanted o (yielded ops a.tmps) = true then Oper.wp P o a w K Q else E := by
  have hw : Region.wanted o (yielded ops a.tmps) = true := by simp [Region.wanted, hgd]
  rw [if_pos hw]
  obtain ⟨i, hi, hz, h3, h4⟩ := info_parts el.info
  have hb : (n + m) * bytes ≤ 1000000 * 1000 := Nat.mul_le_mul hn el.small
  have hown : w.ownsRow W.heap.size e size v n xs := hB.1 _ (.head _)
  refine wp_append_blk w s x t ho W.heap.size e i z size bytes el.sl hi hz h3 h4 el.zs el.pos v n xs hs hown ⟨ad, 0, none⟩ m m cs.toList hx (by simpa using hl)
    (block_news' hbox) (by intro u hu; exact List.all_eq_true.1 h1 u hu) (by unfold maxLen; omega) (by omega) hW.size ?_
  intro v' w' ho' hg' hb'
  obtain ⟨x', rfl⟩ := more_of_grow (grow_row hW.grow hown hg')
  have keep : ∀ k ob, w.heap[k]? = some ob → v.ownBlock ≠ some k → (more W x').heap[k]? = some ob := fun k ob hk hne => (hg'.block k (Array.getElem?_eq_some_iff.1 hk).1 (fun e => hne e.symm)).trans hk
  exact h v' x' (hB.put ho' keep (hb'.imp id fun e => ⟨_, e, Nat.le_refl _⟩)) keep

end Go.Proofs.Ythcdecgecabgaaa

/- The contract of the document's answer paviorref04.Whole; the law paviorlaw04.WalkWhole. -/
namespace Go.Proofs.Ythcdecgecabgaaa
open Go.RowKit
set_option linter.unusedVariables false
set_option linter.unusedSimpArgs false
attribute [local go_sem] setCell_drewN alloc_drewN lt_moreE le_moreE lt_moreK le_moreK cell_more frozen_more set_more drew_more drewN_more

theorem el_Found : ElemAt Try.prog 150 53 (.agg #[.int .i64 0, .int .i64 0, .int .i64 0, .int .i64 0, .int .i64 0, .int .i64 0, .int .i64 0, .int .i64 0, .bool false, .bool false, .bool false]) 11 72 := ⟨Try.underlying150, by kernel_rfl, rfl, by decide, by decide⟩
/-- The cells of an element. -/
theorem found_at {w : World} {g : Nat} {l : List Found} (h : ∀ i u, ((l.map Found.cells).flatten)[i]? = some u → w.cell? ⟨g, i, none⟩ = some u) (q : Nat) (f : Found) (hq : l[q]? = some f) :
    w.cell? ⟨g, q * 11, none⟩ = some (.int .i64 f.fKind) ∧ w.cell? ⟨g, q * 11 + 1, none⟩ = some (.int .i64 f.fLevel) ∧ w.cell? ⟨g, q * 11 + 2, none⟩ = some (.int .i64 f.fTable) ∧ w.cell? ⟨g, q * 11 + 3, none⟩ = some (.int .i64 f.fPlace) ∧ w.cell? ⟨g, q * 11 + 4, none⟩ = some (.int .i64 f.fFrame) ∧ w.cell? ⟨g, q * 11 + 5, none⟩ = some (.int .i64 f.fOrder) ∧ w.cell? ⟨g, q * 11 + 6, none⟩ = some (.int .i64 f.fFirst) ∧ w.cell? ⟨g, q * 11 + 7, none⟩ = some (.int .i64 f.fBase) ∧ w.cell? ⟨g, q * 11 + 8, none⟩ = some (.bool f.fWrite) ∧ w.cell? ⟨g, q * 11 + 9, none⟩ = some (.bool f.fExec) ∧ w.cell? ⟨g, q * 11 + 10, none⟩ = some (.bool f.fSeen) := by
  have key := fun j u hj => h (q * 11 + j) u (flatten_at 11 (l.map Found.cells) q j f.cells u (by simp [Found.cells]) (by simp [hq]) hj)
  exact ⟨key 0 _ rfl, key 1 _ rfl, key 2 _ rfl, key 3 _ rfl, key 4 _ rfl, key 5 _ rfl, key 6 _ rfl, key 7 _ rfl, key 8 _ rfl, key 9 _ rfl, key 10 _ rfl⟩
/-- What the document's Whole answers. -/
def RWholeRet (B : Nat) (w' : World) (r : Option (List Found)) (e : Ending) : Prop := match r with
  | some s => ∃ a cap, e = .returned (.tuple #[.slice a s.length cap, .int .i64 0]) ∧ w'.ownsRow B 53 11 (.slice a s.length cap) s.length (s.map Found.cells).flatten
  | none => e = .returned (.tuple #[.slice none 0 0, .int .i64 2])
theorem rwholeRet_some {B B' n : Nat} {w' : World} {r : Option (List Found)} {s : List Found} {v : Value} {xs : List Value} (hr : r = some s) (h : w'.ownsRow B' 53 11 v n xs) (hb : B ≤ B') (hn : n = s.length) (hx : xs = (s.map Found.cells).flatten) : RWholeRet B w' r (.returned (.tuple #[v, .int .i64 0])) := by
  obtain ⟨a, cap, rfl⟩ := own_form h
  subst hn hx hr
  exact ⟨a, cap, rfl, own_low h hb⟩
theorem pagesW_in {ws : List Int} {n root p : Int} {k : Nat} {f : Found} (hp : p < 4096) (hw : walkAt ws n p 4 0 root = some f) : pagesW ws n root (k + 1) p = (pagesW ws n root k (p + 1)).map fun l => if f.fKind = 3 ∨ (f.fKind = 2 ∧ f.fFirst = p) then f :: l else l := by
  conv => lhs; unfold pagesW
  rw [if_pos hp, hw]
theorem pagesW_no {ws : List Int} {n root p : Int} {k : Nat} (hp : p < 4096) (hw : walkAt ws n p 4 0 root = none) : pagesW ws n root (k + 1) p = none := by
  conv => lhs; unfold pagesW
  rw [if_pos hp, hw]
theorem pagesW_end {ws : List Int} {n root : Int} {k : Nat} : pagesW ws n root (k + 1) 4096 = some [] := by
  unfold pagesW
  rw [if_neg (by omega)]

end Go.Proofs.Ythcdecgecabgaaa
