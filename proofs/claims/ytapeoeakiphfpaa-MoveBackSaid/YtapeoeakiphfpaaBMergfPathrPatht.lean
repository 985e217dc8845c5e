import Derived.Test.YtapeoeakiphfpaaBErrisMovpSplitMerge
import Derived.Test.YtapeoeakiphfpaaPath
import Derived.Test.YtapeoeakiphfpaaBRefgCodeLawgNeed
/- The contracts of huge.away, huge.fill. -/
namespace Go.Proofs.Ytapeoeakiphfpaa
open Go.RowKit
set_option linter.unusedVariables false
set_option linter.unusedSimpArgs false
attribute [local go_sem] setCell_drewN alloc_drewN lt_moreE le_moreE lt_moreK le_moreK cell_more frozen_more set_more drew_more drewN_more

theorem cells2m {w : World} {n : Nat} {T : TypeId} {a0 a1 : Value} (h : w.heap[n]? = some (.cells #[a0, a1] T (0, 0))) :
    w.cell? ⟨n, 0, none⟩ = some a0 ∧ w.cell? ⟨n, 1, none⟩ = some a1 ∧ ∀ i, w.frozen? ⟨n, i, none⟩ = false := by
  have key := fun i => cell_of_row w n i _ _ _ h
  exact ⟨key 0, key 1, fun i => frozen_of_row w n i _ _ h⟩

set_option maxRecDepth 100000 in
set_option maxHeartbeats 4000000 in
theorem huge_away (w : World) (l : List (Int × Int)) {B cap : Nat} {a : Option Addr} (ho : w.ownsRow B 104 2 (.slice a l.length cap) l.length (l.map slotC).flatten) (asid table first : Int) (hl : ∀ z ∈ l, 0 ≤ z.1 ∧ z.1 < 4096 ∧ z.1 % 8 = z.1 - first) (hn : l.length ≤ 8) :
    Calls Try.prog 108 #[.slice a l.length cap, .int .i64 asid, .int .i64 table] w fun e w' => Ext w w' ∧ SlRet w.heap.size w' (awayM l asid table first) (l.length + l.length) e := by
  have hc := own_cap ho
  have hcm : cap ≤ 9223372036854775807 := by have := hc.2.2; unfold maxLen at this; exact this
  have hcl := hc.2.1
  have HA := Lib.hid (own_at ho)
  have HL := Lib.hid hl
  clear hc ho hl
  go_enter Try.func108, Try.ntmps108
  go_wp2_with fail
  go_loopw [7, 14] (fun o i wr => ∃ q : Nat, q ≤ l.length ∧ i = .int .i64 q ∧ Ext w wr ∧ Hid (wr.ownsRow w.heap.size 73 10 o q (CS ((l.take q).map fun z => wr0 asid 3 table (z.1 - first) z.1 0)))) (fun _ i _ => l.length - (intOf i).toNat)
  case atStart => exact ⟨0, by omega, rfl, (by repeat (first | exact Ext.refl _ | apply Ext.more | apply Ext.alloc | apply Ext.drew | apply Ext.drewN)), by show World.ownsRow _ _ _ _ _ _ _; exact World.ownsRow_nil _ _ _ _⟩
  case round =>
    obtain ⟨q, hq, rfl, ⟨x, rfl⟩, HO⟩ := hrel
    by_cases hlt : q < l.length
    · have hz : l[q]? = some l[q] := List.getElem?_eq_getElem hlt
      obtain ⟨g, rfl, _, hg, _, hx, _⟩ := HA.out (by omega)
      obtain ⟨z0, z1⟩ := slot_at hx q _ hz
      obtain ⟨p0, p1, p2⟩ := HL.out _ (List.mem_of_getElem? hz)
      have E := Lib.hid (show CS ((l.take (q + 1)).map fun z => wr0 asid 3 table (z.1 - first) z.1 0) = CS ((l.take q).map fun z => wr0 asid 3 table (z.1 - first) z.1 0) ++ (wr0 asid 3 table (l[q].1 % 8) l[q].1 0).cells from by rw [take_snoc hz, List.map_append, p2]; exact CS_snoc _ _)
      generalize l[q] = z at *
      obtain ⟨za, zb⟩ := z
      dsimp only at z0 z1 p0 p1 E
      clear hz hx p2
      go_wp2_with ((at_builtin; refine wpList_append_new w el_Step rfl _ _ rfl u7 q _ rfl (by repeat (first | exact HO.out | apply own_more | apply own_alloc | apply own_drew | apply own_drewN)) (by repeat (first | exact Ext.refl _ | apply Ext.more | apply Ext.alloc | apply Ext.drew | apply Ext.drewN)) _ _ 1 _ rfl (by simp) rfl rfl (by omega) ?_); intro v' x' HO' keep; clear keep)
      go_roundw
      case rel => exact ⟨q + 1, by omega, by go_num, (by repeat (first | exact Ext.refl _ | apply Ext.more | apply Ext.alloc | apply Ext.drew | apply Ext.drewN)), by
        show World.ownsRow _ _ _ _ _ _ _
        rw [E.out]
        exact HO'.out⟩
      case measure => simp [intOf]; omega
    · obtain rfl : q = l.length := by omega
      have hO1 := HO.out
      rw [List.take_length] at hO1
      have HO1 := Lib.hid hO1
      clear hO1 HO hlt hq
      go_wp2_with fail
      go_loopw [7, 32] (fun o i wr => ∃ q : Nat, q ≤ l.length ∧ i = .int .i64 q ∧ Ext w wr ∧ Hid (wr.ownsRow w.heap.size 73 10 o (l.length + q) (CS (l.map fun z => wr0 asid 3 table (z.1 - first) z.1 0) ++ CS ((l.take q).map fun z => tellS asid z.1)))) (fun _ i _ => l.length - (intOf i).toNat)
      case atStart => exact ⟨0, by omega, rfl, (by repeat (first | exact Ext.refl _ | apply Ext.more | apply Ext.alloc | apply Ext.drew | apply Ext.drewN)), by show World.ownsRow _ _ _ _ _ _ _; simpa [CS] using HO1.out⟩
      case round =>
        obtain ⟨k, hk, rfl, ⟨x, rfl⟩, HO⟩ := hrel
        by_cases hlt : k < l.length
        · have hz : l[k]? = some l[k] := List.getElem?_eq_getElem hlt
          obtain ⟨g, rfl, _, hg, _, hx, _⟩ := HA.out (by omega)
          obtain ⟨z0, z1⟩ := slot_at hx k _ hz
          have E := Lib.hid (show CS ((l.take (k + 1)).map fun z => tellS asid z.1) = CS ((l.take k).map fun z => tellS asid z.1) ++ (tellS asid l[k].1).cells from by rw [take_snoc hz, List.map_append]; exact CS_snoc _ _)
          generalize l[k] = z at *
          obtain ⟨za, zb⟩ := z
          dsimp only at z0 z1 E
          clear hz hx
          go_wp2_with ((at_builtin; refine wpList_append_new w el_Step rfl _ _ rfl u7 (l.length + k) _ rfl (by repeat (first | exact HO.out | apply own_more | apply own_alloc | apply own_drew | apply own_drewN)) (by repeat (first | exact Ext.refl _ | apply Ext.more | apply Ext.alloc | apply Ext.drew | apply Ext.drewN)) _ _ 1 _ rfl (by simp) rfl rfl (by omega) ?_); intro v' x' HO' keep; clear keep)
          go_roundw
          case rel => exact ⟨k + 1, by omega, by go_num, (by repeat (first | exact Ext.refl _ | apply Ext.more | apply Ext.alloc | apply Ext.drew | apply Ext.drewN)), by
            show World.ownsRow _ _ _ _ _ _ _
            rw [E.out, ← List.append_assoc]
            exact HO'.out⟩
          case measure => simp [intOf]; omega
        · obtain rfl : k = l.length := by omega
          have hO2 := HO.out
          rw [List.take_length, ← CS_append] at hO2
          have HO2 := Lib.hid hO2
          clear hO2 HO
          go_wp2_with fail
          go_ret
          exact ⟨(by repeat (first | exact Ext.refl _ | apply Ext.more | apply Ext.alloc | apply Ext.drew | apply Ext.drewN)), slRet_mk HO2.out (Nat.le_refl _) rfl rfl⟩

/-- A slice's tail. -/
theorem rd_tail {w : World} {v : Value} {sz : Nat} {c : List Value} {css : List (List Value)} (h : SlRd w v sz (c :: css)) : ∃ b o s cap, v = .slice (some ⟨b, o, s⟩) (css.length + 1) cap ∧ css.length + 1 ≤ cap ∧ cap ≤ maxLen ∧
    (∀ j u, c[j]? = some u → s = none ∧ w.cell? ⟨b, o + j, none⟩ = some u) ∧
    (cap = 1 → SlRd w (.slice (some ⟨b, o, s⟩) 0 0) sz css) ∧ (cap ≠ 1 → SlRd w (.slice (some ((⟨b, o, s⟩ : Addr).add (1 * sz))) css.length (cap - 1)) sz css) := by
  rcases h with ⟨_, h⟩ | ⟨b, o, s, cap, rfl, h1, h2, h3⟩
  · cases h
  · rw [List.length_cons] at h1
    refine ⟨b, o, s, cap, rfl, h1, h2, fun j u hj => ?_, fun hc => ?_, fun hc => ?_⟩
    · have := h3 0 c j u rfl hj
      simpa using this
    · obtain rfl : css = [] := List.eq_nil_of_length_eq_zero (by omega)
      exact .inr ⟨b, o, s, 0, rfl, Nat.le_refl _, by simp, fun i c j u hi => by simp at hi⟩
    · by_cases hs : css = []
      · subst hs
        rcases hh : (⟨b, o, s⟩ : Addr).add (1 * sz) with ⟨b', o', s'⟩
        exact .inr ⟨b', o', s', cap - 1, rfl, by simp, by omega, fun i c j u hi => by simp at hi⟩
      · have key : ∀ i c' j u, css[i]? = some c' → c'[j]? = some u → s = none ∧ w.cell? ⟨b, o + ((i + 1) * sz + j), none⟩ = some u := fun i c' j u hi hj => h3 (i + 1) c' j u hi hj
        by_cases hn : s = none
        · subst hn
          have hadd : (⟨b, o, none⟩ : Addr).add (1 * sz) = ⟨b, o + 1 * sz, none⟩ := by unfold Addr.add; split <;> simp_all
          rw [hadd]
          refine .inr ⟨b, o + 1 * sz, none, cap - 1, rfl, by omega, by omega, fun i c' j u hi hj => ⟨rfl, ?_⟩⟩
          have := (key i c' j u hi hj).2
          rwa [show o + ((i + 1) * sz + j) = o + 1 * sz + (i * sz + j) by rw [Nat.add_mul]; omega] at this
        · rcases hh : (⟨b, o, s⟩ : Addr).add (1 * sz) with ⟨b', o', s'⟩
          exact .inr ⟨b', o', s', cap - 1, rfl, by omega, by omega, fun i c' j u hi hj => absurd (key i c' j u hi hj).1 hn⟩

set_option maxRecDepth 100000 in
set_option maxHeartbeats 4000000 in
theorem huge_fill (w : World) {ws : List Int} {t first : Int} (v : Value) (hv : SlRd w v 2 ((pgs ws t first 0).map slotC)) (base : Int) (f0 : 0 ≤ first) (f1 : first + 8 ≤ 4096) (b0 : 0 ≤ base) (b1 : base ≤ 512) (hk : ∀ j, j < 8 → (wordD ws t j).fKind = 0 ∨ (wordD ws t j).fKind = 3) :
    Calls Try.prog 109 #[v, .int .i64 first, .int .i64 base] w fun e w' => Ext w w' ∧ SlRet w.heap.size w' (fillN ws t base 8) (fillN ws t base 8).length e := by
  have HV := Lib.hid hv
  have HK := Lib.hid hk
  clear hv hk
  go_enter Try.func109, Try.ntmps109
  go_wp2_with fail
  go_loopw [0, 7, 10] (fun s o i wr => ∃ q : Nat, q ≤ 8 ∧ i = .int .i64 q ∧ Ext w wr ∧ Hid (SlRd w s 2 ((pgs ws t first q).map slotC)) ∧ Hid (wr.ownsRow w.heap.size 73 10 o (fillN ws t base q).length (CS (fillN ws t base q)))) (fun _ _ i _ => 8 - (intOf i).toNat)
  case atStart => exact ⟨0, by omega, rfl, (by repeat (first | exact Ext.refl _ | apply Ext.more | apply Ext.alloc | apply Ext.drew | apply Ext.drewN)), HV, by show World.ownsRow _ _ _ _ _ _ _; exact World.ownsRow_nil _ _ _ _⟩
  case round =>
    obtain ⟨q, hq, rfl, ⟨x, rfl⟩, HS, HO⟩ := hrel
    by_cases hlt : q < 8
    · have hfl := (fillN_len ws t base q).2
      by_cases h3 : (wordD ws t q).fKind = 3
      · have hS := HS.out
        rw [pgs_yes hlt h3, List.map_cons] at hS
        obtain ⟨pb, po, ps, cap, rfl, hc1, hc2, hc3, hc4, hc5⟩ := rd_tail hS
        have E := Lib.hid (show fillN ws t base (q + 1) = fillN ws t base q ++ copiesN (base + q) (wordD ws t q).fFrame 8 from by show _ ++ fillOne ws t base q = _; unfold fillOne; rw [if_pos h3])
        obtain ⟨rfl, y0⟩ := hc3 0 _ rfl
        obtain ⟨_, y1⟩ := hc3 1 _ rfl
        have hml := pgs_len (ws := ws) (t := t) (first := first) (i := q + 1)
        rw [List.length_map] at *
        have HC4 := Lib.hid hc4
        have HC5 := Lib.hid hc5
        generalize (wordD ws t q).fFrame = fr at *
        generalize (pgs ws t first (q + 1)).length = m at *
        have hb : pb < w.heap.size := World.block_lt_of_cell? _ _ y0
        obtain ⟨k1, k2, k3⟩ := lt_facts hb
        have hcm : cap ≤ 9223372036854775807 := by unfold maxLen at hc2; exact hc2
        simp only [Nat.add_zero] at y0
        clear hc3 hc4 hc5 hS HS HK h3 hc2
        go_wp2_with fail
        go_loopw [7, 33] (fun o i wr => ∃ k : Nat, k ≤ 8 ∧ i = .int .i64 k ∧ Ext w wr ∧ Hid (wr.ownsRow w.heap.size 73 10 o ((fillN ws t base q).length + k) (CS (fillN ws t base q) ++ CS (copiesN (base + q) fr k)))) (fun _ i _ => 8 - (intOf i).toNat)
        case atStart => exact ⟨0, by omega, rfl, (by repeat (first | exact Ext.refl _ | apply Ext.more | apply Ext.alloc | apply Ext.drew | apply Ext.drewN)), by show World.ownsRow _ _ _ _ _ _ _; simpa [copiesN, CS] using HO.out⟩
        case round =>
          obtain ⟨k, hk, rfl, ⟨x2, rfl⟩, HOk⟩ := hrel
          by_cases hlk : k < 8
          · have E2 := Lib.hid (show CS (copiesN (base + q) fr (k + 1)) = CS (copiesN (base + q) fr k) ++ (copyS (base + q) fr k).cells from by rw [copiesN_succ]; exact CS_snoc _ _)
            go_wp2_with ((at_builtin; refine wpList_append_new w el_Step rfl _ _ rfl u7 ((fillN ws t base q).length + k) _ rfl (by repeat (first | exact HOk.out | apply own_more | apply own_alloc | apply own_drew | apply own_drewN)) (by repeat (first | exact Ext.refl _ | apply Ext.more | apply Ext.alloc | apply Ext.drew | apply Ext.drewN)) _ _ 1 _ rfl (by simp) rfl rfl (by omega) ?_); intro v' x' HO' keep; clear keep)
            go_roundw
            case rel => exact ⟨k + 1, by omega, by go_num, (by repeat (first | exact Ext.refl _ | apply Ext.more | apply Ext.alloc | apply Ext.drew | apply Ext.drewN)), by
              show World.ownsRow _ _ _ _ _ _ _
              rw [E2.out, ← List.append_assoc]
              exact HO'.out⟩
            case measure => simp [intOf]; omega
          · obtain rfl : k = 8 := by omega
            have HO8 := Lib.hid (show (more w x2).ownsRow w.heap.size 73 10 u7 (fillN ws t base (q + 1)).length (CS (fillN ws t base (q + 1))) from by
              rw [E.out, CS_append, List.length_append, copiesN_len]
              exact HOk.out)
            clear hlk hk E HOk
            by_cases hc1' : cap = 1
            · have HS' := Lib.hid (HC4.out hc1')
              subst hc1'
              obtain rfl : m = 0 := by omega
              clear HC4 HC5
              go_wp2_with fail
              go_roundw
              case rel => exact ⟨q + 1, by omega, by go_num, (by repeat (first | exact Ext.refl _ | apply Ext.more | apply Ext.alloc | apply Ext.drew | apply Ext.drewN)), HS', HO8⟩
              case measure => simp [intOf]; omega
            · have HS' := Lib.hid (HC5.out hc1')
              clear HC4 HC5
              go_wp2_with fail
              go_roundw
              case rel => exact ⟨q + 1, by omega, by go_num, (by repeat (first | exact Ext.refl _ | apply Ext.more | apply Ext.alloc | apply Ext.drew | apply Ext.drewN)), HS', HO8⟩
              case measure => simp [intOf]; omega
      · have hS := HS.out
        rw [pgs_no hlt h3] at hS
        have HS' := Lib.hid hS
        have HIn := Lib.hid (fun z (hz : z ∈ pgs ws t first (q + 1)) => (show first + (q : Int) < z.1 from by obtain ⟨j, h1, _, _, rfl⟩ := pgs_in z hz; show first + (q : Int) < first + (j : Int); omega))
        have E := Lib.hid (show CS (fillN ws t base (q + 1)) = CS (fillN ws t base q) ++ (clearS (base + q)).cells from by show CS (_ ++ fillOne ws t base q) = _; unfold fillOne; rw [if_neg h3]; exact CS_snoc _ _)
        have El := Lib.hid (show (fillN ws t base (q + 1)).length = (fillN ws t base q).length + 1 from by show (_ ++ fillOne ws t base q).length = _; unfold fillOne; rw [if_neg h3]; simp)
        cases hp : pgs ws t first (q + 1) with
        | nil =>
          rw [hp] at hS
          rw [hp] at HS'
          have hv0 : ∃ a cap, u0 = .slice a 0 cap := by
            rcases hS with ⟨h1, _⟩ | ⟨b, o, s, cap, h1, _⟩
            · exact ⟨_, _, h1⟩
            · exact ⟨_, _, h1⟩
          obtain ⟨a0, c0, rfl⟩ := hv0
          have HSr := Lib.hid (show SlRd w (.slice a0 0 c0) 2 ((pgs ws t first (q + 1)).map slotC) from by rw [hp]; exact HS'.out)
          clear hS HS HS' HK h3 HIn hp
          go_wp2_with ((at_builtin; refine wpList_append_new w el_Step rfl _ _ rfl u7 (fillN ws t base q).length _ rfl (by repeat (first | exact HO.out | apply own_more | apply own_alloc | apply own_drew | apply own_drewN)) (by repeat (first | exact Ext.refl _ | apply Ext.more | apply Ext.alloc | apply Ext.drew | apply Ext.drewN)) _ _ 1 _ rfl (by simp) rfl rfl (by omega) ?_); intro v' x' HO' keep; clear keep)
          go_roundw
          case rel => exact ⟨q + 1, by omega, by go_num, (by repeat (first | exact Ext.refl _ | apply Ext.more | apply Ext.alloc | apply Ext.drew | apply Ext.drewN)), HSr, by
            show World.ownsRow _ _ _ _ _ _ _
            rw [E.out, El.out]
            exact HO'.out⟩
          case measure => simp [intOf]; omega
        | cons z rest =>
          have hlz := HIn.out z (by rw [hp]; exact .head _)
          have HSr := HS'
          rw [hp, List.map_cons] at hS
          obtain ⟨pb, po, ps, cap, rfl, hc1, hc2, hc3, _, _⟩ := rd_tail hS
          obtain ⟨rfl, y0⟩ := hc3 0 _ rfl
          have hml := pgs_len (ws := ws) (t := t) (first := first) (i := q + 1)
          rw [hp, List.length_cons] at hml
          rw [List.length_map] at *
          have hb : pb < w.heap.size := World.block_lt_of_cell? _ _ y0
          obtain ⟨k1, k2, k3⟩ := lt_facts hb
          have hcm : cap ≤ 9223372036854775807 := by unfold maxLen at hc2; exact hc2
          simp only [Nat.add_zero] at y0
          have hne : (z.1 != first + (q : Int)) = true := by simp; omega
          generalize rest.length = m at *
          generalize z.1 = za at *
          clear hS HS HS' HK h3 HIn hp hc3 hc2
          go_wp2_with ((at_builtin; refine wpList_append_new w el_Step rfl _ _ rfl u7 (fillN ws t base q).length _ rfl (by repeat (first | exact HO.out | apply own_more | apply own_alloc | apply own_drew | apply own_drewN)) (by repeat (first | exact Ext.refl _ | apply Ext.more | apply Ext.alloc | apply Ext.drew | apply Ext.drewN)) _ _ 1 _ rfl (by simp) rfl rfl (by omega) ?_); intro v' x' HO' keep; clear keep)
          go_roundw
          case rel => exact ⟨q + 1, by omega, by go_num, (by repeat (first | exact Ext.refl _ | apply Ext.more | apply Ext.alloc | apply Ext.drew | apply Ext.drewN)), HSr, by
            show World.ownsRow _ _ _ _ _ _ _
            rw [E.out, El.out]
            exact HO'.out⟩
          case measure => simp [intOf]; omega
    · obtain rfl : q = 8 := by omega
      go_wp2_with fail
      go_ret
      exact ⟨(by repeat (first | exact Ext.refl _ | apply Ext.more | apply Ext.alloc | apply Ext.drew | apply Ext.drewN)), slRet_mk HO.out (Nat.le_refl _) rfl rfl⟩

end Go.Proofs.Ytapeoeakiphfpaa

/- The contracts of the document's answers paviorref12.Many, paviorref12.Path. -/
namespace Go.Proofs.Ytapeoeakiphfpaa
open Go.RowKit
set_option linter.unusedVariables false
set_option linter.unusedSimpArgs false
attribute [local go_sem] setCell_drewN alloc_drewN lt_moreE le_moreE lt_moreK le_moreK cell_more frozen_more set_more drew_more drewN_more

theorem spanL_succ (l : Nat) (hl : l ≤ 2) : spanL (l : Int) = 8 * spanL ((l + 1 : Nat) : Int) := by
  have hls : l = 0 ∨ l = 1 ∨ l = 2 := by omega
  rcases hls with rfl | rfl | rfl <;> decide
theorem way_place {ws : List Int} {n page : Int} : ∀ (k : Nat) (l tb : Int) (s : List (Int × Int)) (d : Desc), wayAt ws n page k l tb = some (s, d) → ∀ (i : Nat) (z : Int × Int), s[i]? = some z → z.2 = placeN (l + i) page := by
  intro k
  induction k with
  | zero => intro l tb s d h; simp [wayAt] at h
  | succ k ih =>
    intro l tb s d h i z hz
    rw [wayAt_in rfl rfl rfl] at h
    split at h
    · simp only [Option.some.injEq, Prod.mk.injEq] at h
      rw [← h.1] at hz
      cases i with
      | zero => simp at hz; rw [← hz]; simp
      | succ i => simp at hz
    · split at h
      · rw [Option.map_eq_some_iff] at h
        obtain ⟨⟨s', d'⟩, h1, h2⟩ := h
        simp only [Prod.mk.injEq] at h2
        rw [← h2.1] at hz
        cases i with
        | zero => simp at hz; rw [← hz]; simp
        | succ i =>
          have := ih _ _ _ _ h1 i z (by simpa using hz)
          rw [this]; congr 1; simp; omega
      · cases h

section
variable {P : Program} {fn : Func} {p q r : Tmp} {ty : TypeId}
/-- Two results: a slot, a struct in memory. -/
theorem results_tc (h : fn.results = #[.tmp q, .cell p ty]) (tmps : Array Value) (w : World) (g : Nat) (t : TypeId) (cs : Array Value) (fr : Nat × Nat) (d : TypeDesc)
    (hp : tmps.getD p undef = .pointer (some ⟨g, 0, none⟩)) (hg : w.heap[g]? = some (.cells cs t fr))
    (hu : P.underlying ty = some d) (hd : (match d with | .struct _ | .array _ _ => true | _ => false) = true) (hi : (P.info? ty).map (·.size) = some cs.size) :
    (results fn tmps).run P w = .ok (.tuple #[tmps.getD q undef, .agg cs]) w := by
  have hp' : tmps[p]?.getD undef = .pointer (some ⟨g, 0, none⟩) := by simpa using hp
  simp [results, h, hp', asAddr, run_loadVar_row w g t ty cs fr d hg hu hd hi]
end
def RPathRet (B : Nat) (w' : World) (t : List Step × (Int × Int)) (e : Ending) : Prop := ∃ a cap, e = .returned (.tuple #[.slice a t.1.length cap, .agg #[.int .i64 t.2.1, .int .i64 t.2.2]]) ∧ OwnS w' B (.slice a t.1.length cap) t.1
theorem rpathRet_yes {B B' n : Nat} {w' : World} {t : List Step × (Int × Int)} {v : Value} {xs : List Value} {x y : Int} (hxy : t.2 = (x, y)) (h : w'.ownsRow B' 73 10 v n xs) (hb : B ≤ B') (hn : n = t.1.length) (hx : xs = (t.1.map Step.cells).flatten) : RPathRet B w' t (.returned (.tuple #[v, .agg #[.int .i64 x, .int .i64 y]])) := by
  obtain ⟨a, cap, rfl⟩ := own_form h
  subst hn hx
  exact ⟨a, cap, by rw [hxy], own_low h hb⟩

end Go.Proofs.Ytapeoeakiphfpaa

/- The law paviorlaw12.TreePaths. -/
namespace Go.Proofs.Ytapeoeakiphfpaa
open Go.RowKit
set_option linter.unusedVariables false
set_option linter.unusedSimpArgs false
attribute [local go_sem] setCell_drewN alloc_drewN lt_moreE le_moreE lt_moreK le_moreK cell_more frozen_more set_more drew_more drewN_more

theorem tree_PathR (w : World) {b g n c : Nat} {ws : List Int} (hm : MemAt w b g n c ws) (hw : WOk ws) (root asid page : Int) (L : Nat) (h0 : 0 ≤ root) (h1 : root < n) (p0 : 0 ≤ page) (p1 : page < 4096) (l0 : 1 ≤ L) (l1 : L < 4)
    (fresh : List Int) (v : Value) (hv : SlRd w v 1 (fresh.map intCells)) (hfl : fresh.length ≤ 1000) (r : Option (List (Int × Int) × Desc)) (hr : wayAt ws n page (L + 1) 0 root = r) (R : PathR) (hR : pathRes n asid page L fresh r = R) :
    Calls Try.prog 35 #[.pointer (some ⟨b, 0, none⟩), .int .i64 root, .int .i64 asid, .int .i64 page, .int .i64 L, v] w fun e w' => Ext w w' ∧ PathRet w.heap.size w' R e := hR ▸ tree_Path w hm hw root asid page L h0 h1 p0 p1 l0 l1 fresh v hv hfl r hr

theorem tree_Path_no (w : World) {b g n c : Nat} {ws : List Int} (hm : MemAt w b g n c ws) (root asid page level : Int) (v : Value) (h : ¬ (0 ≤ root ∧ root < n ∧ 0 ≤ page ∧ page < 4096 ∧ 1 ≤ level ∧ level < 4)) :
    Calls Try.prog 35 #[.pointer (some ⟨b, 0, none⟩), .int .i64 root, .int .i64 asid, .int .i64 page, .int .i64 level, v] w fun e w' => Ext w w' ∧ PathRet w.heap.size w' (.no 1) e :=
  tree_Path_err w _ root asid page level v 0 1 (fun w' hE => tree_Need_no w' (hm.kept0 hE.grow) root page level h)
theorem cells2 {w : World} {n : Nat} {T : TypeId} {a0 a1 : Value} (h : w.heap[n]? = some (.cells #[a0, a1] T (0, 0))) :
    w.cell? ⟨n, 0, none⟩ = some a0 ∧ w.cell? ⟨n, 1, none⟩ = some a1 ∧ ∀ i, w.frozen? ⟨n, i, none⟩ = false := by
  have key := fun i => cell_of_row w n i _ _ _ h
  exact ⟨key 0, key 1, fun i => frozen_of_row w n i _ _ h⟩

end Go.Proofs.Ytapeoeakiphfpaa
