import Derived.Test.YtapeoeakiphfpaaPlan
import Derived.Deep.QuietTactic
import Derived.BigQuiet
/- The contracts of plan.whole, plan.write, plan.away, plan.Clear. -/
namespace Go.Proofs.Ytapeoeakiphfpaa
open Go.RowKit
set_option linter.unusedVariables false
set_option linter.unusedSimpArgs false
attribute [local go_sem] setCell_drewN alloc_drewN lt_moreE le_moreE lt_moreK le_moreK cell_more frozen_more set_more drew_more drewN_more

/-- Has a leaf's block, or folded run, a page beyond some pages? -/
def powF (f : Found) : Int := if f.fOrder = 3 then 8 else if f.fOrder = 2 then 4 else 1
def beyF (a b : Int) (f : Found) : Bool := decide (f.fFirst < a) || decide (b < f.fFirst + powF f)
def wholeRes (asid a b : Int) : LeavesR → LeavesR
  | .no k => .no k
  | .yes l => if asid < 0 ∨ 255 < asid then .no 1 else if l.any (beyF a b) then .no 7 else .yes l
def LeavesOk (r : LeavesR) : Prop := ∀ l, r = .yes l → l.length ≤ 5000 ∧ ∀ f ∈ l, FOk f
theorem leaves_ok (ws : List Int) (n : Nat) (root a b : Int) : LeavesOk (leavesRes ws n root a b) := by
  intro l hl
  unfold leavesRes at hl
  split at hl
  · cases hl
  · split at hl
    · cases hl
    · split at hl
      · cases hl
      · rename_i l' hres
        cases hl
        have hlen := wholeAt_len 4097 0 l' (by omega) hres
        have := List.length_filter_le (inF a b) l'
        exact ⟨by omega, fun f hf => whole_ok hres f (List.mem_filter.1 hf).1⟩

set_option maxRecDepth 100000 in
set_option maxHeartbeats 8000000 in
theorem plan_whole (w : World) {b g n c : Nat} {ws : List Int} (hm : MemAt w b g n c ws) (hw : WOk ws) (root asid from_ to : Int) (hto : (Lit.int .i64 to).wf = true) (R : LeavesR) (hR : leavesRes ws n root from_ to = R) (Q : LeavesR) (hQ : wholeRes asid from_ to R = Q) :
    Calls Try.prog 95 #[.pointer (some ⟨b, 0, none⟩), .int .i64 root, .int .i64 asid, .int .i64 from_, .int .i64 to] w fun e w' => Ext w w' ∧ LeavesRet w.heap.size w' Q e := by
  have HL := Lib.hid (plan_Leaves w hm hw root from_ to hto R hR)
  have hok := leaves_ok ws n root from_ to
  rw [hR] at hok
  have t0 := i64_lo hto
  have t1 := i64_hi hto
  clear hm hw hR hto
  cases R with
  | no k =>
    have HV := Lib.hid (show Q = .no k from hQ.symm)
    clear hQ hok
    go_enter Try.func95, Try.ntmps95
    go_wp2_with fail
    refine HL.out.mono ?_
    rintro e w' ⟨⟨ex1, rfl⟩, rfl⟩
    go_wp2_with fail
    go_ret2
    exact ⟨(by repeat (first | exact Ext.refl _ | apply Ext.more | apply Ext.alloc | apply Ext.drew | apply Ext.drewN)), by rw [HV.out]; rfl⟩
  | yes l =>
    obtain ⟨hln, hk⟩ := hok l rfl
    have HK := Lib.hid hk
    by_cases ha : asid < 0 ∨ 255 < asid
    · have HV := Lib.hid (show Q = .no 1 from by rw [← hQ]; unfold wholeRes; dsimp only; rw [if_pos ha])
      have ha' : asid < 0 ∨ (0 ≤ asid ∧ 255 < asid) := by omega
      clear hQ hk ha HK
      rcases ha' with h | ⟨h, h1⟩
      all_goals
        go_enter Try.func95, Try.ntmps95
        go_wp2_with fail
        refine HL.out.mono ?_
        rintro e w' ⟨⟨ex1, rfl⟩, a, cap, rfl, _⟩
        go_wp2_with fail
        go_ret2
        exact ⟨(by repeat (first | exact Ext.refl _ | apply Ext.more | apply Ext.alloc | apply Ext.drew | apply Ext.drewN)), by rw [HV.out]; rfl⟩
    · have HVb := Lib.hid (fun h => (show Q = .no 7 from by rw [← hQ]; unfold wholeRes; dsimp only; rw [if_neg ha, if_pos h]))
      have HVg := Lib.hid (fun h => (show Q = .yes l from by rw [← hQ]; unfold wholeRes; dsimp only; rw [if_neg ha, if_neg h]))
      have ha0 : 0 ≤ asid := by omega
      have ha1 : asid ≤ 255 := by omega
      clear hQ hk ha
      go_enter Try.func95, Try.ntmps95
      go_wp2_with fail
      refine HL.out.mono ?_
      rintro e w' ⟨⟨ex1, rfl⟩, a, cap, rfl, hO⟩
      have hoc := own_cap hO
      have hm' : cap ≤ 9223372036854775807 := by have := hoc.2.2; unfold maxLen at this; exact this
      have hcl := hoc.2.1
      have HAt := Lib.hid (own_at hO)
      have HO := Lib.hid hO
      clear hO hoc
      go_wp2_with fail
      go_loopw [36] (fun i wr => ∃ q : Nat, q ≤ l.length ∧ i = .int .i64 q ∧ Ext (more w ex1) wr ∧ Hid (∀ (j : Nat) (f : Found), j < q → l[j]? = some f → beyF from_ to f = false)) (fun i _ => l.length - (intOf i).toNat)
      case atStart => exact ⟨0, by omega, rfl, (by repeat (first | exact Ext.refl _ | apply Ext.more | apply Ext.alloc | apply Ext.drew | apply Ext.drewN)), fun j f hj => by omega⟩
      case round =>
        obtain ⟨q, hq, rfl, ⟨x, rfl⟩, HE⟩ := hrel
        by_cases hlt : q < l.length
        · obtain ⟨gr, rfl, _, hgr, _, hx, _⟩ := HAt.out (by omega)
          have hz : l[q]? = some l[q] := List.getElem?_eq_getElem hlt
          obtain ⟨x0, x1, x2, x3, x4, x5, x6, x7, x8, x9, x10⟩ := found_at hx q _ hz
          have hok := HK.out _ (List.getElem_mem hlt)
          have HBad := Lib.hid (fun (h : beyF from_ to l[q] = true) => HVb.out (List.any_eq_true.2 ⟨_, List.getElem_mem hlt, h⟩))
          have HGo := Lib.hid (fun (h : beyF from_ to l[q] = false) (j : Nat) (f : Found) (hj : j < q + 1) (hf : l[j]? = some f) => (show beyF from_ to f = false from by
            by_cases e : j < q
            · exact HE.out j f e hf
            · obtain rfl : j = q := by omega
              rw [hz, Option.some.injEq] at hf
              subst hf
              exact h))
          obtain ⟨_, q0, q1, _, _, _, _, _, _, qo⟩ := hok
          clear hz hx
          generalize l[q] = z at *
          obtain ⟨F0, F1, F2, F3, F4, F5, F6, F7, F8, F9, F10⟩ := z
          dsimp only at x0 x1 x2 x3 x4 x5 x6 x7 x8 x9 x10 q0 q1 qo
          have hp : ∃ P : Int, powF ⟨F0, F1, F2, F3, F4, F5, F6, F7, F8, F9, F10⟩ = P ∧ 1 ≤ P ∧ P ≤ 8 ∧ (1 : Int) * 2 ^ F5.toNat = P := by
            rcases qo with rfl | rfl | rfl
            · exact ⟨1, rfl, by omega, by omega, rfl⟩
            · exact ⟨4, rfl, by omega, by omega, rfl⟩
            · exact ⟨8, rfl, by omega, by omega, rfl⟩
          by_cases c1 : F6 < from_
          · have hd1 : decide (F6 < from_) = true := by simpa using c1
            have HV := Lib.hid (HBad.out (by simp [beyF, c1]))
            clear HBad HGo hp HE
            go_wp2_with fail
            go_quiet (fail)
            go_wp2_with fail
            go_ret2
            exact ⟨(by repeat (first | exact Ext.refl _ | apply Ext.more | apply Ext.alloc | apply Ext.drew | apply Ext.drewN)), by rw [HV.out]; rfl⟩
          · have hd1 : decide (F6 < from_) = false := by simpa using c1
            have hF6 : from_ ≤ F6 := by omega
            clear c1
            rcases qo with rfl | rfl | rfl
            · have hwr : IntKind.i64.wrap (F6 + 1) = F6 + 1 := i64_wraps _ (by omega) (by omega)
              by_cases c2 : to < F6 + 1
              · have hd2 : decide (to < F6 + 1) = true := by simpa using c2
                have HV := Lib.hid (HBad.out (by simp [beyF, powF, c2]))
                clear HBad HGo hp HE
                go_wp2_with fail
                go_quiet (fail)
                go_wp2_with fail
                go_ret2
                exact ⟨(by repeat (first | exact Ext.refl _ | apply Ext.more | apply Ext.alloc | apply Ext.drew | apply Ext.drewN)), by rw [HV.out]; rfl⟩
              · have hd2 : decide (to < F6 + 1) = false := by simpa using c2
                have HN := Lib.hid (HGo.out (by simp [beyF, powF]; omega))
                clear HBad HGo hp HE
                go_wp2_with fail
                go_quiet (fail)
                go_wp2_with fail
                go_roundw
                case rel => exact ⟨q + 1, by omega, by go_num, (by repeat (first | exact Ext.refl _ | apply Ext.more | apply Ext.alloc | apply Ext.drew | apply Ext.drewN)), HN⟩
                case measure => simp [intOf]; omega
            · have hwr : IntKind.i64.wrap (F6 + 4) = F6 + 4 := i64_wraps _ (by omega) (by omega)
              by_cases c2 : to < F6 + 4
              · have hd2 : decide (to < F6 + 4) = true := by simpa using c2
                have HV := Lib.hid (HBad.out (by simp [beyF, powF, c2]))
                clear HBad HGo hp HE
                go_wp2_with fail
                go_quiet (fail)
                go_wp2_with fail
                go_ret2
                exact ⟨(by repeat (first | exact Ext.refl _ | apply Ext.more | apply Ext.alloc | apply Ext.drew | apply Ext.drewN)), by rw [HV.out]; rfl⟩
              · have hd2 : decide (to < F6 + 4) = false := by simpa using c2
                have HN := Lib.hid (HGo.out (by simp [beyF, powF]; omega))
                clear HBad HGo hp HE
                go_wp2_with fail
                go_quiet (fail)
                go_wp2_with fail
                go_roundw
                case rel => exact ⟨q + 1, by omega, by go_num, (by repeat (first | exact Ext.refl _ | apply Ext.more | apply Ext.alloc | apply Ext.drew | apply Ext.drewN)), HN⟩
                case measure => simp [intOf]; omega
            · have hwr : IntKind.i64.wrap (F6 + 8) = F6 + 8 := i64_wraps _ (by omega) (by omega)
              by_cases c2 : to < F6 + 8
              · have hd2 : decide (to < F6 + 8) = true := by simpa using c2
                have HV := Lib.hid (HBad.out (by simp [beyF, powF, c2]))
                clear HBad HGo hp HE
                go_wp2_with fail
                go_quiet (fail)
                go_wp2_with fail
                go_ret2
                exact ⟨(by repeat (first | exact Ext.refl _ | apply Ext.more | apply Ext.alloc | apply Ext.drew | apply Ext.drewN)), by rw [HV.out]; rfl⟩
              · have hd2 : decide (to < F6 + 8) = false := by simpa using c2
                have HN := Lib.hid (HGo.out (by simp [beyF, powF]; omega))
                clear HBad HGo hp HE
                go_wp2_with fail
                go_quiet (fail)
                go_wp2_with fail
                go_roundw
                case rel => exact ⟨q + 1, by omega, by go_num, (by repeat (first | exact Ext.refl _ | apply Ext.more | apply Ext.alloc | apply Ext.drew | apply Ext.drewN)), HN⟩
                case measure => simp [intOf]; omega
        · obtain rfl : q = l.length := by omega
          have HV := Lib.hid (HVg.out (by
            intro h
            obtain ⟨f, hf, hb⟩ := List.any_eq_true.1 h
            obtain ⟨j, hj, rfl⟩ := List.getElem_of_mem hf
            rw [HE.out j _ hj (List.getElem?_eq_getElem hj)] at hb
            cases hb))
          go_wp2_with fail
          go_ret2
          exact ⟨(by repeat (first | exact Ext.refl _ | apply Ext.more | apply Ext.alloc | apply Ext.drew | apply Ext.drewN)), leavesRet_yes HV.out (by repeat (first | exact HO.out | apply own_more | apply own_alloc | apply own_drew | apply own_drewN)) (by simp [size_more]) rfl rfl⟩

def wrF (asid v : Int) (f : Found) : Step := ⟨1, asid, f.fLevel, f.fTable, f.fPlace, ownF f, v, 0, 0, 0⟩
set_option maxHeartbeats 2000000 in
theorem plan_write (w : World) (f : Found) (h : FOk f) (asid v : Int) : Calls Try.prog 98 #[f.v, .int .i64 asid, .int .u64 v] w fun e w' => Ext w w' ∧ e = .returned (.agg #[.int .i64 1, .int .i64 asid, .int .i64 f.fLevel, .int .i64 f.fTable, .int .i64 f.fPlace, .int .i64 (ownF f), .int .u64 v, .int .i64 0, .int .i64 0, .int .i64 0]) := by
  have HOw := Lib.hid (fun w => plan_own w f h _ rfl)
  generalize ownF f = O at *
  obtain ⟨F0, F1, F2, F3, F4, F5, F6, F7, F8, F9, F10⟩ := f
  clear h
  dsimp only
  show Calls _ _ #[.agg #[.int .i64 F0, .int .i64 F1, .int .i64 F2, .int .i64 F3, .int .i64 F4, .int .i64 F5, .int .i64 F6, .int .i64 F7, .bool F8, .bool F9, .bool F10], .int .i64 asid, .int .u64 v] _ _
  go_enter Try.func98, Try.ntmps98
  go_wp2_with fail
  go_region_held3 (fun w' => w'.cell? ⟨w.heap.size, 0, none⟩ = some (.int .i64 F0) ∧ w'.cell? ⟨w.heap.size, 1, none⟩ = some (.int .i64 F1) ∧ w'.cell? ⟨w.heap.size, 2, none⟩ = some (.int .i64 F2) ∧ w'.cell? ⟨w.heap.size, 3, none⟩ = some (.int .i64 F3) ∧ w'.cell? ⟨w.heap.size, 4, none⟩ = some (.int .i64 F4) ∧ w'.cell? ⟨w.heap.size, 5, none⟩ = some (.int .i64 F5) ∧ w'.cell? ⟨w.heap.size, 6, none⟩ = some (.int .i64 F6) ∧ w'.cell? ⟨w.heap.size, 7, none⟩ = some (.int .i64 F7) ∧ w'.cell? ⟨w.heap.size, 8, none⟩ = some (.bool F8) ∧ w'.cell? ⟨w.heap.size, 9, none⟩ = some (.bool F9) ∧ w'.cell? ⟨w.heap.size, 10, none⟩ = some (.bool F10)) (first | (go_simp; done) | (dsimp only; refine ⟨?_, ?_, ?_, ?_, ?_, ?_, ?_, ?_, ?_, ?_, ?_⟩ <;> go_simp))
    ((go_at_call 100; refine (HOw.out _).mono ?_; rintro e w' ⟨⟨ex3, rfl⟩, rfl⟩))
  all_goals
    go_wp2_with fail
    refine bodyPost_ret (results_cell_row rfl _ _ (w.heap.size + 1) 73 _ (0, 0) _ rfl (by first | exact box_more (heap_alloc_at _ _ (by simp)) _ | exact heap_alloc_at _ _ (by simp)) Try.underlying73 rfl (by kernel_rfl)) rfl ?_
    exact ⟨(by repeat (first | exact Ext.refl _ | apply Ext.more | apply Ext.alloc | apply Ext.drew | apply Ext.drewN)), rfl⟩

end Go.Proofs.Ytapeoeakiphfpaa

/- The contracts of plan.away, plan.Clear. -/
namespace Go.Proofs.Ytapeoeakiphfpaa
open Go.RowKit
set_option linter.unusedVariables false
set_option linter.unusedSimpArgs false
attribute [local go_sem] setCell_drewN alloc_drewN lt_moreE le_moreE lt_moreK le_moreK cell_more frozen_more set_more drew_more drewN_more

/-- The steps that tell a leaf's pages. -/
def tellF (asid : Int) (f : Found) : List Step := tellsN asid (ownF f) (pagesF f).toNat
def tellA (asid : Int) (l : List Found) : List Step := (l.map (tellF asid)).flatten
def awayL (asid : Int) (l : List Found) : List Step := l.map (wrF asid 0) ++ tellA asid l
theorem tellF_len (asid : Int) (f : Found) : (tellF asid f).length ≤ 8 := by unfold tellF pagesF; rw [tellsN_len]; split <;> decide
theorem tellA_snoc (asid : Int) (l : List Found) (f : Found) : tellA asid (l ++ [f]) = tellA asid l ++ tellF asid f := by simp [tellA]
theorem tellA_len (asid : Int) : ∀ l : List Found, (tellA asid l).length ≤ 8 * l.length := by
  intro l
  induction l with
  | nil => simp [tellA]
  | cons x t ih => have := tellF_len asid x; simp only [tellA, List.map_cons, List.flatten_cons, List.length_append, List.length_cons] at ih ⊢; omega

/-- The cells of a block of eleven. -/
theorem cellsF {w : World} {n : Nat} {T : TypeId} {a0 a1 a2 a3 a4 a5 a6 a7 a8 a9 a10 : Value} (h : w.heap[n]? = some (.cells #[a0, a1, a2, a3, a4, a5, a6, a7, a8, a9, a10] T (0, 0))) :
    w.cell? ⟨n, 0, none⟩ = some a0 ∧ w.cell? ⟨n, 1, none⟩ = some a1 ∧ w.cell? ⟨n, 2, none⟩ = some a2 ∧ w.cell? ⟨n, 3, none⟩ = some a3 ∧ w.cell? ⟨n, 4, none⟩ = some a4 ∧ w.cell? ⟨n, 5, none⟩ = some a5 ∧ w.cell? ⟨n, 6, none⟩ = some a6 ∧ w.cell? ⟨n, 7, none⟩ = some a7 ∧ w.cell? ⟨n, 8, none⟩ = some a8 ∧ w.cell? ⟨n, 9, none⟩ = some a9 ∧ w.cell? ⟨n, 10, none⟩ = some a10 ∧ n < w.heap.size := by
  have key := fun i => cell_of_row w n i _ _ _ h
  exact ⟨key 0, key 1, key 2, key 3, key 4, key 5, key 6, key 7, key 8, key 9, key 10, (Array.getElem?_eq_some_iff.1 h).1⟩

theorem ne_of_blk {w : World} {v v' : Value} {wb : Nat} {ob : Obj} (hb : w.heap[wb]? = some ob) (hne : v.ownBlock ≠ some wb) (blk : v'.ownBlock = v.ownBlock ∨ ∃ g, v'.ownBlock = some g ∧ w.heap.size ≤ g) : v'.ownBlock ≠ some wb := by
  rcases blk with e | ⟨g, e, hg⟩
  · rw [e]; exact hne
  · rw [e]
    intro h
    cases h
    have := (Array.getElem?_eq_some_iff.1 hb).1
    omega

set_option maxRecDepth 100000 in
set_option maxHeartbeats 8000000 in
theorem plan_away (w : World) {B cap : Nat} {a : Option Addr} {l : List Found} (HO : w.ownsRow B 80 11 (.slice a l.length cap) l.length (l.map Found.cells).flatten) (hk : ∀ f ∈ l, FOk f) (hln : l.length ≤ 5000) (asid : Int) :
    Calls Try.prog 96 #[.slice a l.length cap, .int .i64 asid] w fun e w' => Ext w w' ∧ SlRet w.heap.size w' (awayL asid l) (awayL asid l).length e := by
  have hoc := own_cap HO
  have hm' : cap ≤ 9223372036854775807 := by have := hoc.2.2; unfold maxLen at this; exact this
  have hcl := hoc.2.1
  have HAt := Lib.hid (own_at HO)
  have HK := Lib.hid hk
  clear HO hoc hk
  go_enter Try.func96, Try.ntmps96
  go_wp2_with fail
  go_loopw [5, 13] (fun o i wr => ∃ q : Nat, q ≤ l.length ∧ i = .int .i64 q ∧ Ext w wr ∧ Hid (wr.ownsRow w.heap.size 73 10 o q (CS ((l.take q).map (wrF asid 0))))) (fun _ i _ => l.length - (intOf i).toNat)
  case atStart => exact ⟨0, by omega, rfl, (by repeat (first | exact Ext.refl _ | apply Ext.more | apply Ext.alloc | apply Ext.drew | apply Ext.drewN)), World.ownsRow_nil _ _ _ _⟩
  case round =>
    obtain ⟨q, hq, rfl, ⟨x, rfl⟩, HO⟩ := hrel
    by_cases hlt : q < l.length
    · obtain ⟨gr, rfl, _, hgr, _, hx, _⟩ := HAt.out (by omega)
      obtain ⟨hg1, hg2, hg3⟩ := lt_facts hgr
      have hz : l[q]? = some l[q] := List.getElem?_eq_getElem hlt
      obtain ⟨x0, x1, x2, x3, x4, x5, x6, x7, x8, x9, x10⟩ := found_at hx q _ hz
      have hok := HK.out _ (List.getElem_mem hlt)
      have E := Lib.hid (show CS ((l.take (q + 1)).map (wrF asid 0)) = CS ((l.take q).map (wrF asid 0)) ++ (wrF asid 0 l[q]).cells from by rw [take_snoc hz, List.map_append, List.map_cons, List.map_nil, CS_snoc])
      have HWr := Lib.hid (fun w => plan_write w _ hok asid 0)
      clear hz hx hok
      have hwf : ∀ f, wrF asid 0 f = ⟨1, asid, f.fLevel, f.fTable, f.fPlace, ownF f, 0, 0, 0, 0⟩ := fun f => rfl
      rw [hwf] at E
      clear hwf
      generalize l[q] = z at *
      generalize ownF z = O at *
      obtain ⟨F0, F1, F2, F3, F4, F5, F6, F7, F8, F9, F10⟩ := z
      dsimp only at x0 x1 x2 x3 x4 x5 x6 x7 x8 x9 x10 E HWr
      go_wp2_with fail
      refine (HWr.out _).mono ?_
      rintro e w' ⟨⟨ex2, rfl⟩, rfl⟩
      go_wp2_with ((at_builtin; refine wpList_append_new w el_Step rfl _ _ rfl u5 q _ rfl (by repeat (first | exact HO.out | apply own_more | apply own_alloc | apply own_drew | apply own_drewN)) (by repeat (first | exact Ext.refl _ | apply Ext.more | apply Ext.alloc | apply Ext.drew | apply Ext.drewN)) _ _ 1 _ rfl (by simp) rfl rfl (by omega) ?_); intro v' x' HO' keep; clear keep)
      go_roundw
      case rel => exact ⟨q + 1, by omega, by go_num, (by repeat (first | exact Ext.refl _ | apply Ext.more | apply Ext.alloc | apply Ext.drew | apply Ext.drewN)), by
        show World.ownsRow _ _ _ _ _ _ _
        rw [E.out]
        exact HO'.out⟩
      case measure => simp [intOf]; omega
    · obtain rfl : q = l.length := by omega
      rw [List.take_length] at HO
      go_wp2_with fail
      go_loopw [5, 26] (fun o i wr => ∃ q : Nat, q ≤ l.length ∧ i = .int .i64 q ∧ Ext w wr ∧ Hid (wr.ownsRow w.heap.size 73 10 o (l.length + (tellA asid (l.take q)).length) (CS (l.map (wrF asid 0)) ++ CS (tellA asid (l.take q))))) (fun _ i _ => l.length - (intOf i).toNat)
      case atStart => exact ⟨0, by omega, rfl, (by repeat (first | exact Ext.refl _ | apply Ext.more | apply Ext.alloc | apply Ext.drew | apply Ext.drewN)), by show World.ownsRow _ _ _ _ _ _ _; simpa [tellA, CS] using HO.out⟩
      case round =>
        obtain ⟨q, hq, rfl, ⟨x, rfl⟩, HO⟩ := hrel
        by_cases hlt : q < l.length
        · obtain ⟨gr, rfl, _, hgr, _, hx, _⟩ := HAt.out (by omega)
          obtain ⟨hg1, hg2, hg3⟩ := lt_facts hgr
          have hz : l[q]? = some l[q] := List.getElem?_eq_getElem hlt
          obtain ⟨x0, x1, x2, x3, x4, x5, x6, x7, x8, x9, x10⟩ := found_at hx q _ hz
          have hok := HK.out _ (List.getElem_mem hlt)
          have htl := tellA_len asid (l.take q)
          rw [List.length_take] at htl
          have hsn := tellA_snoc asid (l.take q) l[q]
          rw [← take_snoc hz] at hsn
          have E := Lib.hid hsn
          generalize tellA asid (l.take q) = out at *
          have HOw := Lib.hid (fun w => plan_own w _ hok _ rfl)
          have HPg := Lib.hid (fun w => plan_pages w _ hok.leaf _ rfl)
          have ho0 := hok.own0
          have ho1 := hok.own1
          obtain ⟨N, hN⟩ : ∃ N : Nat, pagesF l[q] = (N : Int) ∧ N ≤ 8 := by unfold pagesF; split <;> first | exact ⟨8, rfl, by omega⟩ | exact ⟨1, rfl, by omega⟩
          obtain ⟨hN, hN8⟩ := hN
          have E2 := Lib.hid (show tellF asid l[q] = tellsN asid (ownF l[q]) N from by unfold tellF; rw [hN]; rfl)
          rw [hN] at HPg ho1
          have hol : out.length ≤ 40000 := by omega
          clear hz hx hok hN hsn htl
          generalize l[q] = z at *
          generalize ownF z = O at *
          obtain ⟨F0, F1, F2, F3, F4, F5, F6, F7, F8, F9, F10⟩ := z
          dsimp only at x0 x1 x2 x3 x4 x5 x6 x7 x8 x9 x10
          go_wp2_with fail
          refine (HOw.out _).mono ?_
          rintro e w' ⟨⟨ex2, rfl⟩, rfl⟩
          go_wp2_with fail
          go_loopw [5, 10] (fun o p wr => ∃ k : Nat, k ≤ N ∧ p = .int .i64 (O + k) ∧ Ext w wr ∧ Hid (wr.heap[(more w x).heap.size]? = some (.cells #[.int .i64 F0, .int .i64 F1, .int .i64 F2, .int .i64 F3, .int .i64 F4, .int .i64 F5, .int .i64 F6, .int .i64 F7, .bool F8, .bool F9, .bool F10] 80 (0, 0))) ∧ Hid (o.ownBlock ≠ some (more w x).heap.size) ∧ Hid (wr.ownsRow w.heap.size 73 10 o (l.length + out.length + k) ((CS (l.map (wrF asid 0)) ++ CS out) ++ CS (tellsN asid O k)))) (fun _ p _ => (O + N - intOf p).toNat)
          case atStart => exact ⟨0, by omega, by simp, (by repeat (first | exact Ext.refl _ | apply Ext.more | apply Ext.alloc | apply Ext.drew | apply Ext.drewN)), (by show _ = _; exact (by repeat (first | (with_reducible exact heap_alloc_new _ _) | (with_reducible apply box_more) | (with_reducible apply box_alloc) | (with_reducible apply box_drew) | (with_reducible apply box_drewN)))), (by intro e_; exact Nat.lt_irrefl _ (World.ownsRow.lt HO.out _ e_).2), by show World.ownsRow _ _ _ _ _ (l.length + out.length) ((CS (l.map (wrF asid 0)) ++ CS out) ++ []); rw [List.append_nil]; exact (by repeat (first | (with_reducible apply own_alloc) | (with_reducible apply own_drew) | (with_reducible apply own_drewN) | exact HO.out | (with_reducible apply own_more)))⟩
          case round =>
            obtain ⟨k, hkN, rfl, ⟨x', rfl⟩, HBx, HNe, HO2⟩ := hrel
            generalize hwb : (more w x).heap.size = wb at *
            clear hwb
            obtain ⟨b0, b1, b2, b3, b4, b5, b6, b7, b8, b9, b10, blt⟩ := cellsF HBx.out
            have hwr : IntKind.i64.wrap (O + (N : Int)) = O + N := i64_wraps _ (by omega) (by omega)
            by_cases hlt3 : k < N
            · have hd : O + (k : Int) < O + N := by omega
              have E3 := Lib.hid (show CS (tellsN asid O (k + 1)) = CS (tellsN asid O k) ++ (tellS asid (O + k)).cells from by rw [tellsN_succ, CS_snoc])
              go_wp2_with fail
              go_region_held3 (fun w' => w'.cell? ⟨wb, 0, none⟩ = some (.int .i64 F0) ∧ w'.cell? ⟨wb, 1, none⟩ = some (.int .i64 F1) ∧ w'.cell? ⟨wb, 2, none⟩ = some (.int .i64 F2) ∧ w'.cell? ⟨wb, 3, none⟩ = some (.int .i64 F3) ∧ w'.cell? ⟨wb, 4, none⟩ = some (.int .i64 F4) ∧ w'.cell? ⟨wb, 5, none⟩ = some (.int .i64 F5) ∧ w'.cell? ⟨wb, 6, none⟩ = some (.int .i64 F6) ∧ w'.cell? ⟨wb, 7, none⟩ = some (.int .i64 F7) ∧ w'.cell? ⟨wb, 8, none⟩ = some (.bool F8) ∧ w'.cell? ⟨wb, 9, none⟩ = some (.bool F9) ∧ w'.cell? ⟨wb, 10, none⟩ = some (.bool F10)) (first | (go_simp; done) | (dsimp only; refine ⟨?_, ?_, ?_, ?_, ?_, ?_, ?_, ?_, ?_, ?_, ?_⟩ <;> go_simp))
                ((first
                  | (go_at_call 100; refine (HOw.out _).mono ?_; rintro e w' ⟨⟨ex3, rfl⟩, rfl⟩)
                  | (go_at_call 101; refine (HPg.out _).mono ?_; rintro e w' ⟨⟨ex4, rfl⟩, rfl⟩)))
              all_goals
                go_wp2_with ((at_builtin; refine wpList_append_newB w el_Step rfl _ _ rfl u5 (l.length + out.length + k) _ rfl (by repeat (first | exact HO2.out | apply own_more | apply own_alloc | apply own_drew | apply own_drewN)) (by repeat (first | exact Ext.refl _ | apply Ext.more | apply Ext.alloc | apply Ext.drew | apply Ext.drewN)) _ _ 1 _ rfl (by simp) rfl rfl (by omega) ?_); intro v' x2' HO' keep blk; have HB' := Lib.hid (keep wb _ (by repeat (first | exact HBx.out | apply box_more | apply box_alloc | apply box_drew | apply box_drewN)) HNe.out); have HN' := Lib.hid (ne_of_blk (by repeat (first | exact HBx.out | apply box_more | apply box_alloc | apply box_drew | apply box_drewN)) HNe.out blk); clear keep blk)
                go_roundw
                case rel => exact ⟨k + 1, by omega, by rw [show O + (k : Int) + 1 = O + ((k + 1 : Nat) : Int) by omega], (by repeat (first | exact Ext.refl _ | apply Ext.more | apply Ext.alloc | apply Ext.drew | apply Ext.drewN)), HB', HN', by
                  show World.ownsRow _ _ _ _ _ _ _
                  rw [E3.out, ← List.append_assoc]
                  exact HO'.out⟩
                case measure => simp [intOf]; omega
            · obtain rfl : k = N := by omega
              have hd : ¬ (O + (k : Int) < O + k) := by omega
              go_wp2_with fail
              go_region_held3 (fun w' => w'.cell? ⟨wb, 0, none⟩ = some (.int .i64 F0) ∧ w'.cell? ⟨wb, 1, none⟩ = some (.int .i64 F1) ∧ w'.cell? ⟨wb, 2, none⟩ = some (.int .i64 F2) ∧ w'.cell? ⟨wb, 3, none⟩ = some (.int .i64 F3) ∧ w'.cell? ⟨wb, 4, none⟩ = some (.int .i64 F4) ∧ w'.cell? ⟨wb, 5, none⟩ = some (.int .i64 F5) ∧ w'.cell? ⟨wb, 6, none⟩ = some (.int .i64 F6) ∧ w'.cell? ⟨wb, 7, none⟩ = some (.int .i64 F7) ∧ w'.cell? ⟨wb, 8, none⟩ = some (.bool F8) ∧ w'.cell? ⟨wb, 9, none⟩ = some (.bool F9) ∧ w'.cell? ⟨wb, 10, none⟩ = some (.bool F10)) (first | (go_simp; done) | (dsimp only; refine ⟨?_, ?_, ?_, ?_, ?_, ?_, ?_, ?_, ?_, ?_, ?_⟩ <;> go_simp))
                ((first
                  | (go_at_call 100; refine (HOw.out _).mono ?_; rintro e w' ⟨⟨ex3, rfl⟩, rfl⟩)
                  | (go_at_call 101; refine (HPg.out _).mono ?_; rintro e w' ⟨⟨ex4, rfl⟩, rfl⟩)))
              all_goals
                go_wp2_with fail
                go_roundw
                case rel => exact ⟨q + 1, by omega, by go_num, (by repeat (first | exact Ext.refl _ | apply Ext.more | apply Ext.alloc | apply Ext.drew | apply Ext.drewN)), by
                  show World.ownsRow _ _ _ _ _ _ _
                  rw [E.out, E2.out, CS_append, ← List.append_assoc, List.length_append, tellsN_len, ← Nat.add_assoc]
                  exact (by repeat (first | (with_reducible apply own_alloc) | (with_reducible apply own_drew) | (with_reducible apply own_drewN) | exact HO2.out | (with_reducible apply own_more)))⟩
                case measure => simp [intOf]; omega
        · obtain rfl : q = l.length := by omega
          rw [List.take_length] at HO
          go_wp2_with fail
          go_ret
          exact ⟨(by repeat (first | exact Ext.refl _ | apply Ext.more | apply Ext.alloc | apply Ext.drew | apply Ext.drewN)), slRet_mk HO.out (Nat.le_refl _) (by simp [awayL]) (by unfold awayL; rw [CS_append])⟩

def clearRes (asid : Int) : LeavesR → StepsR
  | .no k => .no k
  | .yes l => .yes (awayL asid l)
theorem whole_ok2 {asid a b : Int} {R Q : LeavesR} (h : LeavesOk R) (hQ : wholeRes asid a b R = Q) : LeavesOk Q := by
  intro l hl
  subst hl
  cases R with
  | no k => cases hQ
  | yes l' =>
    unfold wholeRes at hQ
    dsimp only at hQ
    split at hQ
    · cases hQ
    · split at hQ
      · cases hQ
      · cases hQ; exact h _ rfl
set_option maxHeartbeats 2000000 in
theorem plan_Clear (w : World) {b g n c : Nat} {ws : List Int} (hm : MemAt w b g n c ws) (hw : WOk ws) (root asid from_ to : Int) (hto : (Lit.int .i64 to).wf = true) (Q : LeavesR) (hQ : wholeRes asid from_ to (leavesRes ws n root from_ to) = Q) :
    Calls Try.prog 48 #[.pointer (some ⟨b, 0, none⟩), .int .i64 root, .int .i64 asid, .int .i64 from_, .int .i64 to] w fun e w' => Ext w w' ∧ StepsRet w.heap.size w' (clearRes asid Q) e := by
  have HL := Lib.hid (plan_whole w hm hw root asid from_ to hto _ rfl Q hQ)
  have hok := whole_ok2 (leaves_ok ws n root from_ to) hQ
  clear hm hw hQ hto
  cases Q with
  | no k =>
    clear hok
    go_enter Try.func48, Try.ntmps48
    go_wp2_with fail
    refine HL.out.mono ?_
    rintro e w' ⟨⟨ex1, rfl⟩, rfl⟩
    go_wp2_with fail
    go_ret2
    exact ⟨(by repeat (first | exact Ext.refl _ | apply Ext.more | apply Ext.alloc | apply Ext.drew | apply Ext.drewN)), rfl⟩
  | yes l =>
    obtain ⟨hln, hk⟩ := hok l rfl
    have HA := Lib.hid (fun w B cap a hO => plan_away w (B := B) (cap := cap) (a := a) (l := l) hO hk hln asid)
    clear hok hk
    go_enter Try.func48, Try.ntmps48
    go_wp2_with fail
    refine HL.out.mono ?_
    rintro e w' ⟨⟨ex1, rfl⟩, a, cap, rfl, hO⟩
    have HO := Lib.hid hO
    clear hO
    go_wp2_with fail
    refine (HA.out _ _ _ _ (by repeat (first | exact HO.out | apply own_more | apply own_alloc | apply own_drew | apply own_drewN))).mono ?_
    rintro e w' ⟨⟨ex2, rfl⟩, a2, c2, rfl, hO2⟩
    have HO2 := Lib.hid hO2
    clear hO2
    go_wp2_with fail
    go_ret2
    exact ⟨(by repeat (first | exact Ext.refl _ | apply Ext.more | apply Ext.alloc | apply Ext.drew | apply Ext.drewN)), stepsRet_yes rfl HO2.out (by simp [size_more]) rfl rfl⟩

end Go.Proofs.Ytapeoeakiphfpaa
