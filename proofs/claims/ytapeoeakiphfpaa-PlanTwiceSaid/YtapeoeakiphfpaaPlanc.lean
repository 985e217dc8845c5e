import Derived.Test.YtapeoeakiphfpaaPlan
import Derived.Deep.QuietTactic
import Derived.BigQuiet
/- The contracts of plan.whole, plan.write, plan.away, plan.Clear. -/
namespace Go.Proofs.Ytapeoeakiphfpaa
open Go.RowKit
set_option linter.unusedVariables false
set_option linter.unusedSimpArgs false
attribute [local go_sem] setCell_drewN alloc_drewN lt_moreE le_moreE lt_moreK le_moreK cell_more frozen_more set_more drew_more drewN_more

/-- Has a leaf's block, or folded run, a page beyond some pages? -/
def powF (f : Found) : Int := if f.fOrder = 3 then 8 else if f.fOrder = 2 then 4 else 1
def beyF (a b : Int) (f : Found) : Bool := decide (f.fFirst < a) || decide (b < f.fFirst + powF f)
def wholeRes (asid a b : Int) : LeavesR → LeavesR
  | .no k => .no k
  | .yes l => if asid < 0 ∨ 255 < asid then .no 1 else if l.any (beyF a b) then .no 7 else .yes l
def LeavesOk (r : LeavesR) : Prop := ∀ l, r = .yes l → l.length ≤ 5000 ∧ ∀ f ∈ l, FOk f
theorem leaves_ok (ws : List Int) (n : Nat) (root a b : Int) : LeavesOk (leavesRes ws n root a b) := by
  intro l hl
  unfold leavesRes at hl
  split at hl
  · cases hl
  · split at hl
    · cases hl
    · split at hl
      · cases hl
      · rename_i l' hres
        cases hl
        have hlen := wholeAt_len 4097 0 l' (by omega) hres
        have := List.length_filter_le (inF a b) l'
        exact ⟨by omega, fun f hf => whole_ok hres f (List.mem_filter.1 hf).1⟩

set_option maxRecDepth 100000 in
set_option maxHeartbeats 8000000 in
theorem plan_whole (w : World) {b g n c : Nat} {ws : List Int} (hm : MemAt w b g n c ws) (hw : WOk ws) (root asid from_ to : Int) (hto : (Lit.int .i64 to).wf = true) (R : LeavesR) (hR : leavesRes ws n root from_ to = R) (Q : LeavesR) (hQ : wholeRes asid from_ to R = Q) :
    Calls Try.prog 95 #[.pointer (some ⟨b, 0, none⟩), .int .i64 root, .int .i64 asid, .int .i64 from_, .int .i64 to] w fun e w' => Ext w w' ∧ LeavesRet w.heap.size w' Q e := by
  have HL := Lib.hid (plan_Leaves w hm hw root from_ to hto R hR)
  have hok := leaves_ok ws n root from_ to
  rw [hR] at hok
  have t0 := i64_lo hto
  have t1 := i64_hi hto
  clear hm hw hR hto
  cases R with
  | no k =>
    have HV := Lib.hid (show Q = .no k from hQ.symm)
    clear hQ hok
    go_enter Try.func95, Try.ntmps95
    go_wp2_with fail
    refine HL.out.mono ?_
    rintro e w' ⟨⟨ex1, rfl⟩, rfl⟩
    go_wp2_with fail
    go_ret2
    exact ⟨(by repeat (first | exact Ext.refl _ | apply Ext.more | apply Ext.alloc | apply Ext.drew | apply Ext.drewN)), by rw [HV.out]; rfl⟩
  | yes l =>
    obtain ⟨hln, hk⟩ := hok l rfl
    have HK := Lib.hid hk
    by_cases ha : asid < 0 ∨ 255 < asid
    · have HV := Lib.hid (show Q = .no 1 from by rw [← hQ]; unfold wholeRes; dsimp only; rw [if_pos ha])
      have ha' : asid < 0 ∨ (0 ≤ asid ∧ 255 < asid) := by omega
      clear hQ hk ha HK
      rcases ha' with h | ⟨h, h1⟩
      all_goals
        go_enter Try.func95, Try.ntmps95
        go_wp2_with fail
        refine HL.out.mono ?_
        rintro e w' ⟨⟨ex1, rfl⟩, a, cap, rfl, _⟩
        go_wp2_with fail
        go_ret2
        exact ⟨(by repeat (first | exact Ext.refl _ | apply Ext.more | apply Ext.alloc | apply Ext.drew | apply Ext.drewN)), by rw [HV.out]; rfl⟩
    · have HVb := Lib.hid (fun h => (show Q = .no 7 from by rw [← hQ]; unfold wholeRes; dsimp only; rw [if_neg ha, if_pos h]))
      have HVg := Lib.hid (fun h => (show Q = .yes l from by rw [← hQ]; unfold wholeRes; dsimp only; rw [if_neg ha, if_neg h]))
      have ha0 : 0 ≤ asid := by omega
      have ha1 : asid ≤ 255 := by omega
      clear hQ hk ha
      go_enter Try.func95, Try.ntmps95
      go_wp2_with fail
      refine HL.out.mono ?_
      rintro e w' ⟨⟨ex1, rfl⟩, a, cap, rfl, hO⟩
      have hoc := own_cap hO
      have hm' : cap ≤ 9223372036854775807 := by have := hoc.2.2; unfold maxLen at this; exact this
      have hcl := hoc.2.1
      have HAt := Lib.hid (own_at hO)
      have HO := Lib.hid hO
      clear hO hoc
      go_wp2_with fail
      go_loopw [36] (fun i wr => ∃ q : Nat, q ≤ l.length ∧ i = .int .i64 q ∧ Ext (more w ex1) wr ∧ Hid (∀ (j : Nat) (f : Found), j < q → l[j]? = some f → beyF from_ to f = false)) (fun i _ => l.length - (intOf i).toNat)
      case atStart => exact ⟨0, by omega, rfl, (by repeat (first | exact Ext.refl _ | apply Ext.more | apply Ext.alloc | apply Ext.drew | apply Ext.drewN)), fun j f hj => by omega⟩
      case round =>
        obtain ⟨q, hq, rfl, ⟨x, rfl⟩, HE⟩ := hrel
        by_cases hlt : q < l.length
        · obtain ⟨gr, rfl, _, hgr, _, hx, _⟩ := HAt.out (by omega)
          have hz : l[q]? = some l[q] := List.getElem?_eq_getElem hlt
          obtain ⟨x0, x1, x2, x3, x4, x5, x6, x7, x8, x9, x10⟩ := found_at hx q _ hz
          have hok := HK.out _ (List.getElem_mem hlt)
          have HBad := Lib.hid (fun (h : beyF from_ to l[q] = true) => HVb.out (List.any_eq_true.2 ⟨_, List.getElem_mem hlt, h⟩))
          have HGo := Lib.hid (fun (h : beyF from_ to l[q] = false) (j : Nat) (f : Found) (hj : j < q + 1) (hf : l[j]? = some f) => (show beyF from_ to f = false from by
            by_cases e : j < q
            · exact HE.out j f e hf
            · obtain rfl : j = q := by omega
              rw [hz, Option.some.injEq] at hf
              subst hf
              exact h))
          obtain ⟨_, q0, q1, _, _, _, _, _, _, qo⟩ := hok
          clear hz hx
          generalize l[q] = z at *
          obtain ⟨F0, F1, F2, F3, F4, F5, F6, F7, F8, F9, F10⟩ := z
          dsimp only at x0 x1 x2 x3 x4 x5 x6 x7 x8 x9 x10 q0 q1 qo
          have hp : ∃ P : Int, powF ⟨F0, F1, F2, F3, F4, F5, F6, F7, F8, F9, F10⟩ = P ∧ 1 ≤ P ∧ P ≤ 8 ∧ (1 : Int) * 2 ^ F5.toNat = P := by
            rcases qo with rfl | rfl | rfl
            · exact ⟨1, rfl, by omega, by omega, rfl⟩
            · exact ⟨4, rfl, by omega, by omega, rfl⟩
            · exact ⟨8, rfl, by omega, by omega, rfl⟩
          by_cases c1 : F6 < from_
          · have hd1 : decide (F6 < from_) = true := by simpa using c1
            have HV := Lib.hid (HBad.out (by simp [beyF, c1]))
            clear HBad HGo hp HE
            go_wp2_with fail
            go_quiet (fail)
            go_wp2_with fail
            go_ret2
            exact ⟨(by repeat (first | exact Ext.refl _ | apply Ext.more | apply Ext.alloc | apply Ext.drew | apply Ext.drewN)), by rw [HV.out]; rfl⟩
          · have hd1 : decide (F6 < from_) = false := by simpa using c1
            have hF6 : from_ ≤ F6 := by omega
            clear c1
            rcases qo with rfl | rfl | rfl
            · have hwr : IntKind.i64.wrap (F6 + 1) = F6 + 1 := i64_wraps _ (by omega) (by omega)
              by_cases c2 : to < F6 + 1
              · have hd2 : decide (to < F6 + 1) = true := by simpa using c2
                have HV := Lib.hid (HBad.out (by simp [beyF, powF, c2]))
                clear HBad HGo hp HE
                go_wp2_with fail
                go_quiet (fail)
                go_wp2_with fail
                go_ret2
                exact ⟨(by repeat (first | exact Ext.refl _ | apply Ext.more | apply Ext.alloc | apply Ext.drew | apply Ext.drewN)), by rw [HV.out]; rfl⟩
              · have hd2 : decide (to < F6 + 1) = false := by simpa using c2
                have HN := Lib.hid (HGo.out (by simp [beyF, powF]; omega))
                clear HBad HGo hp HE
                go_wp2_with fail
                go_quiet (fail)
                go_wp2_with fail
                go_roundw
                case rel => exact ⟨q + 1, by omega, by go_num, (by repeat (first | exact Ext.refl _ | apply Ext.more | apply Ext.alloc | apply Ext.drew | apply Ext.drewN)), HN⟩
                case measure => simp [intOf]; omega
            · have hwr : IntKind.i64.wrap (F6 + 4) = F6 + 4 := i64_wraps _ (by omega) (by omega)
              by_cases c2 : to < F6 + 4
              · have hd2 : decide (to < F6 + 4) = true := by simpa using c2
                have HV := Lib.hid (HBad.out (by simp [beyF, powF, c2]))
                clear HBad HGo hp HE
                go_wp2_with fail
                go_quiet (fail)
                go_wp2_with fail
                go_ret2
                exact ⟨(by repeat (first | exact Ext.refl _ | apply Ext.more | apply Ext.alloc | apply Ext.drew | apply Ext.drewN)), by rw [HV.out]; rfl⟩
              · have hd2 : decide (to < F6 + 4) = false := by simpa using c2
                have HN := Lib.hid (HGo.out (by simp [beyF, powF]; omega))
                clear HBad HGo hp HE
                go_wp2_with fail
                go_quiet (fail)
                go_wp2_with fail
                go_roundw
                case rel => exact ⟨q + 1, by omega, by go_num, (by repeat (first | exact Ext.refl _ | apply Ext.more | apply Ext.alloc | apply Ext.drew | apply Ext.drewN)), HN⟩
                case measure => simp [intOf]; omega
            · have hwr : IntKind.i64.wrap (F6 + 8) = F6 + 8 := i64_wraps _ (by omega) (by omega)
              by_cases c2 : to < F6 + 8
              · have hd2 : decide (to < F6 + 8) = true := by simpa using c2
                have HV := Lib.hid (HBad.out (by simp [beyF, powF, c2]))
                clear HBad HGo hp HE
                go_wp2_with fail
                go_quiet (fail)
                go_wp2_with fail
                go_ret2
                exact ⟨(by repeat (first | exact Ext.refl _ | apply Ext.more | apply Ext.alloc | apply Ext.drew | apply Ext.drewN)), by rw [HV.out]; rfl⟩
              · have hd2 : decide (to < F6 + 8) = false := by simpa using c2
                have HN := Lib.hid (HGo.out (by simp [beyF, powF]; omega))
                clear HBad HGo hp HE
                go_wp2_with fail
                go_quiet (fail)
                go_wp2_with fail
                go_roundw
                case rel => exact ⟨q + 1, by omega, by go_num, (by repeat (first | exact Ext.refl _ | apply Ext.more | apply Ext.alloc | apply Ext.drew | apply Ext.drewN)), HN⟩
                case measure => simp [intOf]; omega
        · obtain rfl : q = l.length := by omega
          have HV := Lib.hid (HVg.out (by
            intro h
            obtain ⟨f, hf, hb⟩ := List.any_eq_true.1 h
            obtain ⟨j, hj, rfl⟩ := List.getElem_of_mem hf
            rw [HE.out j _ hj (List.getElem?_eq_getElem hj)] at hb
            cases hb))
          go_wp2_with fail
          go_ret2
          exact ⟨(by repeat (first | exact Ext.refl _ | apply Ext.more | apply Ext.alloc | apply Ext.drew | apply Ext.drewN)), leavesRet_yes HV.out (by repeat (first | exact HO.out | apply own_more | apply own_alloc | apply own_drew | apply own_drewN)) (by simp [size_more]) rfl rfl⟩

def wrF (asid v : Int) (f : Found) : Step := ⟨1, asid, f.fLevel, f.fTable, f.fPlace, ownF f, v, 0, 0, 0⟩
set_option maxHeartbeats 2000000 in
theorem plan_write (w : World) (f : Found) (h : FOk f) (asid v : Int) : Calls Try.prog 98 #[f.v, .int .i64 asid, .int .u64 v] w fun e w' => Ext w w' ∧ e = .returned (.agg #[.int .i64 1, .int .i64 asid, .int .i64 f.fLevel, .int .i64 f.fTable, .int .i64 f.fPlace, .int .i64 (ownF f), .int .u64 v, .int .i64 0, .int .i64 0, .int .i64 0]) := by
  have HOw := Lib.hid (fun w => plan_own w f h _ rfl)
  generalize ownF f = O at *
  obtain ⟨F0, F1, F2, F3, F4, F5, F6, F7, F8, F9, F10⟩ := f
  clear h
  dsimp only
  show Calls _ _ #[.agg #[.int .i64 F0, .int .i64 F1, .int .i64 F2, .int .i64 F3, .int .i64 F4, .int .i64 F5, .int .i64 F6, .int .i64 F7, .bool F8, .bool F9, .bool F10], .int .i64 asid, .int .u64 v] _ _
  go_enter Try.func98, Try.ntmps98
  go_wp2_with fail
  go_region_held3 (fun w' => w'.cell? ⟨w.heap.size, 0, none⟩ = some (.int .i64 F0) ∧ w'.cell? ⟨w.heap.size, 1, none⟩ = some (.int .i64 F1) ∧ w'.cell? ⟨w.heap.size, 2, none⟩ = some (.int .i64 F2) ∧ w'.cell? ⟨w.heap.size, 3, none⟩ = some (.int .i64 F3) ∧ w'.cell? ⟨w.heap.size, 4, none⟩ = some (.int .i64 F4) ∧ w'.cell? ⟨w.heap.size, 5, none⟩ = some (.int .i64 F5) ∧ w'.cell? ⟨w.heap.size, 6, none⟩ = some (.int .i64 F6) ∧ w'.cell? ⟨w.heap.size, 7, none⟩ = some (.int .i64 F7) ∧ w'.cell? ⟨w.heap.size, 8, none⟩ = some (.bool F8) ∧ w'.cell? ⟨w.heap.size, 9, none⟩ = some (.bool F9) ∧ w'.cell? ⟨w.heap.size, 10, none⟩ = some (.bool F10)) (first | (go_simp; done) | (dsimp only; refine ⟨?_, ?_, ?_, ?_, ?_, ?_, ?_, ?_, ?_, ?_, ?_⟩ <;> go_simp))
    ((go_at_call 100; refine (HOw.out _).mono ?_; rintro e w' ⟨⟨ex3, rfl⟩, rfl⟩))
  all_goals
    go_wp2_with fail
    refine bodyPost_ret (results_cell_row rfl _ _ (w.heap.size + 1) 73 _ (0, 0) _ rfl (by first | exact box_more (heap_alloc_at _ _ (by simp)) _ | exact heap_alloc_at _ _ (by simp)) Try.underlying73 rfl (by kernel_rfl)) rfl ?_
    exact ⟨(by repeat (first | exact Ext.refl _ | apply Ext.more | apply Ext.alloc | apply Ext.drew | apply Ext.drewN)), rfl⟩

end Go.Proofs.Ytapeoeakiphfpaa
