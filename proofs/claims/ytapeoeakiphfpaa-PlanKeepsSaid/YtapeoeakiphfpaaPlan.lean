import Derived.Test.YtapeoeakiphfpaaBStepsSamePart
import Derived.Test.YtapeoeakiphfpaaBCodeLawgLawhLawe
import Derived.Deep.RegionHeld3
/- Leaves of pages: plain laws; the contracts of plan.own, plan.pages, plan.Leaves. -/
namespace Go.Proofs.Ytapeoeakiphfpaa
open Go.RowKit
set_option linter.unusedVariables false
set_option linter.unusedSimpArgs false
attribute [local go_sem] setCell_drewN alloc_drewN lt_moreE le_moreE lt_moreK le_moreK cell_more frozen_more set_more drew_more drewN_more

/-- The first page that a leaf's word leads to, and how many. -/
def ownF (f : Found) : Int := if f.fKind = 2 then f.fFirst else f.fFirst + f.fFrame - f.fBase
def pagesF (f : Found) : Int := if f.fKind = 2 then 8 else 1
structure FOk (f : Found) : Prop where
  leaf : f.fKind = 2 ∨ f.fKind = 3
  f0 : 0 ≤ f.fFirst
  f1 : f.fFirst < 4096
  fr0 : 0 ≤ f.fFrame
  fr1 : f.fFrame < 600
  b0 : -600 < f.fBase
  b1 : f.fBase < 600
  own0 : 0 ≤ ownF f
  own1 : ownF f + pagesF f ≤ 4096
  ord : f.fOrder = 0 ∨ f.fOrder = 2 ∨ f.fOrder = 3
theorem walk_ok {ws : List Int} {n p root : Int} {f : Found} (p0 : 0 ≤ p) (p1 : p < 4096) (h : walkAt ws n p 4 0 root = some f) (hl : f.fKind = 2 ∨ f.fKind = 3) : FOk f := by
  obtain ⟨h1, h2, h3, _, _, _, hf⟩ := walkAt_word 4 0 root f (by omega) (by omega) h
  have hs := walkAt_small p0 p1 4 0 root f h
  rcases hl with hk | hk
  · obtain ⟨q1, q2, q3, q4, q5, q6, d, hd, hok, hdk⟩ := walk_block h hk
    obtain ⟨fo, hmod, hd0, hd1⟩ := okD_block hok hdk
    rw [q1, hd] at hf
    unfold foundD at hf
    rw [if_pos hdk] at hf
    have hb : f.fBase = d.fFrame := by rw [hf]
    have ho : f.fOrder = 3 := by rw [hf]
    exact ⟨.inl hk, by omega, by omega, by omega, by omega, by omega, by omega, by unfold ownF; rw [if_pos hk]; omega, by unfold ownF pagesF; rw [if_pos hk, if_pos hk]; omega, .inr (.inr ho)⟩
  · obtain ⟨q1, q2, d, hd, hok, hdk, hf⟩ := walk_page h hk
    have hdr := okD_parts hok
    unfold foundD at hf
    rw [if_neg (by omega), if_pos hdk] at hf
    have hk2 : ¬ f.fKind = 2 := by omega
    cases hfo : d.fFold with
    | true =>
      rw [hfo] at hf
      simp only [if_true] at hf
      have hb : f.fBase = d.fFrame - p % 4 := by rw [hf]
      have hfr : f.fFrame = d.fFrame := by rw [hf]
      have hfi : f.fFirst = p - p % 4 := by rw [hf]
      exact ⟨.inr hk, by omega, by omega, by omega, by omega, by omega, by omega, by unfold ownF; rw [if_neg hk2]; omega, by unfold ownF pagesF; rw [if_neg hk2, if_neg hk2]; omega, by omega⟩
    | false =>
      rw [hfo] at hf
      simp only [Bool.false_eq_true, if_false] at hf
      have hb : f.fBase = d.fFrame := by rw [hf]
      have hfr : f.fFrame = d.fFrame := by rw [hf]
      have hfi : f.fFirst = p := by rw [hf]
      exact ⟨.inr hk, by omega, by omega, by omega, by omega, by omega, by omega, by unfold ownF; rw [if_neg hk2]; omega, by unfold ownF pagesF; rw [if_neg hk2, if_neg hk2]; omega, by omega⟩
theorem stride_pos (f : Found) : 0 < f.stride := Int.pow_pos (by decide)
/-- All that is found in a memory was found by a walk. -/
theorem whole_mem {ws : List Int} {n root : Int} : ∀ (k : Nat) (p : Int) (l : List Found), 0 ≤ p → wholeAt ws n root k p = some l → ∀ f ∈ l, (f.fKind = 2 ∨ f.fKind = 3) ∧ ∃ q, 0 ≤ q ∧ q < 4096 ∧ walkAt ws n q 4 0 root = some f := by
  intro k
  induction k with
  | zero => intro p l _ h; simp [wholeAt] at h
  | succ k ih =>
    intro p l p0 h f hf
    unfold wholeAt at h
    split at h
    · rename_i p1
      split at h
      · cases h
      · rename_i g hg
        rw [Option.map_eq_some_iff] at h
        obtain ⟨l', h1, h2⟩ := h
        have hst := stride_pos g
        split at h2
        · rename_i hl
          rw [← h2] at hf
          rcases List.mem_cons.1 hf with rfl | hf
          · exact ⟨by simpa [Found.leaf] using hl, p, p0, p1, hg⟩
          · exact ih _ _ (by omega) h1 f hf
        · rw [← h2] at hf
          exact ih _ _ (by omega) h1 f hf
    · cases h; cases hf
theorem whole_ok {ws : List Int} {n root : Int} {k : Nat} {l : List Found} (h : wholeAt ws n root k 0 = some l) : ∀ f ∈ l, FOk f := by
  intro f hf
  obtain ⟨hl, q, q0, q1, hw⟩ := whole_mem k 0 l (by omega) h f hf
  exact walk_ok q0 q1 hw hl

theorem plan_own (w : World) (f : Found) (h : FOk f) (O : Int) (hO : ownF f = O) : Calls Try.prog 100 #[f.v] w fun e w' => Ext w w' ∧ e = .returned (.int .i64 O) := by
  obtain ⟨hl, h0, h1, h2, h3, h4, h5, _, _, _⟩ := h
  have HO := Lib.hid hO
  clear hO
  obtain ⟨F0, F1, F2, F3, F4, F5, F6, F7, F8, F9, F10⟩ := f
  dsimp only at hl h0 h1 h2 h3 h4 h5
  show Calls _ _ #[.agg #[.int .i64 F0, .int .i64 F1, .int .i64 F2, .int .i64 F3, .int .i64 F4, .int .i64 F5, .int .i64 F6, .int .i64 F7, .bool F8, .bool F9, .bool F10]] _ _
  rcases hl with rfl | rfl
  · have HV := Lib.hid (show F6 = O from HO.out)
    clear HO
    go_enter Try.func100, Try.ntmps100
    go_wp2_with fail
    go_ret
    exact ⟨(by repeat (first | exact Ext.refl _ | apply Ext.more | apply Ext.alloc | apply Ext.drew | apply Ext.drewN)), by rw [← HV.out]; rfl⟩
  · have HV := Lib.hid (show F6 + F4 - F7 = O from HO.out)
    clear HO
    go_enter Try.func100, Try.ntmps100
    go_wp2_with fail
    go_ret
    exact ⟨(by repeat (first | exact Ext.refl _ | apply Ext.more | apply Ext.alloc | apply Ext.drew | apply Ext.drewN)), by rw [← HV.out]; rfl⟩
theorem plan_pages (w : World) (f : Found) (h : f.fKind = 2 ∨ f.fKind = 3) (N : Int) (hN : pagesF f = N) : Calls Try.prog 101 #[f.v] w fun e w' => Ext w w' ∧ e = .returned (.int .i64 N) := by
  have HO := Lib.hid hN
  clear hN
  obtain ⟨F0, F1, F2, F3, F4, F5, F6, F7, F8, F9, F10⟩ := f
  dsimp only at h
  show Calls _ _ #[.agg #[.int .i64 F0, .int .i64 F1, .int .i64 F2, .int .i64 F3, .int .i64 F4, .int .i64 F5, .int .i64 F6, .int .i64 F7, .bool F8, .bool F9, .bool F10]] _ _
  rcases h with rfl | rfl
  · have HV := Lib.hid (show 8 = N from HO.out)
    clear HO
    go_enter Try.func101, Try.ntmps101
    go_wp2_with fail
    go_ret
    exact ⟨(by repeat (first | exact Ext.refl _ | apply Ext.more | apply Ext.alloc | apply Ext.drew | apply Ext.drewN)), by rw [← HV.out]; rfl⟩
  · have HV := Lib.hid (show 1 = N from HO.out)
    clear HO
    go_enter Try.func101, Try.ntmps101
    go_wp2_with fail
    go_ret
    exact ⟨(by repeat (first | exact Ext.refl _ | apply Ext.more | apply Ext.alloc | apply Ext.drew | apply Ext.drewN)), by rw [← HV.out]; rfl⟩

/-- Leaves, or what is amiss. -/
inductive LeavesR where
  | yes (l : List Found)
  | no (k : Nat)
def LeavesRet (B : Nat) (w' : World) (r : LeavesR) (e : Ending) : Prop := match r with
  | .yes l => ∃ a cap, e = .returned (.tuple #[.slice a l.length cap, .nilIface]) ∧ w'.ownsRow B 80 11 (.slice a l.length cap) l.length (l.map Found.cells).flatten
  | .no k => e = .returned (.tuple #[.slice none 0 0, errW k])
theorem leavesRet_yes {B B' n : Nat} {w' : World} {r : LeavesR} {s : List Found} {v : Value} {xs : List Value} (hr : r = .yes s) (h : w'.ownsRow B' 80 11 v n xs) (hb : B ≤ B') (hn : n = s.length) (hx : xs = (s.map Found.cells).flatten) : LeavesRet B w' r (.returned (.tuple #[v, .nilIface])) := by
  obtain ⟨a, cap, rfl⟩ := own_form h
  subst hn hx hr
  exact ⟨a, cap, rfl, own_low h hb⟩
def inF (a b : Int) (f : Found) : Bool := decide (ownF f < b) && decide (a < ownF f + pagesF f)
def leavesRes (ws : List Int) (n : Nat) (root a b : Int) : LeavesR :=
  if a < 0 ∨ b ≤ a ∨ 4096 < b then .no 1 else if ¬ (0 ≤ root ∧ root < n) then .no 1 else match wholeAt ws n root 4097 0 with
    | none => .no 2
    | some l => .yes (l.filter (inF a b))
theorem filter_snoc {α : Type} (p : α → Bool) (l : List α) (x : α) : (l ++ [x]).filter p = l.filter p ++ (if p x then [x] else []) := by
  rw [List.filter_append]
  congr 1
  cases h : p x <;> simp [h]

set_option maxRecDepth 100000 in
set_option maxHeartbeats 8000000 in
theorem plan_Leaves (w : World) {b g n c : Nat} {ws : List Int} (hm : MemAt w b g n c ws) (hw : WOk ws) (root from_ to : Int) (hto : (Lit.int .i64 to).wf = true) (R : LeavesR) (hR : leavesRes ws n root from_ to = R) :
    Calls Try.prog 49 #[.pointer (some ⟨b, 0, none⟩), .int .i64 root, .int .i64 from_, .int .i64 to] w fun e w' => Ext w w' ∧ LeavesRet w.heap.size w' R e := by
  by_cases ha : from_ < 0 ∨ to ≤ from_ ∨ 4096 < to
  · have HV := Lib.hid (show R = .no 1 from by rw [← hR]; unfold leavesRes; rw [if_pos ha])
    have ha' : from_ < 0 ∨ (0 ≤ from_ ∧ to ≤ from_) ∨ (0 ≤ from_ ∧ from_ < to ∧ 4096 < to) := by omega
    clear hm hw hR ha
    rcases ha' with h | ⟨h, h1⟩ | ⟨h, h1, h2⟩
    all_goals
      go_enter Try.func49, Try.ntmps49
      go_wp2_with fail
      go_ret2
      exact ⟨(by repeat (first | exact Ext.refl _ | apply Ext.more | apply Ext.alloc | apply Ext.drew | apply Ext.drewN)), by rw [HV.out]; rfl⟩
  · have g0 : 0 ≤ from_ := by omega
    have g1 : from_ < to := by omega
    have g2 : to ≤ 4096 := by omega
    by_cases hr : 0 ≤ root ∧ root < n
    · have HW := Lib.hid (walk_Whole w hm hw root hr.1 hr.2)
      cases hres : wholeAt ws n root 4097 0 with
      | none =>
        have HV := Lib.hid (show R = .no 2 from by rw [← hR]; unfold leavesRes; rw [if_neg ha, if_neg (by simpa using hr), hres])
        rw [hres] at HW
        clear hm hw hR ha hr hres
        go_enter Try.func49, Try.ntmps49
        go_wp2_with fail
        refine HW.out.mono ?_
        rintro e w' ⟨rfl, hg⟩
        obtain ⟨ex1, rfl⟩ := more_of_grow hg
        clear hg
        go_wp2_with fail
        go_ret2
        exact ⟨(by repeat (first | exact Ext.refl _ | apply Ext.more | apply Ext.alloc | apply Ext.drew | apply Ext.drewN)), by rw [HV.out]; rfl⟩
      | some l =>
        have HV := Lib.hid (show R = .yes (l.filter (inF from_ to)) from by rw [← hR]; unfold leavesRes; rw [if_neg ha, if_neg (by simpa using hr), hres])
        have HK := Lib.hid (whole_ok hres)
        have hlen := wholeAt_len 4097 0 l (by omega) hres
        have hln : l.length ≤ 5000 := by omega
        rw [hres] at HW
        clear hm hw hR ha hr hres hlen
        go_enter Try.func49, Try.ntmps49
        go_wp2_with fail
        refine HW.out.mono ?_
        rintro e w' ⟨⟨v, rfl, hO⟩, hg⟩
        obtain ⟨ex1, rfl⟩ := more_of_grow hg
        rw [List.flatMap_def] at hO
        obtain ⟨a, cap, rfl⟩ := own_form hO
        have hoc := own_cap hO
        have hm' : cap ≤ 9223372036854775807 := by have := hoc.2.2; unfold maxLen at this; exact this
        have hcl := hoc.2.1
        have HAt := Lib.hid (own_at hO)
        clear hg hO hoc
        go_wp2_with fail
        go_loopw [12, 38] (fun o i wr => ∃ q : Nat, q ≤ l.length ∧ i = .int .i64 q ∧ Ext (more w ex1) wr ∧ Hid (wr.ownsRow (more w ex1).heap.size 80 11 o ((l.take q).filter (inF from_ to)).length (((l.take q).filter (inF from_ to)).map Found.cells).flatten)) (fun _ i _ => l.length - (intOf i).toNat)
        case atStart => exact ⟨0, by omega, rfl, (by repeat (first | exact Ext.refl _ | apply Ext.more | apply Ext.alloc | apply Ext.drew | apply Ext.drewN)), World.ownsRow_nil _ _ _ _⟩
        case round =>
          obtain ⟨q, hq, rfl, ⟨x, rfl⟩, HO⟩ := hrel
          by_cases hlt : q < l.length
          · obtain ⟨gr, rfl, _, hgr, _, hx, _⟩ := HAt.out (by omega)
            have hz : l[q]? = some l[q] := List.getElem?_eq_getElem hlt
            obtain ⟨x0, x1, x2, x3, x4, x5, x6, x7, x8, x9, x10⟩ := found_at hx q _ hz
            have hok := HK.out _ (List.getElem_mem hlt)
            have htk : (l.take (q + 1)).filter (inF from_ to) = (l.take q).filter (inF from_ to) ++ (if inF from_ to l[q] then [l[q]] else []) := by rw [take_snoc hz, filter_snoc]
            have HTk := Lib.hid htk
            have HFl : ((l.take q).filter (inF from_ to)).length ≤ q := by have := List.length_filter_le (inF from_ to) (l.take q); rw [List.length_take] at this; omega
            obtain ⟨out, hout⟩ : ∃ out, (l.take q).filter (inF from_ to) = out := ⟨_, rfl⟩
            rw [hout] at HTk HO HFl
            have hinf : ∀ f, inF from_ to f = (decide (ownF f < to) && decide (from_ < ownF f + pagesF f)) := fun f => rfl
            rw [hinf] at HTk
            have HOw := Lib.hid (fun w => plan_own w _ hok _ rfl)
            have HPg := Lib.hid (fun w => plan_pages w _ hok.leaf _ rfl)
            have ho0 := hok.own0
            have ho1 := hok.own1
            have hN0 : 1 ≤ pagesF l[q] := by unfold pagesF; split <;> omega
            clear htk hz hx hok hout hinf
            generalize l[q] = z at *
            generalize ownF z = O at *
            generalize pagesF z = N at *
            obtain ⟨F0, F1, F2, F3, F4, F5, F6, F7, F8, F9, F10⟩ := z
            dsimp only at x0 x1 x2 x3 x4 x5 x6 x7 x8 x9 x10
            have hwr : IntKind.i64.wrap (O + N) = O + N := i64_wraps _ (by omega) (by omega)
            by_cases c1 : O < to
            · have hd1 : decide (O < to) = true := by simpa using c1
              by_cases c2 : from_ < O + N
              · have hd2 : decide (from_ < O + N) = true := by simpa using c2
                have HTy := Lib.hid (show (l.take (q + 1)).filter (inF from_ to) = out ++ [⟨F0, F1, F2, F3, F4, F5, F6, F7, F8, F9, F10⟩] from by rw [HTk.out, show (decide (O < to) && decide (from_ < O + N)) = true from by simp [c1, c2]]; rfl)
                go_wp2_with fail
                go_region_held3 (fun w' => w'.cell? ⟨(more (more w ex1) x).heap.size, 0, none⟩ = some (.int .i64 F0) ∧ w'.cell? ⟨(more (more w ex1) x).heap.size, 1, none⟩ = some (.int .i64 F1) ∧ w'.cell? ⟨(more (more w ex1) x).heap.size, 2, none⟩ = some (.int .i64 F2) ∧ w'.cell? ⟨(more (more w ex1) x).heap.size, 3, none⟩ = some (.int .i64 F3) ∧ w'.cell? ⟨(more (more w ex1) x).heap.size, 4, none⟩ = some (.int .i64 F4) ∧ w'.cell? ⟨(more (more w ex1) x).heap.size, 5, none⟩ = some (.int .i64 F5) ∧ w'.cell? ⟨(more (more w ex1) x).heap.size, 6, none⟩ = some (.int .i64 F6) ∧ w'.cell? ⟨(more (more w ex1) x).heap.size, 7, none⟩ = some (.int .i64 F7) ∧ w'.cell? ⟨(more (more w ex1) x).heap.size, 8, none⟩ = some (.bool F8) ∧ w'.cell? ⟨(more (more w ex1) x).heap.size, 9, none⟩ = some (.bool F9) ∧ w'.cell? ⟨(more (more w ex1) x).heap.size, 10, none⟩ = some (.bool F10)) (first | (go_simp; done) | (dsimp only; refine ⟨?_, ?_, ?_, ?_, ?_, ?_, ?_, ?_, ?_, ?_, ?_⟩ <;> go_simp))
                  ((first
                    | (go_at_call 100; refine (HOw.out _).mono ?_; rintro e w' ⟨⟨ex3, rfl⟩, rfl⟩)
                    | (go_at_call 101; refine (HPg.out _).mono ?_; rintro e w' ⟨⟨ex4, rfl⟩, rfl⟩)))
                all_goals
                  go_wp2_with ((at_builtin; refine wpList_append_new (more w ex1) el_Found rfl _ _ rfl u12 out.length _ rfl (by repeat (first | exact HO.out | apply own_more | apply own_alloc | apply own_drew | apply own_drewN)) (by repeat (first | exact Ext.refl _ | apply Ext.more | apply Ext.alloc | apply Ext.drew | apply Ext.drewN)) _ _ 1 _ rfl (by simp) rfl rfl (by omega) ?_); intro v' x' HO' keep; clear keep)
                  go_roundw
                  case rel => exact ⟨q + 1, by omega, by go_num, (by repeat (first | exact Ext.refl _ | apply Ext.more | apply Ext.alloc | apply Ext.drew | apply Ext.drewN)), by
                    show World.ownsRow _ _ _ _ _ _ _
                    rw [HTy.out]
                    simpa [Found.cells] using HO'.out⟩
                  case measure => simp [intOf]; omega
              · have hd2 : decide (from_ < O + N) = false := by simpa using c2
                have HTn := Lib.hid (show (l.take (q + 1)).filter (inF from_ to) = out from by rw [HTk.out, show (decide (O < to) && decide (from_ < O + N)) = false from by simp [c1, c2]]; simp)
                go_wp2_with fail
                go_region_held3 (fun w' => w'.cell? ⟨(more (more w ex1) x).heap.size, 0, none⟩ = some (.int .i64 F0) ∧ w'.cell? ⟨(more (more w ex1) x).heap.size, 1, none⟩ = some (.int .i64 F1) ∧ w'.cell? ⟨(more (more w ex1) x).heap.size, 2, none⟩ = some (.int .i64 F2) ∧ w'.cell? ⟨(more (more w ex1) x).heap.size, 3, none⟩ = some (.int .i64 F3) ∧ w'.cell? ⟨(more (more w ex1) x).heap.size, 4, none⟩ = some (.int .i64 F4) ∧ w'.cell? ⟨(more (more w ex1) x).heap.size, 5, none⟩ = some (.int .i64 F5) ∧ w'.cell? ⟨(more (more w ex1) x).heap.size, 6, none⟩ = some (.int .i64 F6) ∧ w'.cell? ⟨(more (more w ex1) x).heap.size, 7, none⟩ = some (.int .i64 F7) ∧ w'.cell? ⟨(more (more w ex1) x).heap.size, 8, none⟩ = some (.bool F8) ∧ w'.cell? ⟨(more (more w ex1) x).heap.size, 9, none⟩ = some (.bool F9) ∧ w'.cell? ⟨(more (more w ex1) x).heap.size, 10, none⟩ = some (.bool F10)) (first | (go_simp; done) | (dsimp only; refine ⟨?_, ?_, ?_, ?_, ?_, ?_, ?_, ?_, ?_, ?_, ?_⟩ <;> go_simp))
                  ((first
                    | (go_at_call 100; refine (HOw.out _).mono ?_; rintro e w' ⟨⟨ex3, rfl⟩, rfl⟩)
                    | (go_at_call 101; refine (HPg.out _).mono ?_; rintro e w' ⟨⟨ex4, rfl⟩, rfl⟩)))
                all_goals
                  go_wp2_with fail
                  go_roundw
                  case rel => exact ⟨q + 1, by omega, by go_num, (by repeat (first | exact Ext.refl _ | apply Ext.more | apply Ext.alloc | apply Ext.drew | apply Ext.drewN)), by
                    show World.ownsRow _ _ _ _ _ _ _
                    rw [HTn.out]
                    exact (by repeat (first | (with_reducible apply own_alloc) | (with_reducible apply own_drew) | (with_reducible apply own_drewN) | exact HO.out | (with_reducible apply own_more)))⟩
                  case measure => simp [intOf]; omega
            · have hd1 : decide (O < to) = false := by simpa using c1
              have HTn := Lib.hid (show (l.take (q + 1)).filter (inF from_ to) = out from by rw [HTk.out, show (decide (O < to) && decide (from_ < O + N)) = false from by simp [c1]]; simp)
              go_wp2_with fail
              refine wp_region_held_drew (S := (fun w' => w'.cell? ⟨(more (more w ex1) x).heap.size, 0, none⟩ = some (.int .i64 F0) ∧ w'.cell? ⟨(more (more w ex1) x).heap.size, 1, none⟩ = some (.int .i64 F1) ∧ w'.cell? ⟨(more (more w ex1) x).heap.size, 2, none⟩ = some (.int .i64 F2) ∧ w'.cell? ⟨(more (more w ex1) x).heap.size, 3, none⟩ = some (.int .i64 F3) ∧ w'.cell? ⟨(more (more w ex1) x).heap.size, 4, none⟩ = some (.int .i64 F4) ∧ w'.cell? ⟨(more (more w ex1) x).heap.size, 5, none⟩ = some (.int .i64 F5) ∧ w'.cell? ⟨(more (more w ex1) x).heap.size, 6, none⟩ = some (.int .i64 F6) ∧ w'.cell? ⟨(more (more w ex1) x).heap.size, 7, none⟩ = some (.int .i64 F7) ∧ w'.cell? ⟨(more (more w ex1) x).heap.size, 8, none⟩ = some (.bool F8) ∧ w'.cell? ⟨(more (more w ex1) x).heap.size, 9, none⟩ = some (.bool F9) ∧ w'.cell? ⟨(more (more w ex1) x).heap.size, 10, none⟩ = some (.bool F10))) (by kernel_rfl) ?_ (fun hHeld => ?_); (· (try dsimp only); (refine ⟨?_, ?_, ?_, ?_, ?_, ?_, ?_, ?_, ?_, ?_, ?_⟩ <;> go_simp))
              refine wpAnyH_take (i := 0) (v := ?_) rfl (by kernel_rfl) (by kernel_rfl) (by kernel_rfl) (fun _ _ _ h => h) (Or.inl ⟨by rfl, ?_⟩) (by assumption) ?_; rotate_left; (· (intro w hSw; (try dsimp only at hSw); go_simp; try with_reducible rfl)); (try simp only [Act.put, List.getElem_toArray, List.getElem_cons_zero, List.getElem_cons_succ, List.setIfInBounds_toArray, List.set_cons_zero, List.set_cons_succ])
              refine wpAnyH_take (i := 2) (v := ?_) rfl (by kernel_rfl) (by kernel_rfl) (by kernel_rfl) (fun _ _ _ h => h) (Or.inl ⟨by rfl, ?_⟩) (by assumption) ?_; rotate_left; (· (intro w hSw; (try dsimp only at hSw); go_simp; try with_reducible rfl)); (try simp only [Act.put, List.getElem_toArray, List.getElem_cons_zero, List.getElem_cons_succ, List.setIfInBounds_toArray, List.set_cons_zero, List.set_cons_succ])
              refine wpAnyH_ready (rs := [1]) (by kernel_rfl) (by simp) ?_; refine AllReadyH.cons rfl (fun K hK => ?_) AllReadyH.nil; go_simp; (go_at_call 100; refine (HOw.out _).mono ?_; rintro e w' ⟨⟨ex3, rfl⟩, rfl⟩); go_wp2_with fail; refine hK.out _ _ ?_ (fun hHeld => ?_); (· (try dsimp only); (refine ⟨?_, ?_, ?_, ?_, ?_, ?_, ?_, ?_, ?_, ?_, ?_⟩ <;> go_simp)); clear hK K; (try simp only [Act.put, List.getElem_toArray, List.getElem_cons_zero, List.getElem_cons_succ, List.setIfInBounds_toArray, List.set_cons_zero, List.set_cons_succ])
              refine wpAnyH_take (i := 3) (v := ?_) rfl (by kernel_rfl) (by kernel_rfl) (by kernel_rfl) (fun _ _ _ h => h) (Or.inl ⟨by rfl, ?_⟩) (by assumption) ?_; rotate_left; (· (intro w hSw; (try dsimp only at hSw); go_simp; try with_reducible rfl)); (try simp only [Act.put, List.getElem_toArray, List.getElem_cons_zero, List.getElem_cons_succ, List.setIfInBounds_toArray, List.set_cons_zero, List.set_cons_succ])
              refine wpAnyH_take (i := 4) (v := ?_) rfl (by kernel_rfl) (by kernel_rfl) (by kernel_rfl) (fun _ _ _ h => h) (Or.inl ⟨by rfl, ?_⟩) (by assumption) ?_; rotate_left; (· (intro w hSw; (try dsimp only at hSw); go_simp; try with_reducible rfl)); (try simp only [Act.put, List.getElem_toArray, List.getElem_cons_zero, List.getElem_cons_succ, List.setIfInBounds_toArray, List.set_cons_zero, List.set_cons_succ])
              refine wpAnyH_take (i := 5) (v := undef) rfl (by kernel_rfl) (by kernel_rfl) (by kernel_rfl) (fun _ _ _ h => h) (Or.inr ⟨by rfl, rfl⟩) (by assumption) ?_; (try simp only [Act.put, List.getElem_toArray, List.getElem_cons_zero, List.getElem_cons_succ, List.setIfInBounds_toArray, List.set_cons_zero, List.set_cons_succ])
              refine wpAnyH_take (i := 6) (v := undef) rfl (by kernel_rfl) (by kernel_rfl) (by kernel_rfl) (fun _ _ _ h => h) (Or.inr ⟨by rfl, rfl⟩) (by assumption) ?_; (try simp only [Act.put, List.getElem_toArray, List.getElem_cons_zero, List.getElem_cons_succ, List.setIfInBounds_toArray, List.set_cons_zero, List.set_cons_succ])
              refine wpAnyH_take (i := 7) (v := undef) rfl (by kernel_rfl) (by kernel_rfl) (by kernel_rfl) (fun _ _ _ h => h) (Or.inr ⟨by rfl, rfl⟩) (by assumption) ?_; (try simp only [Act.put, List.getElem_toArray, List.getElem_cons_zero, List.getElem_cons_succ, List.setIfInBounds_toArray, List.set_cons_zero, List.set_cons_succ])
              refine wpAnyH_take (i := 8) (v := undef) rfl (by kernel_rfl) (by kernel_rfl) (by kernel_rfl) (fun _ _ _ h => h) (Or.inr ⟨by rfl, rfl⟩) (by assumption) ?_; (try simp only [Act.put, List.getElem_toArray, List.getElem_cons_zero, List.getElem_cons_succ, List.setIfInBounds_toArray, List.set_cons_zero, List.set_cons_succ])
              refine wpAnyH_take (i := 9) (v := undef) rfl (by kernel_rfl) (by kernel_rfl) (by kernel_rfl) (fun _ _ _ h => h) (Or.inr ⟨by rfl, rfl⟩) (by assumption) ?_; (try simp only [Act.put, List.getElem_toArray, List.getElem_cons_zero, List.getElem_cons_succ, List.setIfInBounds_toArray, List.set_cons_zero, List.set_cons_succ])
              refine wpAnyH_take (i := 10) (v := undef) rfl (by kernel_rfl) (by kernel_rfl) (by kernel_rfl) (fun _ _ _ h => h) (Or.inr ⟨by rfl, rfl⟩) (by assumption) ?_; (try simp only [Act.put, List.getElem_toArray, List.getElem_cons_zero, List.getElem_cons_succ, List.setIfInBounds_toArray, List.set_cons_zero, List.set_cons_succ])
              refine wpAnyH_take (i := 11) (v := undef) rfl (by kernel_rfl) (by kernel_rfl) (by kernel_rfl) (fun _ _ _ h => h) (Or.inr ⟨by rfl, rfl⟩) (by assumption) ?_; (try simp only [Act.put, List.getElem_toArray, List.getElem_cons_zero, List.getElem_cons_succ, List.setIfInBounds_toArray, List.set_cons_zero, List.set_cons_succ])
              refine wpAnyH_take (i := 12) (v := ?_) rfl (by kernel_rfl) (by kernel_rfl) (by kernel_rfl) (fun _ _ _ h => h) (Or.inl ⟨by rfl, ?_⟩) (by assumption) ?_; rotate_left; (· (intro w hSw; (try dsimp only at hSw); go_simp; try with_reducible rfl)); (try simp only [Act.put, List.getElem_toArray, List.getElem_cons_zero, List.getElem_cons_succ, List.setIfInBounds_toArray, List.set_cons_zero, List.set_cons_succ])
              refine wpAnyH_done (by kernel_rfl) ?_ _
              all_goals
                go_wp2_with fail
                go_roundw
                case rel => exact ⟨q + 1, by omega, by go_num, (by repeat (first | exact Ext.refl _ | apply Ext.more | apply Ext.alloc | apply Ext.drew | apply Ext.drewN)), by
                  show World.ownsRow _ _ _ _ _ _ _
                  rw [HTn.out]
                  exact (by repeat (first | (with_reducible apply own_alloc) | (with_reducible apply own_drew) | (with_reducible apply own_drewN) | exact HO.out | (with_reducible apply own_more)))⟩
                case measure => simp [intOf]; omega
          · obtain rfl : q = l.length := by omega
            rw [List.take_length] at HO
            go_wp2_with fail
            go_ret2
            exact ⟨(by repeat (first | exact Ext.refl _ | apply Ext.more | apply Ext.alloc | apply Ext.drew | apply Ext.drewN)), leavesRet_yes HV.out HO.out (Ext.size (by repeat (first | exact Ext.refl _ | apply Ext.more | apply Ext.alloc | apply Ext.drew | apply Ext.drewN))) rfl rfl⟩
    · have HV := Lib.hid (show R = .no 1 from by rw [← hR]; unfold leavesRes; rw [if_neg ha, if_pos (by simpa using hr)])
      have HW := Lib.hid (walk_Whole_no w hm root hr)
      clear hm hw hR ha hr
      go_enter Try.func49, Try.ntmps49
      go_wp2_with fail
      refine HW.out.mono ?_
      rintro e w' ⟨rfl, hg⟩
      obtain ⟨ex1, rfl⟩ := more_of_grow hg
      clear hg
      go_wp2_with fail
      go_ret2
      exact ⟨(by repeat (first | exact Ext.refl _ | apply Ext.more | apply Ext.alloc | apply Ext.drew | apply Ext.drewN)), by rw [HV.out]; rfl⟩

end Go.Proofs.Ytapeoeakiphfpaa
