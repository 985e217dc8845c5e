/- The law paviorlaw12.TreeStays. -/
import Derived.Test.YtmcjfnkekcablaaPrune
import Derived.Test.YtmcjfnkekcablaaPatht
import Derived.Test.YtmcjfnkekcablaaTabs
import Derived.Test.YtmcjfnkekcablaaIn
import Derived.Test.YtmcjfnkekcablaaSamq
import Derived.Deep.QuietTactic
import Derived.BigQuiet
namespace Go.Proofs.Ytmcjfnkekcablaa
open Go.RowKit
set_option linter.unusedVariables false
set_option linter.unusedSimpArgs false
attribute [local go_sem] setCell_drewN alloc_drewN lt_moreE le_moreE lt_moreK le_moreK cell_more frozen_more set_more drew_more drewN_more

theorem tabs_head {ws : List Int} {n : Int} {k : Nat} {level t : Int} {r : List Int} (h : tabsAt ws n (k + 1) level t = some r) : r[0]? = some t := by
  by_cases ht : 0 ≤ t ∧ t < n
  · rw [tabsAt_in ht] at h
    have key : ∀ (j i : Nat), i + j = 8 → ∀ (l r : List Int), tabsFrom ws n k level t i l = some r → ∃ m, r = l ++ m := by
      intro j
      induction j with
      | zero =>
        intro i hi l r hr
        obtain rfl : i = 8 := by omega
        rw [tabsFrom_end] at hr
        cases hr
        exact ⟨[], by simp⟩
      | succ j ihj =>
        intro i hi l r hr
        by_cases hk : (decD level (ws.getD (t.toNat * 8 + i) 0)).fKind = 1
        · cases hm : tabsAt ws n k (level + 1) (decD level (ws.getD (t.toNat * 8 + i) 0)).fFrame with
          | none => rw [tabsFrom_no (by omega) rfl hk hm] at hr; cases hr
          | some m =>
            rw [tabsFrom_go (by omega) rfl hk hm] at hr
            obtain ⟨m', rfl⟩ := ihj (i + 1) (by omega) _ _ hr
            exact ⟨m ++ m', by simp⟩
        · rw [tabsFrom_skip (by omega) rfl hk] at hr
          exact ihj (i + 1) (by omega) _ _ hr
    obtain ⟨m, rfl⟩ := key 8 0 rfl [t] r h
    rfl
  · rw [tabsAt_out ht] at h; cases h

def ErrOr (ev : Value) : Prop := ev = .nilIface ∨ ∃ k : Nat, ev = errW k
theorem err_nil {ev : Value} (h : ErrOr ev) : ∃ b : Bool, (∀ w, (binOp .eql 30 ev .nilIface).run Try.prog w = .ok (.bool b) w) ∧ ∀ x c w, (eqGuard .eql 30 x (.const c) ev .nilIface).run Try.prog w = .ok () w := by
  have h1 : ∀ (w : World) (d : Nat) (tp : TypeId) (v : Value), (Op.equalIn (d + 1) 30 (.iface tp v) .nilIface).run Try.prog w = .ok false w := fun w d tp v => by simp [Op.equalIn, run_underlying Try.underlying30]
  have h2 : ∀ (w : World) (d : Nat), (Op.equalIn (d + 1) 30 .nilIface .nilIface).run Try.prog w = .ok true w := fun w d => by simp [Op.equalIn, run_underlying Try.underlying30]
  rcases h with rfl | ⟨k, rfl⟩
  · exact ⟨true, fun w => by simp only [binOp]; simp [Op.equal, Op.maxDepth, h2 w 9999], fun x c w => by simp [eqGuard]⟩
  · exact ⟨false, fun w => by simp only [binOp]; simp [Op.equal, Op.maxDepth, h1 w 9999], fun x c w => by simp [eqGuard]⟩
def ToldPath (s : List Step) (t : Int × Int) (ev : Value) (B : Nat) (w' : World) (e : Ending) : Prop := ∃ a cap, e = .returned (.tuple #[.slice a s.length cap, .agg #[.int .i64 t.1, .int .i64 t.2], ev]) ∧ OwnS w' B (.slice a s.length cap) s
theorem path_any (n : Nat) (ws : List Int) (hw : WOk ws) (root asid page : Int) (fresh : List Int) (hfl : fresh.length ≤ 20) : ∃ (s : List Step) (t : Int × Int) (ev : Value), ErrOr ev ∧
    ∀ w b g c v, MemAt w b g n c ws → SlRd w v 1 (fresh.map intCells) → Calls Try.prog 37 #[.pointer (some ⟨b, 0, none⟩), .int .i64 root, .int .i64 asid, .int .i64 page, .int .i64 3, v] w fun e w' => Ext w w' ∧ ToldPath s t ev w.heap.size w' e := by
  have no : ∀ (B : Nat) (w' : World) (e : Ending) (k : Nat), PathRet B w' (.no k) e → ToldPath [] (0, 0) (errW k) B w' e := fun B w' e k h => ⟨none, 0, h, World.ownsRow_nil _ _ _ _⟩
  by_cases h : 0 ≤ root ∧ root < n ∧ 0 ≤ page ∧ page < 4096
  · obtain ⟨r0, r1, p0, p1⟩ := h
    cases hR : pathRes n asid page 3 fresh (wayAt ws n page (3 + 1) 0 root) with
    | no k => exact ⟨[], (0, 0), errW k, .inr ⟨k, rfl⟩, fun w b g c v hm hv => (tree_PathR w hm hw root asid page 3 r0 r1 p0 p1 (by omega) (by omega) fresh v hv (by omega) _ rfl _ hR).mono fun e w' ⟨h1, h2⟩ => ⟨h1, no _ _ _ _ h2⟩⟩
    | yes s t => exact ⟨s, t, .nilIface, .inl rfl, fun w b g c v hm hv => (tree_PathR w hm hw root asid page 3 r0 r1 p0 p1 (by omega) (by omega) fresh v hv (by omega) _ rfl _ hR).mono fun e w' ⟨h1, h2⟩ => ⟨h1, h2⟩⟩
  · exact ⟨[], (0, 0), errW 1, .inr ⟨1, rfl⟩, fun w b g c v hm hv => (tree_Path_no w hm root asid page 3 v (by omega)).mono fun e w' ⟨h1, h2⟩ => ⟨h1, no _ _ _ 1 h2⟩⟩
def ToldPrune (s : List Step) (k : Nat) (ev : Value) (B : Nat) (w' : World) (e : Ending) : Prop := ∃ a cap a2 cap2, e = .returned (.tuple #[.slice a s.length cap, .slice a2 k cap2, ev]) ∧ OwnS w' B (.slice a s.length cap) s
theorem prune_any (n : Nat) (ws : List Int) (hw : WOk ws) (root asid page : Int) : ∃ (s : List Step) (k : Nat) (ev : Value), ErrOr ev ∧
    ∀ w b g c, MemAt w b g n c ws → Calls Try.prog 41 #[.pointer (some ⟨b, 0, none⟩), .int .i64 root, .int .i64 asid, .int .i64 page] w fun e w' => Ext w w' ∧ ToldPrune s k ev w.heap.size w' e := by
  have no : ∀ (B : Nat) (w' : World) (e : Ending) (k : Nat), PruneRet B w' (.no k) e → ToldPrune [] 0 (errW k) B w' e := fun B w' e k h => ⟨none, 0, none, 0, h, World.ownsRow_nil _ _ _ _⟩
  by_cases h : 0 ≤ root ∧ root < n ∧ 0 ≤ page ∧ page < 4096
  · obtain ⟨r0, r1, p0, p1⟩ := h
    cases hR : pruneRes ws asid page (wayAt ws n page 4 0 root) with
    | no k => exact ⟨[], 0, errW k, .inr ⟨k, rfl⟩, fun w b g c hm => (tree_Prune w hm hw root asid page r0 r1 p0 p1 _ rfl).mono fun e w' ⟨h1, h2⟩ => ⟨h1, no _ _ _ _ (hR ▸ h2)⟩⟩
    | yes s gone => exact ⟨s, gone.length, .nilIface, .inl rfl, fun w b g c hm => (tree_Prune w hm hw root asid page r0 r1 p0 p1 _ rfl).mono fun e w' ⟨h1, h2⟩ => ⟨h1, by
        rw [hR] at h2
        obtain ⟨a, cap, a2, cap2, he, ho, _⟩ := h2
        exact ⟨a, cap, a2, cap2, he, ho⟩⟩⟩
  · exact ⟨[], 0, errW 1, .inr ⟨1, rfl⟩, fun w b g c hm => (tree_Prune_no w hm root asid page h).mono fun e w' ⟨h1, h2⟩ => ⟨h1, no _ _ _ 1 h2⟩⟩
def ToldTabs (t : List Int) (ev : Value) (B : Nat) (w' : World) (e : Ending) : Prop := ∃ a cap, e = .returned (.tuple #[.slice a t.length cap, ev]) ∧ w'.ownsRow B 3 1 (.slice a t.length cap) t.length (t.map intC).flatten
theorem tabs_any (n : Nat) (ws : List Int) (hw : WOk ws) (root : Int) : ∃ (t : List Int) (ev : Value), ErrOr ev ∧ (0 < t.length → t[0]? = some root) ∧
    ∀ w b g c, MemAt w b g n c ws → Calls Try.prog 42 #[.pointer (some ⟨b, 0, none⟩), .int .i64 root] w fun e w' => Ext w w' ∧ ToldTabs t ev w.heap.size w' e := by
  by_cases h : 0 ≤ root ∧ root < n
  · obtain ⟨r0, r1⟩ := h
    cases hR : tabsAt ws n 4 0 root with
    | none => exact ⟨[], errW 2, .inr ⟨2, rfl⟩, fun h => absurd h (by simp), fun w b g c hm => (tree_Tables w hm hw root r0 r1 _ rfl).mono fun e w' ⟨h1, h2⟩ => ⟨h1, by rw [hR] at h2; exact ⟨none, 0, h2, World.ownsRow_nil _ _ _ _⟩⟩⟩
    | some t => exact ⟨t, .nilIface, .inl rfl, fun _ => tabs_head hR, fun w b g c hm => (tree_Tables w hm hw root r0 r1 _ rfl).mono fun e w' ⟨h1, h2⟩ => ⟨h1, by rw [hR] at h2; exact h2⟩⟩
  · exact ⟨[], errW 1, .inr ⟨1, rfl⟩, fun h => absurd h (by simp), fun w b g c hm => (tree_Tables_no w hm root h).mono fun e w' ⟨h1, h2⟩ => ⟨h1, none, 0, h2, World.ownsRow_nil _ _ _ _⟩⟩

set_option maxRecDepth 100000 in
set_option maxHeartbeats 8000000 in
theorem law12_TreeStays (w : World) (fr : Int) (hfr : (Lit.int .i64 fr).wf = true) (l : List Laid) (hl : ∀ d ∈ l, d.wf) (v : Value) (hv : SlRd w v 3 (l.map Laid.cells)) (root : Int) (_ : (Lit.int .i64 root).wf = true) (page : Int) (_ : (Lit.int .i64 page).wf = true)
    (fresh : List Int) (_ : ∀ n ∈ fresh, (Lit.int .i64 n).wf = true) (vf : Value) (hvf : SlRd w vf 1 (fresh.map intCells)) :
    Calls Try.prog 11 #[.int .i64 fr, v, .int .i64 root, .int .i64 page, vf] w fun e w' => e = .returned (.bool true) ∧ w.grownBy w' none := by
  refine growC (R := fun e _ => e = .returned (.bool true)) ?_
  have hw := WOk_layW (layN fr) l hl
  have HL := Lib.hid hl
  have HV := Lib.hid hv
  have HR := Lib.hid hfr
  obtain ⟨fa, fcap, rfl, hfcap, hfc⟩ := hvf.form
  rw [List.length_map] at *
  have hcap' : fresh.length ≤ 9223372036854775807 := by unfold maxLen at hfcap; exact hfcap
  have HF := Lib.hid hvf
  have HFC := Lib.hid hfc
  clear hl hv hfr hvf hfc hfcap
  go_enter Try.func11, Try.ntmps11
  go_wp2_with fail
  refine (law12_up _).mono ?_
  rintro e w1 ⟨⟨ex1, rfl⟩, rfl⟩
  go_wp2_with fail
  refine (lay_ext _ fr HR.out l HL.out v (by repeat (first | exact HV.out | apply rd_more | apply rd_alloc | apply rd_drew | apply rd_drewN))).mono ?_
  rintro e w2 ⟨b, g, h, hc, gb, gc, rfl, hm2, hr2, hE⟩
  have hE2 : Ext w w2 := Ext.trans (by repeat (first | exact Ext.refl _ | apply Ext.more | apply Ext.alloc | apply Ext.drew | apply Ext.drewN)) hE
  have HM := Lib.hid hm2
  have HE2 := Lib.hid hE2
  clear HL HV HR hE hE2 hr2 hm2
  generalize layW (layN fr) l = ws at *
  generalize layN fr = n at *
  by_cases h20 : 20 < fresh.length
  · clear HF HFC
    go_wp2_with fail
    go_ret
    exact ⟨(by repeat (first | exact HE2.out | apply Ext.more | apply Ext.alloc | apply Ext.drew | apply Ext.drewN)), rfl⟩
  have hfl : fresh.length ≤ 20 := by omega
  obtain ⟨s1, t1, ev1, hv1, hP⟩ := path_any n ws hw root 1 page fresh hfl
  obtain ⟨s2, k2, ev2, hv2, hU⟩ := prune_any n ws hw root 1 page
  obtain ⟨tt, ev3, hv3, htt, hT⟩ := tabs_any n ws hw root
  have HP := Lib.hid hP
  have HU := Lib.hid hU
  have HT := Lib.hid hT
  have HV1 := Lib.hid hv1
  have HV2 := Lib.hid hv2
  have HV3 := Lib.hid hv3
  have HTT := Lib.hid htt
  obtain ⟨ta, tb⟩ := t1
  clear hP hU hT hv1 hv2 hv3 htt h20 hw
  go_wp2_with fail
  refine (extC (R := fun e w' => ∃ b' g' c', e = .returned (.pointer (some ⟨b', 0, none⟩)) ∧ MemAt w' b' g' n c' ws) ((phys_Clone _ HM.out).mono fun e w' ⟨b', g', c', he, hm, hg, _⟩ => ⟨⟨b', g', c', he, hm⟩, hg⟩)).mono ?_
  rintro e w3 ⟨hE3, cb, cg, cc, rfl, hc3⟩
  have HM3 := Lib.hid (HM.out.kept0 hE3.grow)
  have HC := Lib.hid hc3
  have HE3 := Lib.hid (HE2.out.trans hE3)
  have HF3 := Lib.hid (HF.out.kept0 HE3.out.grow)
  clear HM HE2 hE3 hc3
  go_wp2_with (at_builtin; refine wpList_append_in w3 el_int rfl _ _ rfl (.slice (some ⟨w3.heap.size, 0, none⟩) 0 0) 0 [] rfl (own_lit' rfl (Nat.le_refl _) rfl (by decide) rfl rfl) (by repeat (first | exact Ext.refl _ | apply Ext.more | apply Ext.alloc | apply Ext.drew | apply Ext.drewN)) _ (fresh.map intCells) rfl (by repeat (first | exact HF3.out | apply rd_more | apply rd_alloc | apply rd_drew | apply rd_drewN)) (ints_one _) (ints_flat _) (by simp; omega) ?_; intro v1 x1 HO1 keep; clear keep)
  obtain ⟨oa, ocap, rfl⟩ := own_form HO1.out
  have hO1 : (more w3 x1).ownsRow w3.heap.size 3 1 (.slice oa fresh.length ocap) fresh.length (fresh.map intCells).flatten := by have := HO1.out; simpa using this
  have hoc := own_cap hO1
  have hocm : ocap ≤ 9223372036854775807 := by have := hoc.2.2; unfold maxLen at this; exact this
  have HRo := Lib.hid (own_rd hO1 (by simp) rfl (ints_one _))
  obtain ⟨of, hof, ofl⟩ : ∃ of, SlRd (more w3 x1) (.slice oa fresh.length ocap) 1 of ∧ of = fresh.map intCells := ⟨_, HRo.out, rfl⟩
  have HO := Lib.hid hO1
  clear hoc hof ofl of HO1 hO1
  simp only [Nat.zero_add, List.length_map]
  refine (HP.out _ _ _ _ _ (by repeat (first | exact HM3.out | apply MemAt.more | apply MemAt.alloc | apply MemAt.drew | apply MemAt.drewN)) (by repeat (first | exact HRo.out | apply rd_more | apply rd_alloc | apply rd_drew | apply rd_drewN))).mono ?_
  rintro e w' ⟨⟨x2, rfl⟩, a1, c1, rfl, hO1⟩
  go_wp2_with fail
  have HO4 := Lib.hid (show ((more (more w3 x1) x2).alloc (.cells #[.int .i64 ta, .int .i64 tb] 75)).ownsRow (more w3 x1).heap.size 49 10 (.slice a1 s1.length c1) s1.length (CS s1) from own_alloc hO1 _)
  have HQ4 := Lib.hid (show ((more (more w3 x1) x2).alloc (.cells #[.int .i64 ta, .int .i64 tb] 75)).ownsRow w3.heap.size 3 1 (.slice oa fresh.length ocap) fresh.length (fresh.map intCells).flatten from (by repeat (first | exact HO.out | apply own_more | apply own_alloc | apply own_drew | apply own_drewN)))
  obtain ⟨xb, hxb⟩ : ∃ xb, (more (more w3 x1) x2).heap.size = xb := ⟨_, rfl⟩
  have HB4 := Lib.hid (show ((more (more w3 x1) x2).alloc (.cells #[.int .i64 ta, .int .i64 tb] 75)).heap[xb]? = some (.cells #[.int .i64 ta, .int .i64 tb] 75 (0, 0)) from by rw [← hxb]; exact heap_alloc_new _ _)
  have hE4 : Ext w3 ((more (more w3 x1) x2).alloc (.cells #[.int .i64 ta, .int .i64 tb] 75)) := (by repeat (first | exact Ext.refl _ | apply Ext.more | apply Ext.alloc | apply Ext.drew | apply Ext.drewN))
  rw [hxb]
  clear hxb hO1 HO HRo
  generalize (more (more w3 x1) x2).alloc (.cells #[.int .i64 ta, .int .i64 tb] 75) = W4 at *
  generalize (more w3 x1).heap.size = B4 at *
  have HE4 := Lib.hid (HE3.out.trans hE4)
  have HM4 := Lib.hid (HM3.out.kept0 hE4.grow)
  have HC4 := Lib.hid (HC.out.kept0 hE4.grow)
  clear HM3 HC HE3 hE4 HF3
  go_loopw [19] (fun i wr => ∃ q : Nat, q ≤ fresh.length ∧ i = .int .i64 q ∧ Ext W4 wr) (fun i _ => fresh.length - (intOf i).toNat)
  case atStart => exact ⟨0, by omega, rfl, Ext.refl _⟩
  case round =>
    obtain ⟨q, hq, rfl, ⟨x, rfl⟩⟩ := hrel
    by_cases hlt : q < fresh.length
    · have hz : fresh[q]? = some fresh[q] := List.getElem?_eq_getElem hlt
      obtain ⟨fb, fo, rfl, hfb, hcl⟩ := HFC.out q (intCells fresh[q]) (by rw [List.getElem?_map, hz]; rfl) (by simp [intCells])
      have hfb2 : fb < W4.heap.size := by have := HE4.out.size; omega
      obtain ⟨k1, k2, k3⟩ := lt_facts hfb2
      have x0 := HE4.out.grow.cell (hcl 0 (.int .i64 fresh[q]) rfl) (by simp)
      simp only [Nat.mul_one, Nat.add_zero] at x0
      obtain ⟨og, rfl, _, hog, _, hox, _⟩ := own_at HQ4.out (by omega)
      have o0 := hox q _ (flat_one (fun x => Value.int .i64 x) fresh q _ hz)
      generalize fresh[q] = f at *
      clear hz hcl hox
      go_wp2_with fail
      go_region
      all_goals go_wp2_with fail
      go_roundw
      case rel => exact ⟨q + 1, by omega, by go_num, (by repeat (first | exact Ext.refl _ | apply Ext.more | apply Ext.alloc | apply Ext.drew | apply Ext.drewN))⟩
      case measure => simp [intOf]; omega
    · obtain rfl : q = fresh.length := by omega
      clear hlt hq HFC
      go_wp2_with fail
      refine (HU.out _ _ _ _ (by repeat (first | exact HM4.out | apply MemAt.more | apply MemAt.alloc | apply MemAt.drew | apply MemAt.drewN))).mono ?_
      rintro e w' ⟨⟨x2, rfl⟩, a2, c2, a2', c2', rfl, hO2⟩
      have HO2 := Lib.hid (show (more (more W4 x) x2).ownsRow (more W4 x).heap.size 49 10 (.slice a2 s2.length c2) s2.length (CS s2) from hO2)
      clear hO2
      go_wp2_with fail
      refine (HT.out _ _ _ _ (by repeat (first | exact HM4.out | apply MemAt.more | apply MemAt.alloc | apply MemAt.drew | apply MemAt.drewN))).mono ?_
      rintro e w' ⟨⟨x3, rfl⟩, a3, c3, rfl, hO3⟩
      have hc3 := own_cap hO3
      have hcm3 : c3 ≤ 9223372036854775807 := by have := hc3.2.2; unfold maxLen at this; exact this
      have htc := hc3.2.1
      have HR3 := Lib.hid (show Row (more (more (more W4 x) x2) x3) W4.heap.size 3 1 (.slice a3 tt.length c3) tt.length from ⟨_, own_low hO3 (Ext.size (by repeat (first | exact Ext.refl _ | apply Ext.more | apply Ext.alloc | apply Ext.drew | apply Ext.drewN)))⟩)
      have HO2' := Lib.hid (show (more (more (more W4 x) x2) x3).ownsRow W4.heap.size 49 10 (.slice a2 s2.length c2) s2.length (CS s2) from own_low (own_more HO2.out x3) (Ext.size (by repeat (first | exact Ext.refl _ | apply Ext.more | apply Ext.alloc | apply Ext.drew | apply Ext.drewN))))
      have hE5 : Ext W4 (more (more (more W4 x) x2) x3) := (by repeat (first | exact Ext.refl _ | apply Ext.more | apply Ext.alloc | apply Ext.drew | apply Ext.drewN))
      go_wp2_with fail
      clear hO3 hc3 HO2
      generalize more (more (more W4 x) x2) x3 = W5 at *
      go_loopw [25] (fun i wr => ∃ q : Nat, q ≤ tt.length ∧ i = .int .i64 q ∧ Ext W4 wr ∧ Hid (Row wr W4.heap.size 3 1 (.slice a3 tt.length c3) tt.length) ∧ Hid (wr.ownsRow W4.heap.size 49 10 (.slice a2 s2.length c2) s2.length (CS s2))) (fun i _ => tt.length - (intOf i).toNat)
      case atStart => exact ⟨0, by omega, rfl, hE5, HR3, HO2'⟩
      case round =>
        obtain ⟨k, hk, rfl, hE, HRa, HSa⟩ := hrel
        have HE := Lib.hid hE
        clear hE hE5
        by_cases hlt : k < tt.length
        · obtain ⟨tg, rfl, hBg, hgB, hcell, hfz⟩ := HRa.out.cells (by omega)
          obtain ⟨u0, y0⟩ := hcell k (by omega)
          have HNe := Lib.hid (own_apart HRa.out.choose_spec HSa.out (by decide))
          clear hcell
          go_wp2_with fail
          go_roundw
          case rel => exact ⟨k + 1, by omega, by go_num, (by repeat (first | (with_reducible exact HE.out) | (with_reducible refine ext_set ?_ hBg _ _) | (with_reducible apply Ext.more) | (with_reducible apply Ext.alloc) | (with_reducible apply Ext.drew) | (with_reducible apply Ext.drewN))), (by show Row _ _ _ _ _ _; repeat (first | (with_reducible exact HRa.out) | (with_reducible apply Row.set) | (with_reducible apply Row.more) | (with_reducible apply Row.alloc) | (with_reducible apply Row.drew) | (with_reducible apply Row.drewN))), ownsRow_setCell_other HSa.out (fun e => HNe.out tg rfl e) _⟩
          case measure => simp [intOf]; omega
        · obtain rfl : k = tt.length := by omega
          clear hlt hk HRa HR3 HO2'
          have HO4' := Lib.hid (own_ext HO4.out HE.out)
          have HB4' := Lib.hid (show wr.heap[xb]? = some (.cells #[.int .i64 ta, .int .i64 tb] 75 (0, 0)) from (HE.out.grow.block xb (Array.getElem?_eq_some_iff.1 HB4.out).1 (by simp)).trans HB4.out)
          have HM5 := Lib.hid (HM4.out.kept0 HE.out.grow)
          have HC5 := Lib.hid (HC4.out.kept0 HE.out.grow)
          have HE5 := Lib.hid (HE4.out.trans HE.out)
          have HF5 := Lib.hid (HF.out.kept0 HE5.out.grow)
          clear HE HE4 HM4 HC4 HB4 HO4 HQ4 HF
          go_wp2_with fail
          refine (HP.out _ _ _ _ _ (by repeat (first | exact HM5.out | apply MemAt.more | apply MemAt.alloc | apply MemAt.drew | apply MemAt.drewN)) (by repeat (first | exact HF5.out | apply rd_more | apply rd_alloc | apply rd_drew | apply rd_drewN))).mono ?_
          rintro e w' ⟨⟨x5, rfl⟩, a4, c4, rfl, hO5⟩
          have HO5 := Lib.hid (show (more wr x5).ownsRow wr.heap.size 49 10 (.slice a4 s1.length c4) s1.length (CS s1) from hO5)
          clear hO5
          go_wp2_with fail
          obtain ⟨xc, hxc⟩ : ∃ xc, (more wr x5).heap.size = xc := ⟨_, rfl⟩
          have HB5 := Lib.hid (show ((more wr x5).alloc (.cells #[.int .i64 ta, .int .i64 tb] 75)).heap[xc]? = some (.cells #[.int .i64 ta, .int .i64 tb] 75 (0, 0)) from by rw [← hxc]; exact heap_alloc_new _ _)
          refine (HU.out _ _ _ _ (by repeat (first | exact HM5.out | apply MemAt.more | apply MemAt.alloc | apply MemAt.drew | apply MemAt.drewN))).mono ?_
          rintro e w' ⟨⟨x6, rfl⟩, a6, c6, a6', c6', rfl, hO6⟩
          have HO6 := Lib.hid (show (more ((more wr x5).alloc (.cells #[.int .i64 ta, .int .i64 tb] 75)) x6).ownsRow ((more wr x5).alloc (.cells #[.int .i64 ta, .int .i64 tb] 75)).heap.size 49 10 (.slice a6 s2.length c6) s2.length (CS s2) from hO6)
          rw [hxc]
          clear hO6
          go_wp2_with fail
          refine (HT.out _ _ _ _ (by repeat (first | exact HM5.out | apply MemAt.more | apply MemAt.alloc | apply MemAt.drew | apply MemAt.drewN))).mono ?_
          rintro e w' ⟨⟨x7, rfl⟩, a7, c7, rfl, hO7⟩
          obtain ⟨W7, hW7⟩ : ∃ W7, more (more ((more wr x5).alloc (.cells #[.int .i64 ta, .int .i64 tb] 75)) x6) x7 = W7 := ⟨_, rfl⟩
          have HE7 := Lib.hid (show Ext wr W7 from hW7 ▸ (show Ext wr (more (more ((more wr x5).alloc (.cells #[.int .i64 ta, .int .i64 tb] 75)) x6) x7) from (by repeat (first | exact Ext.refl _ | apply Ext.more | apply Ext.alloc | apply Ext.drew | apply Ext.drewN))))
          have HO5' := Lib.hid (show W7.ownsRow wr.heap.size 49 10 (.slice a4 s1.length c4) s1.length (CS s1) from hW7 ▸ (by repeat (first | exact HO5.out | apply own_more | apply own_alloc | apply own_drew | apply own_drewN)))
          have HO6' := Lib.hid (own_more HO6.out x7)
          have HB5' := Lib.hid (box_more (box_more HB5.out x6) x7)
          rw [hW7] at hO7 HO6' HB5' ⊢
          have hc7 := own_cap hO7
          have hcm7 : c7 ≤ 9223372036854775807 := by have := hc7.2.2; unfold maxLen at this; exact this
          have htc7 := hc7.2.1
          have HA7 := Lib.hid (own_at hO7)
          clear hW7 hO7 HO5 HO6 HB5 hxc hc7
          have HOa := Lib.hid (own_ext HO4'.out HE7.out)
          have HOs := Lib.hid (own_ext HSa.out HE7.out)
          have HM7 := Lib.hid (HM5.out.kept0 HE7.out.grow)
          have HC7 := Lib.hid (HC5.out.kept0 HE7.out.grow)
          obtain ⟨b0, b1, bf⟩ := cells2 HB5'.out
          obtain ⟨d0, d1, df⟩ := cells2 ((HE7.out.grow.block xb (Array.getElem?_eq_some_iff.1 HB4'.out).1 (by simp)).trans HB4'.out)
          have hb0 : xb < W7.heap.size := by have := (Array.getElem?_eq_some_iff.1 HB4'.out).1; have := HE7.out.size; omega
          have hb1 : xc < W7.heap.size := (Array.getElem?_eq_some_iff.1 HB5'.out).1
          obtain ⟨g1, g2, g3⟩ := lt_facts hb0
          obtain ⟨g4, g5, g6⟩ := lt_facts hb1
          have HEf := Lib.hid (HE5.out.trans HE7.out)
          clear HO4' HSa HM5 HC5 HB4' HB5' HE5 HE7 HF5
          by_cases hz : tt.length = 0
          · have hz1 : (((tt.length : Nat) : Int) == 0) = true := by simpa using hz
            clear hz HA7 HTT
            obtain ⟨be1, hbe1, hge1⟩ := err_nil HV1.out
            obtain ⟨be2, hbe2, hge2⟩ := err_nil HV2.out
            obtain ⟨be3, hbe3, hge3⟩ := err_nil HV3.out
            all_goals
              go_wp2_with fail
              dsimp only [List.append]
              go_big_quiet ((first
                | (go_at_call 27; exact Calls.quiet_of (phys_Same_yes _ (by repeat (first | exact HM7.out | apply MemAt.more | apply MemAt.alloc | apply MemAt.drew | apply MemAt.drewN)) (by repeat (first | exact HC7.out | apply MemAt.more | apply MemAt.alloc | apply MemAt.drew | apply MemAt.drewN))))
                | (go_at_call 24; (with_reducible show Calls _ _ #[Value.slice a1 s1.length c1, _] _ _); exact Calls.quiet_of (ref12_SameQ _ (s := s1) (by repeat (first | (with_reducible apply own_alloc) | (with_reducible apply own_drew) | (with_reducible apply own_drewN) | exact HOa.out | (with_reducible apply own_more))) (by repeat (first | (with_reducible apply own_alloc) | (with_reducible apply own_drew) | (with_reducible apply own_drewN) | exact HO5'.out | (with_reducible apply own_more)))))
                | (go_at_call 24; (with_reducible show Calls _ _ #[Value.slice a2 s2.length c2, _] _ _); exact Calls.quiet_of (ref12_SameQ _ (s := s2) (by repeat (first | (with_reducible apply own_alloc) | (with_reducible apply own_drew) | (with_reducible apply own_drewN) | exact HOs.out | (with_reducible apply own_more))) (by repeat (first | (with_reducible apply own_alloc) | (with_reducible apply own_drew) | (with_reducible apply own_drewN) | exact HO6'.out | (with_reducible apply own_more)))))))
              go_wp2_with fail
              go_ret
              exact ⟨(by repeat (first | exact HEf.out | apply Ext.more | apply Ext.alloc | apply Ext.drew | apply Ext.drewN)), rfl⟩
          · have hz1 : (((tt.length : Nat) : Int) == 0) = false := by simpa using hz
            obtain ⟨ug, rfl, _, hug, _, hux, _⟩ := HA7.out (by omega)
            have hr0 := hux 0 (.int .i64 root) (flat_one (fun x => Value.int .i64 x) tt 0 root (HTT.out (by omega)))
            have hzl : 0 < tt.length := by omega
            obtain ⟨g7, g8, g9⟩ := lt_facts hug
            clear hz HA7 HTT hux
            obtain ⟨be1, hbe1, hge1⟩ := err_nil HV1.out
            obtain ⟨be2, hbe2, hge2⟩ := err_nil HV2.out
            obtain ⟨be3, hbe3, hge3⟩ := err_nil HV3.out
            all_goals
              go_wp2_with fail
              dsimp only [List.append]
              go_big_quiet ((first
                | (go_at_call 27; exact Calls.quiet_of (phys_Same_yes _ (by repeat (first | exact HM7.out | apply MemAt.more | apply MemAt.alloc | apply MemAt.drew | apply MemAt.drewN)) (by repeat (first | exact HC7.out | apply MemAt.more | apply MemAt.alloc | apply MemAt.drew | apply MemAt.drewN))))
                | (go_at_call 24; (with_reducible show Calls _ _ #[Value.slice a1 s1.length c1, _] _ _); exact Calls.quiet_of (ref12_SameQ _ (s := s1) (by repeat (first | (with_reducible apply own_alloc) | (with_reducible apply own_drew) | (with_reducible apply own_drewN) | exact HOa.out | (with_reducible apply own_more))) (by repeat (first | (with_reducible apply own_alloc) | (with_reducible apply own_drew) | (with_reducible apply own_drewN) | exact HO5'.out | (with_reducible apply own_more)))))
                | (go_at_call 24; (with_reducible show Calls _ _ #[Value.slice a2 s2.length c2, _] _ _); exact Calls.quiet_of (ref12_SameQ _ (s := s2) (by repeat (first | (with_reducible apply own_alloc) | (with_reducible apply own_drew) | (with_reducible apply own_drewN) | exact HOs.out | (with_reducible apply own_more))) (by repeat (first | (with_reducible apply own_alloc) | (with_reducible apply own_drew) | (with_reducible apply own_drewN) | exact HO6'.out | (with_reducible apply own_more)))))))
              go_wp2_with fail
              go_ret
              exact ⟨(by repeat (first | exact HEf.out | apply Ext.more | apply Ext.alloc | apply Ext.drew | apply Ext.drewN)), rfl⟩

end Go.Proofs.Ytmcjfnkekcablaa
