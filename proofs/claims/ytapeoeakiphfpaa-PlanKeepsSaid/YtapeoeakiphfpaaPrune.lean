import Derived.Test.YtapeoeakiphfpaaPath
/- The contracts of tree.bare, tree.Prune. -/
namespace Go.Proofs.Ytapeoeakiphfpaa
open Go.RowKit
set_option linter.unusedVariables false
set_option linter.unusedSimpArgs false
attribute [local go_sem] setCell_drewN alloc_drewN lt_moreE le_moreE lt_moreK le_moreK cell_more frozen_more set_more drew_more drewN_more

/-- Rows of different element types lie in different blocks. -/
theorem own_apart {w : World} {B1 B2 s1 s2 n1 n2 : Nat} {T1 T2 : TypeId} {v1 v2 : Value} {xs1 xs2 : List Value} (h1 : w.ownsRow B1 T1 s1 v1 n1 xs1) (h2 : w.ownsRow B2 T2 s2 v2 n2 xs2) (hT : T1 ≠ T2) : Sep v1 v2 := by
  intro g e1 e2
  rcases h1.2 with ⟨rfl, _⟩ | ⟨g1, c1, u1, rfl, _, k1, _⟩
  · cases e1
  · rcases h2.2 with ⟨rfl, _⟩ | ⟨g2, c2, u2, rfl, _, k2, _⟩
    · cases e2
    · cases e1
      cases e2
      rw [k1] at k2
      cases k2
      exact hT rfl
/-- What an append to one row leaves of a row of another type. -/
theorem own_aside {w w' : World} {B1 B2 s1 s2 n1 n2 : Nat} {T1 T2 : TypeId} {v1 v2 : Value} {xs1 xs2 : List Value} (h1 : w.ownsRow B1 T1 s1 v1 n1 xs1) (h2 : w.ownsRow B2 T2 s2 v2 n2 xs2) (hT : T1 ≠ T2)
    (keep : ∀ k ob, w.heap[k]? = some ob → v1.ownBlock ≠ some k → w'.heap[k]? = some ob) : w'.ownsRow B2 T2 s2 v2 n2 xs2 :=
  own_beside h2 fun k ob hk e => keep k ob hk fun e' => own_apart h1 h2 hT k e' e

/-- A row of one type does not lie in a block of another. -/
theorem own_ne_box {w : World} {B sz n k : Nat} {T T' : TypeId} {v : Value} {xs : List Value} {cs : Array Value} {fr : Nat × Nat} (h : w.ownsRow B T sz v n xs) (hb : w.heap[k]? = some (.cells cs T' fr)) (hT : T ≠ T') : v.ownBlock ≠ some k := by
  intro e
  rcases h.2 with ⟨rfl, _⟩ | ⟨g, c, u, rfl, _, k1, _⟩
  · cases e
  · cases e
    rw [k1] at hb
    cases hb
    exact hT rfl
theorem cells2u {w : World} {n : Nat} {T : TypeId} {a0 a1 : Value} (h : w.heap[n]? = some (.cells #[a0, a1] T (0, 0))) :
    w.cell? ⟨n, 0, none⟩ = some a0 ∧ w.cell? ⟨n, 1, none⟩ = some a1 ∧ ∀ i, w.frozen? ⟨n, i, none⟩ = false := by
  have key := fun i => cell_of_row w n i _ _ _ h
  exact ⟨key 0, key 1, fun i => frozen_of_row w n i _ _ h⟩
theorem bareB_no {ws : List Int} {t but : Int} {i : Nat} (hi : i < 8) (h1 : (i : Int) ≠ but) (h2 : ws.getD (t.toNat * 8 + i) 0 ≠ 0) : bareB ws t but = false := by
  cases hb : bareB ws t but with
  | false => rfl
  | true =>
    have := List.all_eq_true.1 hb i (by simpa using hi)
    simp only [Bool.or_eq_true, decide_eq_true_eq] at this
    rcases this with h | h
    · exact absurd h h1
    · exact absurd h h2
theorem bareB_yes {ws : List Int} {t but : Int} (h : ∀ i : Nat, i < 8 → (i : Int) = but ∨ ws.getD (t.toNat * 8 + i) 0 = 0) : bareB ws t but = true := by
  refine List.all_eq_true.2 fun i hi => ?_
  simp only [Bool.or_eq_true, decide_eq_true_eq]
  exact h i (by simpa using hi)

set_option maxHeartbeats 2000000 in
theorem tree_bare (w : World) {b g n c : Nat} {ws : List Int} (hm : MemAt w b g n c ws) (t but : Int) (t0 : 0 ≤ t) (t1 : t < n) (r : Bool) (hr : bareB ws t but = r) :
    Calls Try.prog 86 #[.pointer (some ⟨b, 0, none⟩), .int .i64 t, .int .i64 but] w fun e w' => Ext w w' ∧ e = .returned (.bool r) := by
  have HM := Lib.hid hm
  have HR := Lib.hid hr
  clear hm hr
  go_enter Try.func86, Try.ntmps86
  go_wp2_with fail
  go_loopw [10] (fun i wr => ∃ q : Nat, q ≤ 8 ∧ i = .int .i64 q ∧ Ext w wr ∧ Hid (∀ j : Nat, j < q → (j : Int) = but ∨ ws.getD (t.toNat * 8 + j) 0 = 0)) (fun i _ => 8 - (intOf i).toNat)
  case atStart => exact ⟨0, by omega, rfl, (by repeat (first | exact Ext.refl _ | apply Ext.more | apply Ext.alloc | apply Ext.drew | apply Ext.drewN)), fun j hj => by omega⟩
  case round =>
    obtain ⟨q, hq, rfl, ⟨x, rfl⟩, HE⟩ := hrel
    by_cases hlt : q < 8
    · have HN := Lib.hid (fun (h : (q : Int) = but ∨ ws.getD (t.toNat * 8 + q) 0 = 0) (j : Nat) (hj : j < q + 1) => (show (j : Int) = but ∨ ws.getD (t.toNat * 8 + j) 0 = 0 from by
        by_cases e : j < q
        · exact HE.out j e
        · obtain rfl : j = q := by omega
          exact h))
      have HNo := Lib.hid (fun h1 h2 => HR.out.symm.trans (bareB_no (ws := ws) (t := t) (but := but) hlt h1 h2))
      have HL := Lib.hid (fun w hm => phys_Load_is w (b := b) (g := g) (n := n) (c := c) (ws := ws) hm t (q : Int) (ws.getD (t.toNat * 8 + q) 0) t0 t1 (by omega) (by omega) rfl)
      generalize ws.getD (t.toNat * 8 + q) 0 = X at *
      by_cases hb : (q : Int) = but
      · have hb' : ((q : Int) != but) = false := by simpa using hb
        have HN' := Lib.hid (HN.out (.inl hb))
        clear hb HN HNo
        go_wp2_with fail
        refine (HL.out _ (by repeat (first | exact HM.out | apply MemAt.more | apply MemAt.alloc | apply MemAt.drew | apply MemAt.drewN))).mono ?_
        rintro e w' ⟨rfl, hww⟩
        subst w'
        go_wp2_with fail
        go_roundw
        case rel => exact ⟨q + 1, by omega, by go_num, (by repeat (first | exact Ext.refl _ | apply Ext.more | apply Ext.alloc | apply Ext.drew | apply Ext.drewN)), HN'⟩
        case measure => simp [intOf]; omega
      · have hb' : ((q : Int) != but) = true := by simpa using hb
        by_cases hX : X = 0
        · have HN' := Lib.hid (HN.out (.inr hX))
          clear hb HN HNo
          subst hX
          go_wp2_with fail
          refine (HL.out _ (by repeat (first | exact HM.out | apply MemAt.more | apply MemAt.alloc | apply MemAt.drew | apply MemAt.drewN))).mono ?_
          rintro e w' ⟨rfl, hww⟩
          subst w'
          go_wp2_with fail
          go_roundw
          case rel => exact ⟨q + 1, by omega, by go_num, (by repeat (first | exact Ext.refl _ | apply Ext.more | apply Ext.alloc | apply Ext.drew | apply Ext.drewN)), HN'⟩
          case measure => simp [intOf]; omega
        · have hX' : (X != 0) = true := by simpa using hX
          have HV := Lib.hid (HNo.out hb hX)
          clear hb HN HNo hX
          go_wp2_with fail
          refine (HL.out _ (by repeat (first | exact HM.out | apply MemAt.more | apply MemAt.alloc | apply MemAt.drew | apply MemAt.drewN))).mono ?_
          rintro e w' ⟨rfl, hww⟩
          subst w'
          go_wp2_with fail
          go_ret
          exact ⟨(by repeat (first | exact Ext.refl _ | apply Ext.more | apply Ext.alloc | apply Ext.drew | apply Ext.drewN)), by rw [HV.out]; rfl⟩
    · obtain rfl : q = 8 := by omega
      have HV := Lib.hid (HR.out.symm.trans (bareB_yes HE.out))
      go_wp2_with fail
      go_ret
      exact ⟨(by repeat (first | exact Ext.refl _ | apply Ext.more | apply Ext.alloc | apply Ext.drew | apply Ext.drewN)), by rw [HV.out]; rfl⟩

/-- What Prune tells. -/
inductive PruneR where
  | yes (s : List Step) (gone : List Int)
  | no (k : Nat)
def PruneRet (B : Nat) (w' : World) (r : PruneR) (e : Ending) : Prop := match r with
  | .yes s gone => ∃ a cap a2 cap2, e = .returned (.tuple #[.slice a s.length cap, .slice a2 gone.length cap2, .nilIface]) ∧ OwnS w' B (.slice a s.length cap) s ∧ w'.ownsRow B 3 1 (.slice a2 gone.length cap2) gone.length (gone.map fun x => Value.int .i64 x)
  | .no k => e = .returned (.tuple #[.slice none 0 0, .slice none 0 0, errW k])
def pruneRes (ws : List Int) (asid page : Int) : Option (List (Int × Int) × Desc) → PruneR
  | none => .no 2
  | some (s, _) => if asid < 0 ∨ 255 < asid then .no 1 else .yes (pruneS ws asid page s (s.length - 1) (-1)).1 (pruneS ws asid page s (s.length - 1) (-1)).2
theorem pruneS_go {ws : List Int} {asid page : Int} {s : List (Int × Int)} {l : Nat} {but : Int} {z u : Int × Int} (hz : s.getD (l + 1) (0, 0) = z) (hu : s.getD l (0, 0) = u) (hb : bareB ws z.1 but = true) :
    pruneS ws asid page s (l + 1) but = (⟨1, asid, l, u.1, u.2, firstP page l, 0, 0, 0, 0⟩ :: ⟨3, asid, 0, 0, 0, 0, 0, 0, 0, 0⟩ :: ⟨6, 0, 0, z.1, 0, 0, 0, 0, 0, 0⟩ :: (pruneS ws asid page s l u.2).1, z.1 :: (pruneS ws asid page s l u.2).2) := by
  subst hz hu
  conv => lhs; unfold pruneS
  rw [if_pos hb]
theorem pruneS_stop {ws : List Int} {asid page : Int} {s : List (Int × Int)} {l : Nat} {but : Int} {z : Int × Int} (hz : s.getD (l + 1) (0, 0) = z) (hb : bareB ws z.1 but = false) : pruneS ws asid page s (l + 1) but = ([], []) := by
  subst hz
  conv => lhs; unfold pruneS
  rw [if_neg (by rw [hb]; simp)]

set_option maxHeartbeats 1000000 in
theorem tree_Prune_no (w : World) {b g n c : Nat} {ws : List Int} (hm : MemAt w b g n c ws) (root asid page : Int) (h : ¬ (0 ≤ root ∧ root < n ∧ 0 ≤ page ∧ page < 4096)) :
    Calls Try.prog 40 #[.pointer (some ⟨b, 0, none⟩), .int .i64 root, .int .i64 asid, .int .i64 page] w fun e w' => Ext w w' ∧ PruneRet w.heap.size w' (.no 1) e := by
  have HD := Lib.hid (tree_down_no w hm root page 3 (by omega))
  clear hm h
  go_enter Try.func40, Try.ntmps40
  go_wp2_with fail
  refine HD.out.mono ?_
  rintro e w' ⟨⟨ex1, rfl⟩, rfl⟩
  go_wp2_with fail
  go_ret3
  exact ⟨(by repeat (first | exact Ext.refl _ | apply Ext.more | apply Ext.alloc | apply Ext.drew | apply Ext.drewN)), rfl⟩

theorem pruneRet_yes {B B' : Nat} {w' : World} {s : List Step} {gone : List Int} {v u : Value} (h : w'.ownsRow B' 73 10 v s.length (s.map Step.cells).flatten) (h2 : w'.ownsRow B' 3 1 u gone.length (gone.map fun x => Value.int .i64 x)) (hb : B ≤ B') : PruneRet B w' (.yes s gone) (.returned (.tuple #[v, u, .nilIface])) := by
  obtain ⟨a, cap, rfl⟩ := own_form h
  obtain ⟨a2, cap2, rfl⟩ := own_form h2
  exact ⟨a, cap, a2, cap2, rfl, own_low h hb, own_low h2 hb⟩
theorem way_in' {ws : List Int} {n page : Int} : ∀ (k : Nat) (l tb : Int) (s : List (Int × Int)) (d : Desc), 0 ≤ tb → tb < n → wayAt ws n page k l tb = some (s, d) → ∀ z ∈ s, 0 ≤ z.1 ∧ z.1 < n := by
  intro k
  induction k with
  | zero => intro l tb s d _ _ h; simp [wayAt] at h
  | succ k ih =>
    intro l tb s d t0 t1 h z hz
    rw [wayAt_in rfl rfl rfl] at h
    split at h
    · simp only [Option.some.injEq, Prod.mk.injEq] at h
      rw [← h.1] at hz
      simp at hz
      rw [hz]
      exact ⟨t0, t1⟩
    · split at h
      · rename_i ht
        rw [Option.map_eq_some_iff] at h
        obtain ⟨⟨s', d'⟩, h1, h2⟩ := h
        simp only [Prod.mk.injEq] at h2
        rw [← h2.1] at hz
        rcases List.mem_cons.1 hz with rfl | hz
        · exact ⟨t0, t1⟩
        · exact ih _ _ _ _ ht.1 ht.2 h1 z hz
      · cases h
theorem el_int' : ElemAt Try.prog 54 3 (.int .i64 0) 1 8 := ⟨Try.underlying54, by kernel_rfl, rfl, by decide, by decide⟩
set_option maxRecDepth 100000 in
set_option maxHeartbeats 8000000 in
theorem tree_Prune (w : World) {b g n c : Nat} {ws : List Int} (hm : MemAt w b g n c ws) (hw : WOk ws) (root asid page : Int) (r0 : 0 ≤ root) (r1 : root < n) (p0 : 0 ≤ page) (p1 : page < 4096) (r : Option (List (Int × Int) × Desc)) (hr : wayAt ws n page 4 0 root = r) :
    Calls Try.prog 40 #[.pointer (some ⟨b, 0, none⟩), .int .i64 root, .int .i64 asid, .int .i64 page] w fun e w' => Ext w w' ∧ PruneRet w.heap.size w' (pruneRes ws asid page r) e := by
  have HM := Lib.hid hm
  have HD := Lib.hid (tree_down w hm hw root page 3 r0 r1 p0 p1 (by omega) (by omega))
  rw [show wayAt ws n page (3 + 1) 0 root = r from hr] at HD
  cases r with
  | none =>
    clear hm hw hr
    go_enter Try.func40, Try.ntmps40
    go_wp2_with fail
    refine HD.out.mono ?_
    rintro e w' ⟨⟨ex1, rfl⟩, rfl⟩
    go_wp2_with fail
    go_ret3
    exact ⟨(by repeat (first | exact Ext.refl _ | apply Ext.more | apply Ext.alloc | apply Ext.drew | apply Ext.drewN)), rfl⟩
  | some r =>
    obtain ⟨s, d⟩ := r
    obtain ⟨s0, s1⟩ := wayAt_len (ws := ws) (n := n) (page := page) 4 0 root s d hr
    obtain ⟨e0, e1, e2, e3, e4, e5, e6⟩ := d
    by_cases ha : asid < 0 ∨ 255 < asid
    · have HA := Lib.hid (fun w => tree_may_no w asid ha)
      have HV := Lib.hid (show pruneRes ws asid page (some (s, ⟨e0, e1, e2, e3, e4, e5, e6⟩)) = .no 1 from by unfold pruneRes; dsimp only; rw [if_pos ha])
      clear hm hw hr ha
      go_enter Try.func40, Try.ntmps40
      go_wp2_with fail
      refine HD.out.mono ?_
      rintro e w' ⟨⟨ex1, rfl⟩, a, cap, rfl, _⟩
      go_wp2_with fail
      refine (HA.out _).mono ?_
      rintro e w' ⟨rfl, hww⟩
      subst w'
      go_wp2_with fail
      go_ret3
      exact ⟨(by repeat (first | exact Ext.refl _ | apply Ext.more | apply Ext.alloc | apply Ext.drew | apply Ext.drewN)), by rw [HV.out]; rfl⟩
    · have HA := Lib.hid (fun w => tree_may_yes w asid (by omega) (by omega))
      have HV := Lib.hid (show pruneRes ws asid page (some (s, ⟨e0, e1, e2, e3, e4, e5, e6⟩)) = .yes (pruneS ws asid page s (s.length - 1) (-1)).1 (pruneS ws asid page s (s.length - 1) (-1)).2 from by unfold pruneRes; dsimp only; rw [if_neg ha])
      have HIn := Lib.hid (way_in' 4 0 root s _ r0 r1 hr)
      clear hm hw hr ha
      go_enter Try.func40, Try.ntmps40
      go_wp2_with fail
      refine HD.out.mono ?_
      rintro e w' ⟨⟨ex1, rfl⟩, a, cap, rfl, hO⟩
      have hoc := own_cap hO
      have hm' : cap ≤ 9223372036854775807 := by have := hoc.2.2; unfold maxLen at this; exact this
      have hcl := hoc.2.1
      obtain ⟨wg, rfl, _, hwg, _, hwx, _⟩ := own_at hO (by omega)
      have HX := Lib.hid hwx
      clear hO hoc hwx
      go_wp2_with fail
      refine (HA.out _).mono ?_
      rintro e w' ⟨rfl, hww⟩
      subst w'
      go_wp2_with fail
      obtain ⟨W, hW⟩ : ∃ W, ((more w ex1).alloc (.cells #[.int .i64 e0, .int .i64 e1, .bool e2, .bool e3, .bool e4, .bool e5, .int .i64 e6] 107)) = W := ⟨_, rfl⟩
      have HE := Lib.hid (show Ext w W from hW ▸ (show Ext w ((more w ex1).alloc (.cells #[.int .i64 e0, .int .i64 e1, .bool e2, .bool e3, .bool e4, .bool e5, .int .i64 e6] 107)) from (by repeat (first | exact Ext.refl _ | apply Ext.more | apply Ext.alloc | apply Ext.drew | apply Ext.drewN))))
      have HXW := Lib.hid (show ∀ i u, ((s.map slotC).flatten)[i]? = some u → W.cell? ⟨wg, i, none⟩ = some u from fun i u hu => by
        rw [← hW]
        exact (World.cell?_of_block (heap_alloc_lt _ _ hwg)).trans (HX.out i u hu))
      have hwgW : wg < W.heap.size := by rw [← hW]; simp; omega
      have HMW := Lib.hid (HM.out.kept0 HE.out.grow)
      rw [hW]
      clear hW HX
      have hsl : ((s.length : Nat) : Int) - 1 = ((s.length - 1 : Nat) : Int) := by omega
      rw [hsl]
      clear hsl
      go_loopw [14, 15, 16, 17] (fun o1 o2 bt i wr => ∃ (l : Nat) (but : Int) (acc : List Step) (gone : List Int), i = .int .i64 l ∧ bt = .int .i64 but ∧ l < s.length ∧ acc.length + 3 * l ≤ 30 ∧ gone.length + l ≤ 10 ∧ Ext W wr ∧ Hid (pruneS ws asid page s (s.length - 1) (-1) = (acc ++ (pruneS ws asid page s l but).1, gone ++ (pruneS ws asid page s l but).2)) ∧ Hid (wr.ownsRow W.heap.size 73 10 o1 acc.length (CS acc)) ∧ Hid (wr.ownsRow W.heap.size 3 1 o2 gone.length (gone.map fun x => Value.int .i64 x))) (fun _ _ _ i _ => (intOf i).toNat)
      case atStart => exact ⟨s.length - 1, -1, [], [], rfl, rfl, by omega, (by first | (simp; done) | (simp; omega)), (by first | (simp; done) | (simp; omega)), Ext.refl _, rfl, World.ownsRow_nil _ _ _ _, World.ownsRow_nil _ _ _ _⟩
      case round =>
        obtain ⟨l, but, acc, gone, rfl, rfl, hl, hac, hgo, ⟨x, rfl⟩, HP, HO1, HO2⟩ := hrel
        cases l with
        | zero =>
          have HVf := Lib.hid (show pruneRes ws asid page (some (s, ⟨e0, e1, e2, e3, e4, e5, e6⟩)) = PruneR.yes acc gone from HV.out.trans (by rw [HP.out]; show PruneR.yes (acc ++ []) (gone ++ []) = _; rw [List.append_nil, List.append_nil]))
          go_wp2_with fail
          go_ret3
          exact ⟨(by repeat (first | exact HE.out | apply Ext.more | apply Ext.alloc | apply Ext.drew | apply Ext.drewN)), by rw [HVf.out]; exact pruneRet_yes (v := u14) (u := u15) HO1.out HO2.out (Ext.size HE.out)⟩
        | succ l =>
          obtain ⟨z, hz⟩ : ∃ z, s.getD (l + 1) (0, 0) = z := ⟨_, rfl⟩
          obtain ⟨u, hu⟩ : ∃ u, s.getD l (0, 0) = u := ⟨_, rfl⟩
          have hz' : s[l + 1]? = some z := by rw [← hz, List.getD_eq_getElem?_getD, List.getElem?_eq_getElem hl]; rfl
          have hu' : s[l]? = some u := by rw [← hu, List.getD_eq_getElem?_getD, List.getElem?_eq_getElem (show l < s.length by omega)]; rfl
          obtain ⟨z0, z1⟩ := slot_at HXW.out _ _ hz'
          obtain ⟨u0, u1⟩ := slot_at HXW.out _ _ hu'
          obtain ⟨t0, t1⟩ := HIn.out z (List.mem_of_getElem? hz')
          have HB := Lib.hid (fun r hr w hm => tree_bare w (b := b) (g := g) (n := n) (c := c) (ws := ws) hm z.1 but t0 t1 r hr)
          cases hbb : bareB ws z.1 but with
          | false =>
            have HVf := Lib.hid (show pruneRes ws asid page (some (s, ⟨e0, e1, e2, e3, e4, e5, e6⟩)) = PruneR.yes acc gone from HV.out.trans (by rw [HP.out, pruneS_stop hz hbb]; show PruneR.yes (acc ++ []) (gone ++ []) = _; rw [List.append_nil, List.append_nil]))
            have HB' := Lib.hid (HB.out _ hbb)
            clear hz hu hz' hu' hbb HB HP
            obtain ⟨zt, zp⟩ := z
            dsimp only at z0 z1 t0 t1 HB'
            go_wp2_with fail
            refine (HB'.out _ (by repeat (first | exact HMW.out | apply MemAt.more | apply MemAt.alloc | apply MemAt.drew | apply MemAt.drewN))).mono ?_
            rintro e w' ⟨⟨x2, rfl⟩, rfl⟩
            go_wp2_with fail
            go_ret3
            exact ⟨(by repeat (first | exact HE.out | apply Ext.more | apply Ext.alloc | apply Ext.drew | apply Ext.drewN)), by rw [HVf.out]; exact pruneRet_yes (v := u14) (u := u15) (by repeat (first | exact HO1.out | apply own_more | apply own_alloc | apply own_drew | apply own_drewN)) (by repeat (first | exact HO2.out | apply own_more | apply own_alloc | apply own_drew | apply own_drewN)) (Ext.size HE.out)⟩
          | true =>
            have HPn := Lib.hid (HP.out.trans (by rw [pruneS_go hz hu hbb]))
            have HB' := Lib.hid (HB.out _ hbb)
            have HFst := Lib.hid (fun w => tree_first w page l (by omega) p0 p1)
            generalize firstP page l = fp at *
            clear hz hu hz' hu' hbb HB HP
            obtain ⟨zt, zp⟩ := z
            obtain ⟨ut, up⟩ := u
            dsimp only at z0 z1 u0 u1 t0 t1 HB' HPn
            go_wp2_with fail
            refine (HB'.out _ (by repeat (first | exact HMW.out | apply MemAt.more | apply MemAt.alloc | apply MemAt.drew | apply MemAt.drewN))).mono ?_
            rintro e w' ⟨⟨x2, rfl⟩, rfl⟩
            go_wp2_with fail
            obtain ⟨y, hy⟩ : ∃ y, more (more W x) x2 = more W y := ⟨_, more_more W x x2⟩
            have HO1a := Lib.hid (show (more W y).ownsRow W.heap.size 73 10 u14 acc.length (CS acc) from hy ▸ own_more HO1.out x2)
            have HO2a := Lib.hid (show (more W y).ownsRow W.heap.size 3 1 u15 gone.length (gone.map fun x => Value.int .i64 x) from hy ▸ own_more HO2.out x2)
            rw [hy]
            clear hy HO1 HO2
            have hl0 : (0 : Int) ≤ (l : Int) := by omega
            have hl9 : (l : Int) ≤ 100 := by omega
            have hw1 : IntKind.i64.wrap ((l : Int) + 1 - 1) = (l : Int) := by rw [show (l : Int) + 1 - 1 = l by omega]; exact i64_wraps _ (by omega) (by omega)
            have hw2 : IntKind.i64.wrap (l : Int) = (l : Int) := i64_wraps _ (by omega) (by omega)
            go_wp2_with fail
            obtain ⟨ub, hub⟩ : ∃ ub, (more W y).heap.size = ub := ⟨_, rfl⟩
            obtain ⟨V, hV⟩ : ∃ V, (more W y).alloc (.cells #[.int .i64 ut, .int .i64 up] 61) = V := ⟨_, rfl⟩
            have HEV := Lib.hid (show Ext W V from hV ▸ Ext.alloc ⟨y, rfl⟩ _)
            have HO1c := Lib.hid (show V.ownsRow W.heap.size 73 10 u14 acc.length (CS acc) from hV ▸ own_alloc HO1a.out _)
            have HO2c := Lib.hid (show V.ownsRow W.heap.size 3 1 u15 gone.length (gone.map fun x => Value.int .i64 x) from hV ▸ own_alloc HO2a.out _)
            have HBx := Lib.hid (show V.heap[ub]? = some (.cells #[.int .i64 ut, .int .i64 up] 61 (0, 0)) from by rw [← hV, ← hub]; exact heap_alloc_new _ _)
            obtain ⟨c0, c1, cf⟩ := cells2u HBx.out
            have f0 : ub < V.heap.size := (Array.getElem?_eq_some_iff.1 HBx.out).1
            obtain ⟨f1, f2, f3⟩ := lt_facts f0
            rw [hV, hub]
            clear hV hub HO1a HO2a
            go_region_held3 (fun w' => w'.cell? ⟨ub, 0, none⟩ = some (.int .i64 ut) ∧ w'.cell? ⟨ub, 1, none⟩ = some (.int .i64 up)) (first | (go_simp; done) | (dsimp only; refine ⟨?_, ?_⟩ <;> go_simp))
              ((first
                | (go_at_call 82; refine (HFst.out _).mono ?_; rintro e w' ⟨rfl, hww⟩; subst w')
                | (refine step_append_new W el_Step (by rfl) _ _ (by rfl) u14 acc.length _ (by rfl) (by repeat (first | exact HO1c.out | apply own_more | apply own_alloc | apply own_drew | apply own_drewN)) (by repeat (first | exact HEV.out | apply Ext.more | apply Ext.alloc | apply Ext.drew | apply Ext.drewN)) _ _ 1 _ (by rfl) (by repeat (first | (with_reducible exact heap_alloc_new _ _) | (with_reducible apply box_more) | (with_reducible apply box_alloc) | (with_reducible apply box_drew) | (with_reducible apply box_drewN))) rfl rfl (by omega) ?_; intro v1 x1' HO1d keep; have HBx1 := Lib.hid (keep _ _ (by repeat (first | (with_reducible exact HBx.out) | (with_reducible apply box_more) | (with_reducible apply box_alloc) | (with_reducible apply box_drew) | (with_reducible apply box_drewN))) (own_ne_box HO1c.out HBx.out (by decide))); obtain ⟨d0, d1, df⟩ := cells2u HBx1.out; have HO2d := Lib.hid (own_aside (B1 := W.heap.size) (T1 := 73) (s1 := 10) (n1 := acc.length) (v1 := u14) (xs1 := CS acc) (B2 := W.heap.size) (T2 := 3) (s2 := 1) (n2 := gone.length) (v2 := u15) (xs2 := gone.map fun x => Value.int .i64 x) (by repeat (first | exact HO1c.out | apply own_more | apply own_alloc | apply own_drew | apply own_drewN)) (by repeat (first | exact HO2c.out | apply own_more | apply own_alloc | apply own_drew | apply own_drewN)) (by decide) keep); clear keep)))
            all_goals
              clear HO1c HO2c HBx c0 c1 cf f0 f1 f2 f3
              have tok1 : True := trivial
              go_wp2_with (first
                | (have _t := tok1; (at_builtin; refine wpList_append_new W el_Step rfl _ _ rfl v1 (acc.length + 1) _ rfl (by repeat (first | exact HO1d.out | apply own_more | apply own_alloc | apply own_drew | apply own_drewN)) (by repeat (first | exact Ext.refl _ | apply Ext.more | apply Ext.alloc | apply Ext.drew | apply Ext.drewN)) _ _ 2 _ rfl (by simp) rfl rfl (by omega) ?_); intro v2 x2' HO1e keep; have HBx2 := Lib.hid (keep _ _ HBx1.out (own_ne_box HO1d.out HBx1.out (by decide))); have HO2e := Lib.hid (own_aside HO1d.out HO2d.out (by decide) keep); clear keep tok1)
                | ((at_builtin; refine wpList_append_new W el_int' rfl _ _ rfl u15 gone.length _ rfl (by repeat (first | exact HO2e.out | apply own_more | apply own_alloc | apply own_drew | apply own_drewN)) (by repeat (first | exact Ext.refl _ | apply Ext.more | apply Ext.alloc | apply Ext.drew | apply Ext.drewN)) _ _ 1 _ rfl (by simp) rfl rfl (by omega) ?_); intro v3 x3' HO2f keep; have HBx3 := Lib.hid (keep _ _ HBx2.out (own_ne_box HO2e.out HBx2.out (by decide))); obtain ⟨e0_, e1_, ef_⟩ := cells2u HBx3.out; have HO1f := Lib.hid (own_aside HO2e.out HO1e.out (by decide) keep); clear keep))
              go_roundw
              case rel => exact ⟨l, up, acc ++ [⟨1, asid, l, ut, up, fp, 0, 0, 0, 0⟩, ⟨3, asid, 0, 0, 0, 0, 0, 0, 0, 0⟩, ⟨6, 0, 0, zt, 0, 0, 0, 0, 0, 0⟩], gone ++ [zt], by go_num, rfl, by omega, by simp only [List.length_append, List.length_cons, List.length_nil]; omega, by simp only [List.length_append, List.length_cons, List.length_nil]; omega, (by repeat (first | exact Ext.refl _ | apply Ext.more | apply Ext.alloc | apply Ext.drew | apply Ext.drewN)), (by show _ = _; rw [HPn.out]; simp), (by show World.ownsRow _ _ _ _ _ _ _; simpa [CS, Step.cells] using HO1f.out), (by show World.ownsRow _ _ _ _ _ _ _; simpa using HO2f.out)⟩
              case measure => first | (simp [intOf]; done) | (simp [intOf]; omega)

end Go.Proofs.Ytapeoeakiphfpaa
