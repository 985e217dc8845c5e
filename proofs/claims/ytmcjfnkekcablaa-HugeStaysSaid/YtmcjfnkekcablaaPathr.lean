/- The contracts of the document's answers paviorref12.Many, paviorref12.Path. -/
import Derived.Test.YtmcjfnkekcablaaPath
namespace Go.Proofs.Ytmcjfnkekcablaa
open Go.RowKit
set_option linter.unusedVariables false
set_option linter.unusedSimpArgs false
attribute [local go_sem] setCell_drewN alloc_drewN lt_moreE le_moreE lt_moreK le_moreK cell_more frozen_more set_more drew_more drewN_more

theorem spanL_succ (l : Nat) (hl : l ≤ 2) : spanL (l : Int) = 8 * spanL ((l + 1 : Nat) : Int) := by
  have hls : l = 0 ∨ l = 1 ∨ l = 2 := by omega
  rcases hls with rfl | rfl | rfl <;> decide
theorem ref12_Many (w : World) (l : Nat) (hl : l ≤ 3) :
    Calls Try.prog 84 #[.int .i64 l] w fun e w' => e = .returned (.int .i64 (spanL l)) ∧ w' = w := by
  have hls : l = 0 ∨ l = 1 ∨ l = 2 ∨ l = 3 := by omega
  have HS := Lib.hid hls
  clear hls
  go_enter Try.func84, Try.ntmps84
  go_wp2_with fail
  go_loop [3, 4] (fun m i => ∃ (k : Nat), l ≤ k ∧ k ≤ 3 ∧ i = .int .i64 k ∧ m = .int .i64 (8 ^ (k - l) : Nat)) (fun _ i => 3 - (intOf i).toNat)
  case atStart => exact ⟨l, Nat.le_refl _, hl, rfl, by simp⟩
  case round =>
    obtain ⟨k, hk0, hk, rfl, rfl⟩ := hrel
    by_cases hlt : k < 3
    · have hp : 8 ^ (k - l) ≤ 64 := by
        have : 8 ^ (k - l) ≤ 8 ^ 2 := Nat.pow_le_pow_right (by omega) (by omega)
        omega
      have HP := Lib.hid (show ((8 ^ (k + 1 - l) : Nat) : Int) = ((8 ^ (k - l) : Nat) : Int) * 8 by rw [show k + 1 - l = k - l + 1 by omega, Nat.pow_succ]; simp)
      generalize 8 ^ (k - l) = m at *
      go_wp2_with fail
      go_round
      case rel => exact ⟨k + 1, by omega, by omega, by go_num, by rw [HP.out]⟩
      case measure => simp [intOf]; omega
    · obtain rfl : k = 3 := by omega
      have HV := Lib.hid (show ((8 ^ (3 - l) : Nat) : Int) = spanL l by
        rcases HS.out with rfl | rfl | rfl | rfl <;> decide)
      generalize 8 ^ (3 - l) = m at *
      go_wp2_with fail
      go_ret
      exact ⟨by rw [HV.out]; rfl, rfl⟩

theorem way_place {ws : List Int} {n page : Int} : ∀ (k : Nat) (l tb : Int) (s : List (Int × Int)) (d : Desc), wayAt ws n page k l tb = some (s, d) → ∀ (i : Nat) (z : Int × Int), s[i]? = some z → z.2 = placeN (l + i) page := by
  intro k
  induction k with
  | zero => intro l tb s d h; simp [wayAt] at h
  | succ k ih =>
    intro l tb s d h i z hz
    rw [wayAt_in rfl rfl rfl] at h
    split at h
    · simp only [Option.some.injEq, Prod.mk.injEq] at h
      rw [← h.1] at hz
      cases i with
      | zero => simp at hz; rw [← hz]; simp
      | succ i => simp at hz
    · split at h
      · rw [Option.map_eq_some_iff] at h
        obtain ⟨⟨s', d'⟩, h1, h2⟩ := h
        simp only [Prod.mk.injEq] at h2
        rw [← h2.1] at hz
        cases i with
        | zero => simp at hz; rw [← hz]; simp
        | succ i =>
          have := ih _ _ _ _ h1 i z (by simpa using hz)
          rw [this]; congr 1; simp; omega
      · cases h

section
variable {P : Program} {fn : Func} {p q r : Tmp} {ty : TypeId}
/-- Two results: a slot, a struct in memory. -/
theorem results_tc (h : fn.results = #[.tmp q, .cell p ty]) (tmps : Array Value) (w : World) (g : Nat) (t : TypeId) (cs : Array Value) (fr : Nat × Nat) (d : TypeDesc)
    (hp : tmps.getD p undef = .pointer (some ⟨g, 0, none⟩)) (hg : w.heap[g]? = some (.cells cs t fr))
    (hu : P.underlying ty = some d) (hd : (match d with | .struct _ | .array _ _ => true | _ => false) = true) (hi : (P.info? ty).map (·.size) = some cs.size) :
    (results fn tmps).run P w = .ok (.tuple #[tmps.getD q undef, .agg cs]) w := by
  have hp' : tmps[p]?.getD undef = .pointer (some ⟨g, 0, none⟩) := by simpa using hp
  simp [results, h, hp', asAddr, run_loadVar_row w g t ty cs fr d hg hu hd hi]
end
def RPathRet (B : Nat) (w' : World) (t : List Step × (Int × Int)) (e : Ending) : Prop := ∃ a cap, e = .returned (.tuple #[.slice a t.1.length cap, .agg #[.int .i64 t.2.1, .int .i64 t.2.2]]) ∧ OwnS w' B (.slice a t.1.length cap) t.1
theorem rpathRet_yes {B B' n : Nat} {w' : World} {t : List Step × (Int × Int)} {v : Value} {xs : List Value} {x y : Int} (hxy : t.2 = (x, y)) (h : w'.ownsRow B' 49 10 v n xs) (hb : B ≤ B') (hn : n = t.1.length) (hx : xs = (t.1.map Step.cells).flatten) : RPathRet B w' t (.returned (.tuple #[v, .agg #[.int .i64 x, .int .i64 y]])) := by
  obtain ⟨a, cap, rfl⟩ := own_form h
  subst hn hx
  exact ⟨a, cap, by rw [hxy], own_low h hb⟩

set_option maxRecDepth 100000 in
set_option maxHeartbeats 8000000 in
theorem ref12_Path (w : World) {h hc n : Nat} {gb gc : Nat → Nat} {ws : List Int} (hr0 : RefAt w h hc n gb gc ws) (hw : WOk ws) (root asid page : Int) (L : Nat) (h0 : 0 ≤ root) (h1 : root < n) (p0 : 0 ≤ page) (p1 : page < 4096) (l1 : L < 4)
    (fresh : List Int) (v : Value) (hv : SlRd w v 1 (fresh.map intCells)) (hfl : fresh.length ≤ 1000) (s : List (Int × Int)) (d : Desc) (hr : wayAt ws n page (L + 1) 0 root = some (s, d)) (hk : L + 1 - s.length ≤ fresh.length) (hg : ∀ f ∈ fresh, 0 ≤ f ∧ f < 512) :
    Calls Try.prog 40 #[.slice (some ⟨h, 0, none⟩) n hc, .int .i64 root, .int .i64 asid, .int .i64 page, .int .i64 L, v] w fun e w' => Ext w w' ∧ RPathRet w.heap.size w' (pathT asid page L fresh s) e := by
  have HD := Lib.hid (fun w hr0 => ref12_Way w (h := h) (hc := hc) (n := n) (gb := gb) (gc := gc) hr0 hw root page L h0 h1 p0 p1 l1)
  rw [hr] at HD
  have HRF := Lib.hid hr0
  obtain ⟨s0, s1⟩ := wayAt_len (ws := ws) (n := n) (page := page) (L + 1) 0 root s d hr
  obtain ⟨k, hk'⟩ : ∃ k, L + 1 - s.length = k := ⟨_, rfl⟩
  obtain ⟨l0, hl0⟩ : ∃ l0, s.length - 1 = l0 := ⟨_, rfl⟩
  have hz : s[s.length - 1]? = some s[s.length - 1] := List.getElem?_eq_getElem (by omega)
  have hls : lastS s = s[s.length - 1] := by unfold lastS; rw [List.getD_eq_getElem?_getD, hz]; rfl
  have hpl := way_place (L + 1) 0 root s d hr _ _ hz
  rw [← hls, hl0] at hpl
  rw [← hls] at hz
  have HV := Lib.hid (show pathT asid page L fresh s = pathS asid page l0 (lastS s).1 (lastS s).2 (fresh.take k) from by unfold pathT; rw [hk', hl0])
  generalize lastS s = tt at *
  obtain ⟨ta, tb0⟩ := tt
  dsimp only at hpl HV
  have HPl0 := Lib.hid (show tb0 = placeN (l0 : Int) page from by rw [hpl]; congr 1; omega)
  have HZ := Lib.hid hz
  have HLK := Lib.hid (show l0 + k = L by omega)
  have HSl := Lib.hid (show s.length = l0 + 1 by omega)
  have hkf : k ≤ fresh.length := by omega
  have HG := Lib.hid hg
  obtain ⟨fa, fcap, rfl, hfcap, hfc⟩ := hv.form
  rw [List.length_map] at *
  have HFC := Lib.hid hfc
  clear hr0 hw hr hv hfc hfcap hg hpl hls hz hk hk' hl0
  obtain ⟨dk, df, dw, de, dsn, dfo, dso⟩ := d
  go_enter Try.func40, Try.ntmps40
  go_wp2_with fail
  refine (HD.out _ (by repeat (first | exact HRF.out | apply RefAt.more | apply RefAt.alloc | apply RefAt.drew | apply RefAt.drewN))).mono ?_
  rintro e w' ⟨⟨ex2, rfl⟩, wa, wcap, rfl, hO⟩
  have hoc := own_cap hO
  have hm' : wcap ≤ 9223372036854775807 := by have := hoc.2.2; unfold maxLen at this; exact this
  obtain ⟨wg, rfl, _, hwg, _, hwx, _⟩ := own_at hO (by omega)
  have z0 := hwx _ _ (flat_one (fun s : Int × Int => Value.int .i64 s.1) s _ _ HZ.out)
  dsimp only at z0
  clear hO hoc hwx
  go_wp2_with fail
  have hX : Ext (w.alloc (.cells #[.int .i64 0, .int .i64 0] 75)) ((more (w.alloc (.cells #[.int .i64 0, .int .i64 0] 75)) ex2).alloc (.cells #[.int .i64 dk, .int .i64 df, .bool dw, .bool de, .bool dsn, .bool dfo, .int .i64 dso] 94)) := (by repeat (first | exact Ext.refl _ | apply Ext.more | apply Ext.alloc | apply Ext.drew | apply Ext.drewN))
  obtain ⟨y, hy⟩ := hX
  rw [hy]
  have hsl : ((s.length : Nat) : Int) - 1 = (l0 : Int) := by have := HSl.out; omega
  rw [hsl]
  clear hy hsl z0
  generalize (more (w.alloc (.cells #[.int .i64 0, .int .i64 0] 75)) ex2).heap.size = xs
  go_loopw [17, 18, 19] (fun o t l wr => ∃ (q lv : Nat) (tb pl : Int), q ≤ k ∧ l = .int .i64 lv ∧ t = .int .i64 tb ∧ Ext (more (w.alloc (.cells #[.int .i64 0, .int .i64 0] 75)) y) wr ∧ Hid (lv = l0 + q) ∧ Hid ((pathS asid page l0 ta tb0 (fresh.take q)).2 = (tb, pl)) ∧ Hid (pl = placeN lv page) ∧ Hid (wr.ownsRow (more (w.alloc (.cells #[.int .i64 0, .int .i64 0] 75)) y).heap.size 49 10 o (2 * q) (CS (pathS asid page l0 ta tb0 (fresh.take q)).1))) (fun _ _ l _ => L - (intOf l).toNat)
  case atStart => exact ⟨0, l0, ta, tb0, by omega, rfl, rfl, Ext.refl _, rfl, rfl, HPl0.out, World.ownsRow_nil _ _ _ _⟩
  case round =>
    obtain ⟨q, lv, tb, pl, hq, rfl, rfl, ⟨x', rfl⟩, HLv, HP, HPl, HO⟩ := hrel
    have hlq : lv + k = L + q := by have := HLv.out; have := HLK.out; omega
    by_cases hlt : q < k
    · have hlL : lv < L := by omega
      have hz : fresh[q]? = some fresh[q] := List.getElem?_eq_getElem (by omega)
      have hgd := HG.out _ (List.getElem_mem (show q < fresh.length by omega))
      obtain ⟨fb, fo, rfl, hfb, hcl⟩ := HFC.out q (intCells fresh[q]) (by rw [List.getElem?_map, hz]; rfl) (by simp [intCells])
      obtain ⟨k1, k2, k3⟩ := lt_facts hfb
      have x0 := hcl 0 (.int .i64 fresh[q]) rfl
      simp only [Nat.mul_one, Nat.add_zero] at x0
      have htk := take_snoc hz
      have htl : (fresh.take q).length = q := by rw [List.length_take]; omega
      have hsn := pathS_snoc asid page fresh[q] (fresh.take q) l0 ta tb0
      rw [htl, ← htk, ← HLv.out] at hsn
      have E1 := Lib.hid (show CS (pathS asid page l0 ta tb0 (fresh.take (q + 1))).1 = CS (pathS asid page l0 ta tb0 (fresh.take q)).1 ++ ((clearS fresh[q]).cells ++ (⟨1, asid, (lv : Int), tb, pl, firstP page lv, fresh[q] * 4096 + 3, 0, 0, 0⟩ : Step).cells) from by rw [hsn, HP.out]; simp [CS])
      have E2 := Lib.hid (show (pathS asid page l0 ta tb0 (fresh.take (q + 1))).2 = (fresh[q], placeN ((lv + 1 : Nat) : Int) page) from by rw [hsn]; simp)
      have hlv3 : lv ≤ 2 := by omega
      have HLv' := Lib.hid (show lv + 1 = l0 + (q + 1) by have := HLv.out; omega)
      have hix : (lv : Int) - (s.length : Int) + 1 = (q : Int) := by have := HLv.out; have := HSl.out; omega
      generalize fresh[q] = f at *
      have HPc := Lib.hid (fun w => ref04_Place w lv page (by omega) (by omega) p0 p1)
      rw [← HPl.out] at HPc
      have HMn := Lib.hid (fun w => ref12_Many w lv (by omega))
      have hM : 1 ≤ spanL lv ∧ spanL lv ≤ 512 := by rcases spanL_cases (lv := (lv : Int)) (by omega) (by omega) with ⟨_, h⟩ | ⟨_, h⟩ | ⟨_, h⟩ | ⟨_, h⟩ <;> rw [h] <;> omega
      have hfp : page.tdiv (spanL lv) * spanL lv = firstP page lv := by
        rw [Int.tdiv_eq_ediv_of_nonneg p0]
        unfold firstP
        have := Int.mul_ediv_add_emod page (spanL lv)
        rw [Int.mul_comm] at this
        omega
      have hf0 : 0 ≤ firstP page lv ∧ firstP page lv ≤ 4095 := by
        unfold firstP
        have h1 := Int.emod_nonneg page (show spanL lv ≠ 0 by omega)
        have h2 : page % spanL lv ≤ page := by have := Int.mul_ediv_add_emod page (spanL lv); have := Int.mul_nonneg (show 0 ≤ spanL lv by omega) (Int.ediv_nonneg p0 (show 0 ≤ spanL lv by omega)); omega
        omega
      have hq0 : 0 ≤ page.tdiv (spanL lv) ∧ page.tdiv (spanL lv) ≤ 4095 := by
        rw [Int.tdiv_eq_ediv_of_nonneg p0]
        exact ⟨Int.ediv_nonneg p0 (by omega), by have := Int.ediv_le_self (spanL lv) p0; omega⟩
      obtain ⟨hM1, hM2⟩ := hM
      obtain ⟨hf01, hf02⟩ := hf0
      obtain ⟨hq1, hq2⟩ := hq0
      generalize spanL lv = M at *
      generalize firstP page lv = fp at *
      have HW8 := Lib.hid (fun (w : World) => ref02_Word w 0 _ (okD_tab (level := 0) (by omega) (by omega) hgd.1 hgd.2))
      clear hz hcl htk htl hsn HLv HP HPl
      rw [show encW (tableD f) = f * 4096 + 3 from rfl] at HW8
      go_wp2_with fail
      refine (HW8.out _).mono ?_
      rintro e w' ⟨⟨ex3, rfl⟩, rfl⟩
      go_wp2_with ((at_builtin; refine wpList_append_new (more (w.alloc (.cells #[.int .i64 0, .int .i64 0] 75)) y) el_Step rfl _ _ rfl u17 (2 * q) _ rfl (by repeat (first | exact HO.out | apply own_more | apply own_alloc | apply own_drew | apply own_drewN)) (by repeat (first | exact Ext.refl _ | apply Ext.more | apply Ext.alloc | apply Ext.drew | apply Ext.drewN)) _ _ 1 _ rfl (by simp) rfl rfl (by omega) ?_); intro v1 x1' HO1 keep; clear keep)
      have hw1 : IntKind.i64.wrap (page.tdiv M) = page.tdiv M := i64_wraps _ (by omega) (by omega)
      have hw2 : IntKind.i64.wrap fp = fp := i64_wraps _ (by omega) (by omega)
      have hM0 : ¬ M = 0 := by omega
      have hM3 : (M == 0) = false := by simpa using hM0
      clear hix
      go_region_held3 (fun _ => True) (trivial)
        ((first
          | (go_at_call 77; refine (HPc.out _).mono ?_; rintro e w' ⟨rfl, hww⟩; subst w')
          | (go_at_call 84; refine (HMn.out _).mono ?_; rintro e w' ⟨rfl, hww⟩; subst w')
          | (refine step_append_new (more (w.alloc (.cells #[.int .i64 0, .int .i64 0] 75)) y) el_Step (by rfl) _ _ (by rfl) v1 (2 * q + 1) _ (by rfl) (by repeat (first | exact HO1.out | apply own_more | apply own_alloc | apply own_drew | apply own_drewN)) (by repeat (first | exact Ext.refl _ | apply Ext.more | apply Ext.alloc | apply Ext.drew | apply Ext.drewN)) _ _ 1 _ (by rfl) (by repeat (first | (with_reducible exact heap_alloc_new _ _) | (with_reducible apply box_more) | (with_reducible apply box_alloc) | (with_reducible apply box_drew) | (with_reducible apply box_drewN))) rfl rfl (by omega) ?_; intro v2 x2' HO2 keep; clear keep)))
      all_goals
        go_wp2_with fail
        go_roundw
        case rel => exact ⟨q + 1, lv + 1, f, _, by omega, by go_num, rfl, (by repeat (first | exact Ext.refl _ | apply Ext.more | apply Ext.alloc | apply Ext.drew | apply Ext.drewN)), HLv', E2, rfl, by
          show World.ownsRow _ _ _ _ _ _ _
          rw [show 2 * (q + 1) = 2 * q + 1 + 1 by omega, E1.out, ← List.append_assoc]
          have HO3 : (more (more (w.alloc (.cells #[.int .i64 0, .int .i64 0] 75)) y) x2').ownsRow (more (w.alloc (.cells #[.int .i64 0, .int .i64 0] 75)) y).heap.size 49 10 v2 (2 * q + 1 + 1) ((CS (pathS asid page l0 ta tb0 (fresh.take q)).1 ++ (clearS f).cells) ++ (⟨1, asid, (lv : Int), tb, pl, fp, f * 4096 + 3, 0, 0, 0⟩ : Step).cells) := HO2.out
          clear HO2 HO1 HO E1 E2 HFC HD HRF HV HPc HMn HW8 HLv' HG
          repeat (first | (with_reducible exact HO3) | (with_reducible apply own_more) | (with_reducible apply own_alloc) | (with_reducible apply own_drewN) | (with_reducible apply own_drew))⟩
        case measure => simp [intOf]; omega
    · obtain rfl : q = k := by omega
      obtain rfl : lv = L := by omega
      have hpl : (pathS asid page l0 ta tb0 (fresh.take q)).1.length = 2 * q := by rw [pathS_len, List.length_take]; congr 1; omega
      have HPLn := Lib.hid hpl
      have HPc := Lib.hid (fun w => ref04_Place w lv page (by omega) (by omega) p0 p1)
      rw [← HPl.out] at HPc
      clear hpl hlt hlq
      go_wp2_with fail
      refine (HPc.out _).mono ?_
      rintro e w' ⟨rfl, hww⟩
      subst w'
      go_wp2_with fail
      refine bodyPost_ret (results_tc rfl _ _ w.heap.size 75 _ (0, 0) _ rfl (by repeat (first | (with_reducible exact heap_alloc_new _ _) | (with_reducible apply box_more) | (with_reducible apply box_alloc) | (with_reducible apply box_drew) | (with_reducible apply box_drewN))) Try.underlying75 rfl (by kernel_rfl)) rfl ?_
      refine ⟨(by repeat (first | exact Ext.refl _ | apply Ext.more | apply Ext.alloc | apply Ext.drew | apply Ext.drewN)), ?_⟩
      rw [HV.out]
      exact rpathRet_yes (B' := (more (w.alloc (.cells #[.int .i64 tb, .int .i64 pl] 75)) y).heap.size) (v := u17) (n := 2 * q) HP.out (own_re HO.out (by simp [size_more])) (by simp [size_more]; omega) HPLn.out.symm rfl

end Go.Proofs.Ytmcjfnkekcablaa
