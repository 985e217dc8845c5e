/- The walk of the law WalkStays. -/
import Derived.Test.YtmpgkgnbhjnelaaWhole
import Derived.Test.YtmpgkgnbhjnelaaLay
namespace Go.Proofs.Ytmpgkgnbhjnelaa
open Go.RowKit
set_option linter.unusedVariables false
set_option linter.unusedSimpArgs false
attribute [local go_sem] setCell_drewN alloc_drewN

theorem wholeAt_len {ws : List Int} {n root : Int} : ∀ (k : Nat) (p : Int) (l : List Found), p ≤ 4096 + 512 → wholeAt ws n root k p = some l → (l.length : Int) ≤ 4096 + 512 - p := by
  intro k
  induction k with
  | zero => intro p l _ h; simp [wholeAt] at h
  | succ k ih =>
    intro p l hp h
    unfold wholeAt at h
    split at h
    · split at h
      · cases h
      · rename_i f hf
        obtain ⟨l', hl', rfl⟩ := Option.map_eq_some_iff.1 h
        have hlv := walkAt_level _ _ _ _ hf
        have hs := stride_cases hlv.1 (by omega)
        have := ih _ _ (by omega) hl'
        split <;> simp <;> omega
    · simp only [Option.some.injEq] at h
      subst h
      simp; omega
/-- Whatever is asked, a walk tells the same each time. -/
theorem walk_Walk_any (n : Nat) (ws : List Int) (hw : WOk ws) (root page : Int) : ∃ (F : Found) (E : Value), (E = .nilIface ∨ ∃ c, E = errW c) ∧ ∀ (w : World) (b g c : Nat), MemAt w b g n c ws →
    Calls Try.prog 36 #[.pointer (some ⟨b, 0, none⟩), .int .i64 root, .int .i64 page] w fun e w' => e = .returned (.tuple #[F.v, E]) ∧ w.grownBy w' none := by
  by_cases h : 0 ≤ root ∧ root < n ∧ 0 ≤ page ∧ page < 4096
  · obtain ⟨h0, h1, h2, h3⟩ := h
    cases hr : walkAt ws n page 4 0 root with
    | none => exact ⟨zeroF, errW 2, .inr ⟨2, rfl⟩, fun w b g c hm => by have := walk_Walk w hm hw root page h0 h1 h2 h3; rw [hr] at this; exact this⟩
    | some f => exact ⟨f, .nilIface, .inl rfl, fun w b g c hm => by have := walk_Walk w hm hw root page h0 h1 h2 h3; rw [hr] at this; exact this⟩
  · exact ⟨zeroF, errW 1, .inr ⟨1, rfl⟩, fun w b g c hm => walk_Walk_no w hm root page h⟩
theorem walk_Whole_any (n : Nat) (ws : List Int) (hw : WOk ws) (root : Int) : ∃ (k : Nat) (xs : List Value) (E : Value), (E = .nilIface ∨ ∃ c, E = errW c) ∧ k ≤ 5000 ∧ ∀ (w : World) (b g c : Nat), MemAt w b g n c ws →
    Calls Try.prog 39 #[.pointer (some ⟨b, 0, none⟩), .int .i64 root] w fun e w' => ∃ v, e = .returned (.tuple #[v, E]) ∧ w'.ownsRow w.heap.size 63 11 v k xs ∧ w.grownBy w' none := by
  by_cases h : 0 ≤ root ∧ root < n
  · obtain ⟨h0, h1⟩ := h
    cases hr : wholeAt ws n root 4097 0 with
    | none =>
      refine ⟨0, [], errW 2, .inr ⟨2, rfl⟩, by omega, fun w b g c hm => ?_⟩
      refine (walk_Whole w hm hw root h0 h1).mono ?_
      rintro e w' ⟨he, hg⟩
      rw [hr] at he
      exact ⟨_, he, World.ownsRow_nil _ _ _ _, hg⟩
    | some l =>
      refine ⟨l.length, l.flatMap Found.cells, .nilIface, .inl rfl, by have := wholeAt_len _ _ _ (by omega) hr; omega, fun w b g c hm => ?_⟩
      refine (walk_Whole w hm hw root h0 h1).mono ?_
      rintro e w' ⟨he, hg⟩
      rw [hr] at he
      obtain ⟨v, rfl, ho⟩ := he
      exact ⟨v, rfl, ho, hg⟩
  · refine ⟨0, [], errW 1, .inr ⟨1, rfl⟩, by omega, fun w b g c hm => ?_⟩
    refine (walk_Whole_no w hm root h).mono ?_
    rintro e w' ⟨rfl, hg⟩
    exact ⟨_, rfl, World.ownsRow_nil _ _ _ _, hg⟩

/-- The list a of k found things lies in a block of its own, from block B on. -/
def AOk (B k : Nat) (w : World) (ad : Option Addr) : Prop := k ≠ 0 → ∃ ga, ad = some ⟨ga, 0, none⟩ ∧ B ≤ ga ∧ ∃ cur, w.heap[ga]? = some (.cells cur 63 (0, 0)) ∧ k * 11 ≤ cur.size
theorem own_AOk {w : World} {B k : Nat} {v : Value} {xs : List Value} (h : w.ownsRow B 63 11 v k xs) : ∃ ad cap, v = .slice ad k cap ∧ AOk B k w ad := by
  rcases h.2 with ⟨rfl, rfl⟩ | ⟨g, cap, cur, rfl, hb, hg, hnc, hcm, hcs, htk⟩
  · exact ⟨none, 0, rfl, fun h => absurd rfl h⟩
  · exact ⟨_, cap, rfl, fun _ => ⟨g, rfl, hb, cur, hg, by rw [hcs]; omega⟩⟩
theorem AOk.kept {w w' : World} {B k : Nat} {ad : Option Addr} {row : Option Nat} (h : AOk B k w ad) (hg : w.grownBy w' row) (hr : ∀ q, row = some q → q < B) : AOk B k w' ad := by
  intro hk
  obtain ⟨ga, rfl, hb, cur, hc, hs⟩ := h hk
  exact ⟨ga, rfl, hb, cur, by rw [hg.block ga (Array.getElem?_eq_some_iff.1 hc).1 (fun e => by have := hr ga e.symm; omega)]; exact hc, hs⟩
theorem put11_row (w : World) (g o : Nat) (cur : Array Value) (hg : w.heap[g]? = some (.cells cur 63 (0, 0))) (v0 v1 v2 v3 v4 v5 v6 v7 v8 v9 v10 : Value) :
    ∃ cur', (((((((((((w.setCell ⟨g, o, none⟩ v0).setCell ⟨g, o + 1, none⟩ v1).setCell ⟨g, o + 2, none⟩ v2).setCell ⟨g, o + 3, none⟩ v3).setCell ⟨g, o + 4, none⟩ v4).setCell ⟨g, o + 5, none⟩ v5).setCell ⟨g, o + 6, none⟩ v6).setCell ⟨g, o + 7, none⟩ v7).setCell ⟨g, o + 8, none⟩ v8).setCell ⟨g, o + 9, none⟩ v9).setCell ⟨g, o + 10, none⟩ v10).heap[g]? = some (.cells cur' 63 (0, 0)) ∧ cur'.size = cur.size := by
  have h0 := heap_setCell_same _ g (o) _ _ v0 hg
  have h1 := heap_setCell_same _ g (o + 1) _ _ v1 h0
  have h2 := heap_setCell_same _ g (o + 2) _ _ v2 h1
  have h3 := heap_setCell_same _ g (o + 3) _ _ v3 h2
  have h4 := heap_setCell_same _ g (o + 4) _ _ v4 h3
  have h5 := heap_setCell_same _ g (o + 5) _ _ v5 h4
  have h6 := heap_setCell_same _ g (o + 6) _ _ v6 h5
  have h7 := heap_setCell_same _ g (o + 7) _ _ v7 h6
  have h8 := heap_setCell_same _ g (o + 8) _ _ v8 h7
  have h9 := heap_setCell_same _ g (o + 9) _ _ v9 h8
  have h10 := heap_setCell_same _ g (o + 10) _ _ v10 h9
  exact ⟨_, h10, by simp⟩
theorem put11_grow (w : World) (g o : Nat) (v0 v1 v2 v3 v4 v5 v6 v7 v8 v9 v10 : Value) : w.grownBy (((((((((((w.setCell ⟨g, o, none⟩ v0).setCell ⟨g, o + 1, none⟩ v1).setCell ⟨g, o + 2, none⟩ v2).setCell ⟨g, o + 3, none⟩ v3).setCell ⟨g, o + 4, none⟩ v4).setCell ⟨g, o + 5, none⟩ v5).setCell ⟨g, o + 6, none⟩ v6).setCell ⟨g, o + 7, none⟩ v7).setCell ⟨g, o + 8, none⟩ v8).setCell ⟨g, o + 9, none⟩ v9).setCell ⟨g, o + 10, none⟩ v10) (some g) := by
  repeat (refine grow_setCell ?_ _ _ (.inr rfl))
  exact grow_refl _ _
theorem some_cell {w : World} {g : Nat} {cur : Array Value} {T : TypeId} (hg : w.heap[g]? = some (.cells cur T (0, 0))) (j : Nat) (h : j < cur.size) : ∃ u, w.cell? ⟨g, j, none⟩ = some u := by
  rw [cell_of_row w g j _ _ _ hg]
  exact ⟨_, Array.getElem?_eq_getElem h⟩

set_option maxRecDepth 100000 in
set_option maxHeartbeats 4000000 in
theorem law04_WalkStays (w : World) (fr : Int) (hfr : (Lit.int .i64 fr).wf = true) (l : List Laid) (hl : ∀ d ∈ l, d.wf) (v : Value) (hv : SlRd w v 3 (l.map Laid.cells)) (root : Int) (_ : (Lit.int .i64 root).wf = true) (page : Int) (_ : (Lit.int .i64 page).wf = true) :
    Calls Try.prog 14 #[.int .i64 fr, v, .int .i64 root, .int .i64 page] w fun e w' => e = .returned (.bool true) ∧ w.grownBy w' none := by
  have hw := WOk_layW (layN fr) l hl
  have HL := Lib.hid hl
  have HV := Lib.hid hv
  have HR := Lib.hid hfr
  clear hl hv hfr
  go_enter Try.func14, Try.ntmps14
  go_wp2_with fail
  refine (law04_up _).mono ?_
  rintro e w1 ⟨rfl, G1⟩
  go_wp2_with fail
  refine (law04_Lay _ fr HR.out l HL.out v (HV.out.kept0 G1)).mono ?_
  rintro e w2 ⟨b, g, h, hc, gb, gc, rfl, hm2, _, hg2, hb, hgg, _, _⟩
  have G2 := grow_trans G1 hg2
  generalize layW (layN fr) l = ws at *
  generalize layN fr = n at *
  clear HL HV HR hg2 G1
  obtain ⟨F, E1, hE1, HWK⟩ := walk_Walk_any n ws hw root page
  obtain ⟨k, xs, E2, hE2, hk5, HWH⟩ := walk_Whole_any n ws hw root
  have HWK := Lib.hid HWK
  have HWH := Lib.hid HWH
  have HE1 := Lib.hid hE1
  have HE2 := Lib.hid hE2
  clear hE1 hE2 hw
  obtain ⟨F0, F1, F2, F3, F4, F5, F6, F7, F8, F9, F10⟩ := F
  go_wp2_with fail
  refine (phys_Clone _ hm2).mono ?_
  rintro e w3 ⟨cb, cg, cc, rfl, hc3, hg3, hcb, hcg⟩
  have hm3 := hm2.kept0 hg3
  have G3 := grow_trans G2 hg3
  clear hm2 hg3 G2
  go_wp2_with fail
  refine (HWK.out _ _ _ _ hm3).mono ?_
  rintro e w4 ⟨rfl, hg4⟩
  have hm4 := hm3.kept0 hg4
  have hc4 := hc3.kept0 hg4
  have G4 := grow_trans G3 hg4
  clear hm3 hc3 hg4 G3
  go_wp2_with fail
  have ga4 := World.grownBy_alloc w4 (.cells #[.int .i64 F0, .int .i64 F1, .int .i64 F2, .int .i64 F3, .int .i64 F4, .int .i64 F5, .int .i64 F6, .int .i64 F7, .bool F8, .bool F9, .bool F10] 63) none
  refine (HWH.out _ _ _ _ (hm4.kept0 ga4)).mono ?_
  rintro e w5 ⟨va, rfl, ho5, hg5⟩
  have hm5 := (hm4.kept0 ga4).kept0 hg5
  have hc5 := (hc4.kept0 ga4).kept0 hg5
  have G5 := grow_trans (grow_trans G4 ga4) hg5
  have hx5 : w5.heap[w4.heap.size]? = _ := box_heap hg5
  have HX5 := Lib.hid hx5
  obtain ⟨ad, cap, rfl, ha5⟩ := own_AOk ho5
  rw [World.size_alloc] at ha5
  have hs5 := hg5.size
  rw [World.size_alloc] at hs5
  generalize hxb : w4.heap.size = xb at *
  have HA5 := Lib.hid ha5
  have l1 := hm4.ltb
  have l2 := hm4.ltg
  have l3 := hc4.ltb
  have l4 := hc4.ltg
  have l5 := G4.size
  rw [hxb] at l1 l2 l3 l4 l5
  clear hm4 hc4 hg5 G4 ga4 ho5 ha5 hx5 hxb
  go_wp2_with fail
  go_loopw [17] (fun i wr => ∃ q : Nat, q ≤ k ∧ i = .int .i64 q ∧ MemAt wr b g n n ws ∧ MemAt wr cb cg n cc ws ∧ w.grownBy wr none ∧ Hid (AOk (xb + 1) k wr ad) ∧
      Hid (wr.heap[xb]? = some (.cells #[.int .i64 F0, .int .i64 F1, .int .i64 F2, .int .i64 F3, .int .i64 F4, .int .i64 F5, .int .i64 F6, .int .i64 F7, .bool F8, .bool F9, .bool F10] 63 (0, 0)))) (fun i _ => k - (intOf i).toNat)
  case atStart => exact ⟨0, Nat.zero_le _, rfl, hm5, hc5, G5, HA5, HX5⟩
  case round =>
    obtain ⟨q, hq, rfl, hmr, hcr, GR, HA, HX⟩ := hrel
    by_cases hlt : q < k
    · obtain ⟨ga, rfl, hba, cur, hcur, hcs⟩ := HA.out (by omega)
      obtain ⟨u0, hu0⟩ := some_cell hcur (q * 11) (by omega)
      obtain ⟨u1, hu1⟩ := some_cell hcur (q * 11 + 1) (by omega)
      obtain ⟨u2, hu2⟩ := some_cell hcur (q * 11 + 2) (by omega)
      obtain ⟨u3, hu3⟩ := some_cell hcur (q * 11 + 3) (by omega)
      obtain ⟨u4, hu4⟩ := some_cell hcur (q * 11 + 4) (by omega)
      obtain ⟨u5, hu5⟩ := some_cell hcur (q * 11 + 5) (by omega)
      obtain ⟨u6, hu6⟩ := some_cell hcur (q * 11 + 6) (by omega)
      obtain ⟨u7, hu7⟩ := some_cell hcur (q * 11 + 7) (by omega)
      obtain ⟨u8, hu8⟩ := some_cell hcur (q * 11 + 8) (by omega)
      obtain ⟨u9, hu9⟩ := some_cell hcur (q * 11 + 9) (by omega)
      obtain ⟨u10, hu10⟩ := some_cell hcur (q * 11 + 10) (by omega)
      have hfz : ∀ j, wr.frozen? ⟨ga, j, none⟩ = false := fun j => frozen_of_row wr ga j _ _ hcur
      have HC := Lib.hid hcur
      clear hcur
      obtain ⟨cur', hc', hs'⟩ := put11_row wr ga (q * 11) cur HC.out (.int .i64 0) (.int .i64 0) (.int .i64 0) (.int .i64 0) (.int .i64 0) (.int .i64 0) (.int .i64 0) (.int .i64 0) (.bool false) (.bool false) (.bool false)
      have hpg := put11_grow wr ga (q * 11) (.int .i64 0) (.int .i64 0) (.int .i64 0) (.int .i64 0) (.int .i64 0) (.int .i64 0) (.int .i64 0) (.int .i64 0) (.bool false) (.bool false) (.bool false)
      have HC' := Lib.hid hc'
      have HPG := Lib.hid hpg
      clear hc' hpg
      go_wp2_with fail
      go_roundw
      case rel =>
        have hpg := HPG.out
        refine ⟨q + 1, by omega, by go_num, hmr.kept hpg (by simp; omega) (by simp; omega), hcr.kept hpg (by simp; omega) (by simp; omega), grow_new GR hpg (by omega), fun _ => ⟨ga, rfl, hba, cur', HC'.out, by omega⟩, ?_⟩
        show _ = _
        rw [hpg.block xb (Array.getElem?_eq_some_iff.1 HX.out).1 (by simp; omega)]
        exact HX.out
      case measure => simp [intOf]; omega
    · obtain rfl : q = k := by omega
      clear hlt hq HA
      go_wp2_with fail
      refine (HWK.out _ _ _ _ hmr).mono ?_
      rintro e w6 ⟨rfl, hg6⟩
      have hm6 := hmr.kept0 hg6
      have hc6 := hcr.kept0 hg6
      have G6 := grow_trans GR hg6
      have hx6 := (hg6.block xb (Array.getElem?_eq_some_iff.1 HX.out).1 (by simp)).trans HX.out
      have HX6 := Lib.hid hx6
      have lx6 := (Array.getElem?_eq_some_iff.1 hx6).1
      clear hmr hcr GR hg6 HX hx6
      go_wp2_with fail
      have ga6 := World.grownBy_alloc w6 (.cells #[.int .i64 F0, .int .i64 F1, .int .i64 F2, .int .i64 F3, .int .i64 F4, .int .i64 F5, .int .i64 F6, .int .i64 F7, .bool F8, .bool F9, .bool F10] 63) none
      refine (HWH.out _ _ _ _ (hm6.kept0 ga6)).mono ?_
      rintro e w7 ⟨vb, rfl, ho7, hg7⟩
      have hm7 := (hm6.kept0 ga6).kept0 hg7
      have hc7 := (hc6.kept0 ga6).kept0 hg7
      have G7 := grow_trans (grow_trans G6 ga6) hg7
      have hy7 : w7.heap[w6.heap.size]? = _ := box_heap hg7
      have hx7 := ((grow_trans ga6 hg7).block xb lx6 (by simp)).trans HX6.out
      obtain ⟨bd, cap', rfl, _⟩ := own_AOk ho7
      generalize w6.heap.size = yb at *
      clear hm6 hc6 G6 ga6 hg7 ho7 HX6 lx6
      have HQ : ∀ k, Calls Try.prog 26 #[.pointer (some ⟨b, 0, none⟩), .pointer (some ⟨cb, 0, none⟩)] (w7.drewN k) fun e w' => e = .returned (.bool true) ∧ ∃ m, w' = (w7.drewN k).drewN m := by
        intro k
        refine (phys_Same _ (hm7.kept0 (grow_drewN (grow_refl _ none) k)) (hc7.kept0 (grow_drewN (grow_refl _ none) k))).mono ?_
        rintro e w' ⟨rfl, h⟩
        exact ⟨by simp, h⟩
      have HQH := Lib.hid HQ
      obtain ⟨x0, x1, x2, x3, x4, x5, x6, x7, x8, x9, x10, xf⟩ := cells11 hx7
      obtain ⟨y0, y1, y2, y3, y4, y5, y6, y7, y8, y9, y10, yf⟩ := cells11 hy7
      clear HQ hm7 hc7
      have he := fun w a b => eql_err w a b
      rcases HE1.out with rfl | ⟨e1, rfl⟩ <;> rcases HE2.out with rfl | ⟨e2, rfl⟩
      all_goals
        go_wp2_with fail
        go_quiet ((go_at_call 26; exact Calls.quiet_of (HQH.out _)))
        go_wp2_with fail
        go_ret
        exact ⟨rfl, grow_drewN G7 _⟩

end Go.Proofs.Ytmpgkgnbhjnelaa
