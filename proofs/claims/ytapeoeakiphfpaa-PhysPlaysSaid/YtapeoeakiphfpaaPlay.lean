/- The law paviorlaw03.PhysPlays. -/
import Derived.Test.YtapeoeakiphfpaaDo
import Derived.Test.YtapeoeakiphfpaaLawc
import Derived.Deep.RegionLaw
namespace Go.Proofs.Ytapeoeakiphfpaa
open Go.RowKit
set_option linter.unusedVariables false
set_option linter.unusedSimpArgs false
attribute [local go_sem] setCell_drewN alloc_drewN lt_moreE le_moreE lt_moreK le_moreK cell_more frozen_more set_more drew_more drewN_more

/-- As wpList_append_at, in a region that draws its order. -/
theorem step_append_at {P : Program} (W : World) {w : World} {ops : Array Oper} {o : Oper} {a : Act} {K : Act → World → Prop} {Q : Exit → Act → World → Prop} {E : Prop} {t e : TypeId} {z : Value} {size bytes : Nat} (el : ElemAt P t e z size bytes)
    (hgd : o.guard = none) (s x : Operand) (ho : o.op = .call { callee := .builtin .append, args := #[s, x], argTypes := #[t, t] })
    (v : Value) (n : Nat) (xs : List Value) (hs : a.eval s = v) (hown : w.ownsRow W.heap.size e size v n xs) (hW : Ext W w)
    (b cap m : Nat) (cs : List Value) (hx : a.eval x = .slice (some ⟨b, 0, none⟩) m cap) (hl : cs.length = m * size) (hc : ∀ j u, cs[j]? = some u → w.cell? ⟨b, j, none⟩ = some u) (h1 : cs.all Value.oneCell' = true) (hn : n + m ≤ 1000000)
    (h : ∀ v' x', Hid ((more W x').ownsRow W.heap.size e size v' (n + m) (xs ++ cs)) → (∀ k ob, w.heap[k]? = some ob → v.ownBlock ≠ some k → (more W x').heap[k]? = some ob) → K (a.put o.dst v') (more W x')) :
    if Region.wanted o (yielded ops a.tmps) = true then Oper.wp P o a w K Q else E := by
  have hw : Region.wanted o (yielded ops a.tmps) = true := by simp [Region.wanted, hgd]
  rw [if_pos hw]
  obtain ⟨i, hi, hz, h3, h4⟩ := info_parts el.info
  have hb : (n + m) * bytes ≤ 1000000 * 1000 := Nat.mul_le_mul hn el.small
  refine wp_append_own w s x t ho W.heap.size e i z size bytes el.sl hi hz h3 h4 el.zs el.pos v n xs hs hown ⟨b, 0, none⟩ m cap cs hx hl
    (by
      intro j u hu
      have hadd : (⟨b, 0, none⟩ : Addr).add j = ⟨b, j, none⟩ := by unfold Addr.add; split <;> simp_all
      rw [hadd]; exact hc j u hu) (by intro u hu; exact List.all_eq_true.1 h1 u hu) (by unfold maxLen; omega) (by omega) hW.size ?_
  intro v' w' ho' hg' _
  obtain ⟨x', rfl⟩ := more_of_grow (grow_row hW.grow hown hg')
  exact h v' x' ho' fun k ob hk hne => (hg'.block k (Array.getElem?_eq_some_iff.1 hk).1 (fun e => hne e.symm)).trans hk

/-- A memory and the document's, of a call's own, with the same words. -/
def Both (w wr : World) (b g h hc n : Nat) (ws : List Int) : Prop := Ext w wr ∧ MemAt wr b g n n ws ∧ ∃ gb gc, RefAt wr h hc n gb gc ws ∧ ∀ i, i < n → w.heap.size ≤ gb i

theorem copyW_take (ws : List Int) (t f : Nat) (h : t * 8 + 8 ≤ ws.length) : copyW ws t f = ws.take (t * 8) ++ ((List.range 8).map fun j => ws.getD (f * 8 + j) 0) ++ ws.drop (t * 8 + 8) := by
  refine ext_getD _ _ (by rw [copyW_len]; simp; omega) fun j hj => ?_
  rw [copyW_len] at hj
  by_cases h1 : j < t * 8
  · rw [copyW_out _ _ _ _ (.inl h1), List.getD_eq_getElem?_getD, List.getD_eq_getElem?_getD, List.append_assoc, List.getElem?_append_left (by simp; omega), List.getElem?_take, if_pos h1]
  · by_cases h2 : t * 8 + 8 ≤ j
    · rw [copyW_out _ _ _ _ (.inr h2), List.getD_eq_getElem?_getD, List.getD_eq_getElem?_getD, List.getElem?_append_right (by simp; omega), List.getElem?_drop]
      congr 2
      simp
      omega
    · obtain ⟨i, rfl⟩ : ∃ i, j = t * 8 + i := ⟨j - t * 8, by omega⟩
      have hi : i < 8 := by omega
      rw [copyW_in _ _ _ _ hi h]
      conv => rhs; rw [List.getD_eq_getElem?_getD, List.getElem?_append_left (by simp; omega), List.getElem?_append_right (by simp; omega), List.getElem?_map]
      have e : t * 8 + i - (List.take (t * 8) ws).length = i := by simp; omega
      rw [e, List.getElem?_range hi]
      rfl
theorem row_box {w : World} {B rg rc : Nat} {us : List Int} {k : Nat} (h : w.ownsRow B 33 1 (.slice (some ⟨rg, 0, none⟩) (0 + 8) rc) (0 + 8) ([] ++ rowW us k)) :
    ∃ cur, w.heap[rg]? = some (.cells cur 33 (0, 0)) ∧ ∀ j, j < 8 → cur[j]? = some (.int .u64 (((List.range 8).map fun j => us.getD (k * 8 + j) 0).getD j 0)) := by
  rcases h.2 with ⟨h1, _⟩ | ⟨g2, cap2, cur, h1, _, h3, h4, _, _, h7⟩
  · cases h1
  · simp only [Value.slice.injEq, Option.some.injEq, Addr.mk.injEq] at h1
    obtain ⟨⟨rfl, _⟩, _, rfl⟩ := h1
    refine ⟨cur, h3, fun i hi => ?_⟩
    have h2 : (cur.toList.take ((0 + 8) * 1))[i]? = (rowW us k)[i]? := by rw [h7]; rfl
    rw [List.getElem?_take, if_pos (by omega), rowW_at _ _ _ hi] at h2
    have e : ((List.range 8).map fun j => us.getD (k * 8 + j) 0).getD i 0 = us.getD (k * 8 + i) 0 := by
      rw [List.getD_eq_getElem?_getD, List.getElem?_map, List.getElem?_range hi]; rfl
    rw [e]
    simpa using h2
section
variable {w wr : World} {b g h hc n : Nat} {ws us : List Int} {gb gc : Nat → Nat}
theorem Both.put (hE : Ext w wr) (hm : MemAt wr b g n n us) (r : RefAt wr h hc n gb gc ws) (hg : ∀ i, i < n → w.heap.size ≤ gb i) (i j : Nat) (x : Int) (hi : i < n) (hj : j < 8) (hu : us = ws.set (i * 8 + j) x) :
    Both w (wr.setCell ⟨gb i, j, none⟩ (.int .u64 x)) b g h hc n us := by
  subst hu
  have hne := r.mem_ne hm
  exact ⟨ext_set hE (hg i hi) _ _, hm.kept (grow_setCell (grow_refl wr (some (gb i))) ⟨gb i, j, none⟩ _ (.inr rfl)) (by have := hne.2.2.1 i hi; simpa using this.symm) (by have := hne.2.1 i hi; simpa using this.symm), gb, gc, r.put i j x hi hj, hg⟩
theorem Both.drew (hd : Both w wr b g h hc n ws) : Both w wr.drew b g h hc n ws := by
  obtain ⟨a, m, gb, gc, r, q⟩ := hd
  exact ⟨a.drew, m.drew, gb, gc, r.drew, q⟩
theorem Both.new (hE : Ext w wr) (hm : MemAt wr b g n n us) (r : RefAt wr h hc n gb gc ws) (hg : ∀ i, i < n → w.heap.size ≤ gb i) (hh : w.heap.size ≤ h) (i : Nat) (hi : i < n) (rg rc : Nat) (xs : List Int) (hx : xs.length = 8) (hc8 : 8 ≤ rc) (cur : Array Value) (hgc : wr.heap[rg]? = some (.cells cur 33 (0, 0)))
    (hcur : ∀ j, j < 8 → cur[j]? = some (.int .u64 (xs.getD j 0))) (hnew : ∀ q, q < n → gb q ≠ rg) (hrg : w.heap.size ≤ rg) (hu : us = ws.take (i * 8) ++ xs ++ ws.drop (i * 8 + 8)) :
    Both w (wr.setCell ⟨h, i, none⟩ (.slice (some ⟨rg, 0, none⟩) 8 rc)) b g h hc n us := by
  have hne := r.mem_ne hm
  have hr := r.row_new i rg rc xs hi hx hc8 cur hgc hcur hnew
  rw [← hu] at hr
  refine ⟨ext_set hE hh _ _, hm.kept (grow_setCell (grow_refl wr (some h)) ⟨h, i, none⟩ _ (.inr rfl)) (by simpa using hne.2.2.2.symm) (by simpa using hne.1.symm), _, _, hr, fun q hq => ?_⟩
  show w.heap.size ≤ if q = i then rg else gb q
  split
  · exact hrg
  · exact hg q hq
end

set_option maxRecDepth 100000 in
set_option maxHeartbeats 8000000 in
theorem law03_PhysPlays (w : World) (fr : Int) (hfr : (Lit.int .i64 fr).wf = true) (l : List Deed03) (hl : ∀ d ∈ l, d.wf) (v : Value) (hv : SlRd w v 4 (l.map Deed03.cells)) :
    Calls Try.prog 3 #[.int .i64 fr, v] w fun e w' => e = .returned (.bool true) ∧ w.grownBy w' none := by
  refine growC (R := fun e _ => e = .returned (.bool true)) ?_
  obtain ⟨a, cap, rfl, hcap, hcells⟩ := hv.form
  rw [List.length_map] at *
  have hcap' : l.length ≤ 9223372036854775807 := by unfold maxLen at hcap; exact hcap
  have HC := Lib.hid hcells
  have HL := Lib.hid hl
  have heq := fun (w : World) => neq_err w 1 1
  clear hcells hl hv hcap
  go_enter Try.func3, Try.ntmps3
  go_wp2_with fail
  refine (law03_up _).mono ?_
  rintro e w0 ⟨rfl, G0⟩
  go_wp2_with fail
  refine (law03_pick _ _ 6 hfr (by omega) (by omega)).mono ?_
  rintro e w1 ⟨rfl, rfl⟩
  have n0 := pickN_lo fr 6 (by omega)
  have n1 := pickN_hi fr 6 (by omega)
  generalize pickN fr 6 = N0 at *
  obtain ⟨N0, rfl⟩ := Int.eq_ofNat_of_zero_le n0
  obtain ⟨n, hn⟩ : ∃ n, N0 + 1 = n := ⟨_, rfl⟩
  have hnI : (1 : Int) + N0 = n := by omega
  clear hfr
  go_wp2_with fail
  refine (phys_New_int _ n (by omega) (by omega)).mono ?_
  rintro e w2 ⟨mb, mg, rfl, hm, hg1, hmb, hmg⟩
  rw [Int.toNat_natCast] at hm
  have s0 := G0.size
  go_wp2_with fail
  refine (ref03_New _ n (by omega) (by omega)).mono ?_
  rintro e w3 ⟨h, hc, gb, gc, rfl, hr, hg3, hh, hgs⟩
  have s1 := hg1.size
  have HB := Lib.hid (show Both w w3 mb mg h hc n (List.replicate (n * 8) 0) from ⟨.of (grow_trans (grow_trans G0 hg1) hg3), hm.kept0 hg3, gb, gc, hr, fun i hi => by have := hgs i hi; omega⟩)
  have hmw : w.heap.size ≤ mg := by omega
  have hhw : w.heap.size ≤ h := by omega
  have hn6 : n ≤ 6 := by omega
  have hn1 : 1 ≤ n := by omega
  clear G0 hg1 hg3 hm hr hh hgs hmb hmg s0 s1 hnI hn n0 n1
  go_wp2_with fail
  go_loopw [9, 13, 14] (fun i _ _ wr => ∃ (k : Nat) (ws : List Int), k ≤ l.length ∧ k ≤ 60 ∧ i = .int .i64 k ∧ Hid (Both w wr mb mg h hc n ws)) (fun i _ _ _ => l.length - (intOf i).toNat)
  case atStart => exact ⟨0, _, Nat.zero_le _, Nat.zero_le _, rfl, HB⟩
  case round =>
    obtain ⟨k, ws, hk, hk60, rfl, HBr⟩ := hrel
    obtain ⟨wo, rfl⟩ : ∃ wo : World, wo = wr := ⟨_, rfl⟩
    by_cases hin : k < l.length ∧ k < 60
    · obtain ⟨hlt, h60⟩ := hin
      obtain ⟨sb, so, rfl, hsb, hsc⟩ := HC.out k _ (deed_at hlt) (by simp [Deed03.cells])
      obtain ⟨wd0, wd1, wd2, wd3⟩ := HL.out _ (List.getElem_mem hlt)
      generalize l[k] = dk at *
      obtain ⟨d0, d1, d2, d3⟩ := dk
      have GR := HBr.out.1.grow
      have x0 := GR.cell (hsc 0 _ rfl) (by simp)
      have x1 := GR.cell (hsc 1 _ rfl) (by simp)
      have x2 := GR.cell (hsc 2 _ rfl) (by simp)
      have x3 := GR.cell (hsc 3 _ rfl) (by simp)
      rw [← Nat.add_assoc] at x0 x1 x2 x3
      rw [Nat.add_zero] at x0
      dsimp only at x0 x1 x2 x3 wd0 wd1 wd2 wd3
      obtain ⟨hE, hm, gb, gc, hr, hg⟩ := HBr.out
      have HE4 := Lib.hid (hE.alloc (.cells #[.int .i64 d0, .int .i64 d1, .int .i64 d2, .int .u64 d3] 35))
      have HM4 := Lib.hid (hm.alloc (.cells #[.int .i64 d0, .int .i64 d1, .int .i64 d2, .int .u64 d3] 35))
      have HR4 := Lib.hid (hr.alloc (.cells #[.int .i64 d0, .int .i64 d1, .int .i64 d2, .int .u64 d3] 35))
      have HBX := Lib.hid (heap_alloc_new wo (.cells #[.int .i64 d0, .int .i64 d1, .int .i64 d2, .int .u64 d3] 35))
      have HSz := Lib.hid (show wo.heap.size < (wo.alloc (.cells #[.int .i64 d0, .int .i64 d1, .int .i64 d2, .int .u64 d3] 35)).heap.size by simp)
      have HLt := Lib.hid (show ∀ i, i < n → gb i < wo.heap.size from hr.ltg)
      have HLh := Lib.hid hr.lth
      have HLg := Lib.hid hm.ltg
      have HG := Lib.hid hg
      have hnc := hr.nc
      have hlen := hr.len
      clear hsc hE hm hr hg GR HBr hsb
      go_wp2_with fail
      refine (law03_pick _ _ 3 wd0 (by omega) (by omega)).mono ?_
      rintro e w' ⟨rfl, rfl⟩
      have c1 := pickN_lo d0 3 (by omega)
      have c2 := pickN_hi d0 3 (by omega)
      generalize pickN d0 3 = C at *
      have hC : C = 0 ∨ C = 1 ∨ C = 2 := by omega
      clear c1 c2 x0 x1 x2 x3
      generalize wo.alloc (.cells #[.int .i64 d0, .int .i64 d1, .int .i64 d2, .int .u64 d3] 35) = W4 at *
      generalize wo.heap.size = xb at *
      have z0 := HSz.out
      have z1 := HLh.out
      have z2 := HLg.out
      have q0 : W4.cell? ⟨xb, 0, none⟩ = some (.int .i64 d0) := by rw [cell_of_row _ _ _ _ _ _ HBX.out]; rfl
      have q1 : W4.cell? ⟨xb, 1, none⟩ = some (.int .i64 d1) := by rw [cell_of_row _ _ _ _ _ _ HBX.out]; rfl
      have q2 : W4.cell? ⟨xb, 2, none⟩ = some (.int .i64 d2) := by rw [cell_of_row _ _ _ _ _ _ HBX.out]; rfl
      have q3 : W4.cell? ⟨xb, 3, none⟩ = some (.int .u64 d3) := by rw [cell_of_row _ _ _ _ _ _ HBX.out]; rfl
      rcases hC with rfl | rfl | rfl
      · by_cases hb : 0 ≤ d1 ∧ d1 < n ∧ 0 ≤ d2 ∧ d2 < 8
        · obtain ⟨b1, b2, b3, b4⟩ := hb
          have HHas := Lib.hid (hasB_of (n := n) ⟨b1, b2, b3, b4⟩)
          have HS := Lib.hid (phys_Store_int W4 HM4.out d1 d2 d3 b1 b2 b3 b4)
          obtain ⟨A, rfl⟩ := Int.eq_ofNat_of_zero_le b1
          obtain ⟨B, rfl⟩ := Int.eq_ofNat_of_zero_le b3
          have hAn : A < n := by omega
          have hB8 : B < 8 := by omega
          go_wp2_with fail
          refine HS.out.mono ?_
          rintro e w5 ⟨rfl, hm5, hg5⟩
          rw [Int.toNat_natCast, Int.toNat_natCast] at hm5
          have hne := HR4.out.mem_ne HM4.out
          have HR5 := Lib.hid (HR4.out.kept hg5 (by simpa using hne.1) (fun i hi => by simpa using hne.2.1 i hi))
          have HE5 := Lib.hid (show Ext w w5 from .of (grow_new HE4.out.grow hg5 hmw))
          have HM5 := Lib.hid hm5
          have HBX := Lib.hid ((hg5.block xb (by omega) (by simp; omega)).trans HBX.out)
          have hz5 := hg5.size
          clear HS hm5 hg5 hne HR4 HM4 HE4 q0 q1 q2 q3
          have q0 : w5.cell? ⟨xb, 0, none⟩ = some (.int .i64 d0) := by rw [cell_of_row _ _ _ _ _ _ HBX.out]; rfl
          have q1 : w5.cell? ⟨xb, 1, none⟩ = some (.int .i64 A) := by rw [cell_of_row _ _ _ _ _ _ HBX.out]; rfl
          have q2 : w5.cell? ⟨xb, 2, none⟩ = some (.int .i64 B) := by rw [cell_of_row _ _ _ _ _ _ HBX.out]; rfl
          have q3 : w5.cell? ⟨xb, 3, none⟩ = some (.int .u64 d3) := by rw [cell_of_row _ _ _ _ _ _ HBX.out]; rfl
          have y0 := HR5.out.hcell A hAn
          have y1 := HR5.out.cell A B hAn hB8
          have y2 := HR5.out.free A B hAn
          have y3 := HR5.out.cc A hAn
          have z3 := HLt.out A hAn
          have z6 : (gb A = xb) = False := by simp; omega
          have z7 : (xb = gb A) = False := by simp; omega
          go_wp2_with (go_at_call 21; first | ((with_reducible refine (ref03_HasB _ _ _ _ _ _ _ HHas.out).mono ?_); rintro e w' ⟨rfl, hww⟩; rw [hww]; clear hww w'))
          go_region
          all_goals
            have HBt := Lib.hid ((Both.put HE5.out HM5.out HR5.out HG.out A B d3 hAn hB8 rfl).drew)
            clear HE5 HM5 HR5 y0 y1 y2 HBX q0 q1 q2 q3
            go_wp2_with fail
            generalize ws.set (A * 8 + B) d3 = us at *
            clear heq
            as_aux_lemma =>
              go_loopw [13, 14] (fun i _ wr => ∃ f : Nat, f ≤ n ∧ i = .int .i64 f ∧ Hid (Both w wr mb mg h hc n us)) (fun i _ _ => n - (intOf i).toNat)
              case atStart => exact ⟨0, Nat.zero_le _, rfl, HBt⟩
              case round =>
                obtain ⟨f, hf, rfl, HBf⟩ := hrel
                obtain ⟨wf, rfl⟩ : ∃ wf : World, wf = wr := ⟨_, rfl⟩
                by_cases hfn : f < n
                · go_wp2_with fail
                  go_loopw [14] (fun i wi => ∃ q : Nat, q ≤ 8 ∧ i = .int .i64 q ∧ Hid (Both w wi mb mg h hc n us)) (fun i _ => 8 - (intOf i).toNat)
                  case atStart => exact ⟨0, Nat.zero_le _, rfl, HBf⟩
                  case round =>
                    obtain ⟨q, hq, rfl, HBq⟩ := hrel
                    obtain ⟨wi, rfl⟩ : ∃ wi : World, wi = wr := ⟨_, rfl⟩
                    by_cases hq8 : q < 8
                    · obtain ⟨hEq, hmq, gbq, gcq, hrq, hgq⟩ := HBq.out
                      have HL2 := Lib.hid (phys_Load_is wi hmq f q (us.getD (f * 8 + q) 0) (by omega) (by omega) (by omega) (by omega) (by simp))
                      have y0 := hrq.hcell f hfn
                      have y1 := hrq.cell f q hfn hq8
                      have y2 := hrq.cc f hfn
                      have y3 := hrq.nc
                      generalize us.getD (f * 8 + q) 0 = X at *
                      clear hEq hmq hrq hgq
                      go_wp2_with fail
                      refine HL2.out.mono ?_
                      rintro e w' ⟨rfl, rfl⟩
                      go_wp2_with fail
                      first | go_quiet (fail) | skip
                      go_wp2_with fail
                      go_roundw
                      case rel => exact ⟨q + 1, by omega, by go_num, show Both _ _ _ _ _ _ _ _ from by first | exact HBq.out | exact HBq.out.drewN _⟩
                      case measure => simp [intOf]; omega
                    · obtain rfl : q = 8 := by omega
                      go_wp2_with fail
                      go_roundw
                      case rel => exact ⟨f + 1, by omega, by go_num, HBq⟩
                      case measure => simp [intOf]; omega
                · obtain rfl : f = n := by omega
                  go_wp2_with fail
                  go_roundw
                  case rel => exact ⟨k + 1, us, by omega, by omega, by go_num, HBf⟩
                  case measure => simp [intOf]; omega
        · have HHas := Lib.hid (hasB_no hb)
          have HS := Lib.hid (phys_Store_no W4 HM4.out d1 d2 d3 hb)
          have HBt := Lib.hid (show Both w W4 mb mg h hc n ws from ⟨HE4.out, HM4.out, gb, gc, HR4.out, HG.out⟩)
          obtain ⟨us, hus⟩ : ∃ us, us = ws := ⟨_, rfl⟩
          rw [← hus] at HBt
          clear HE4 HM4 HR4 hus
          go_wp2_with fail
          refine HS.out.mono ?_
          rintro e w5 ⟨rfl, rfl⟩
          go_wp2_with (go_at_call 21; first | ((with_reducible refine (ref03_HasB _ _ _ _ _ _ _ HHas.out).mono ?_); rintro e w' ⟨rfl, hww⟩; rw [hww]; clear hww w'))
          clear q0 q1 q2 q3 HBX
          clear heq
          as_aux_lemma =>
            go_loopw [13, 14] (fun i _ wr => ∃ f : Nat, f ≤ n ∧ i = .int .i64 f ∧ Hid (Both w wr mb mg h hc n us)) (fun i _ _ => n - (intOf i).toNat)
            case atStart => exact ⟨0, Nat.zero_le _, rfl, HBt⟩
            case round =>
              obtain ⟨f, hf, rfl, HBf⟩ := hrel
              obtain ⟨wf, rfl⟩ : ∃ wf : World, wf = wr := ⟨_, rfl⟩
              by_cases hfn : f < n
              · go_wp2_with fail
                go_loopw [14] (fun i wi => ∃ q : Nat, q ≤ 8 ∧ i = .int .i64 q ∧ Hid (Both w wi mb mg h hc n us)) (fun i _ => 8 - (intOf i).toNat)
                case atStart => exact ⟨0, Nat.zero_le _, rfl, HBf⟩
                case round =>
                  obtain ⟨q, hq, rfl, HBq⟩ := hrel
                  obtain ⟨wi, rfl⟩ : ∃ wi : World, wi = wr := ⟨_, rfl⟩
                  by_cases hq8 : q < 8
                  · obtain ⟨hEq, hmq, gbq, gcq, hrq, hgq⟩ := HBq.out
                    have HL2 := Lib.hid (phys_Load_is wi hmq f q (us.getD (f * 8 + q) 0) (by omega) (by omega) (by omega) (by omega) (by simp))
                    have y0 := hrq.hcell f hfn
                    have y1 := hrq.cell f q hfn hq8
                    have y2 := hrq.cc f hfn
                    have y3 := hrq.nc
                    generalize us.getD (f * 8 + q) 0 = X at *
                    clear hEq hmq hrq hgq
                    go_wp2_with fail
                    refine HL2.out.mono ?_
                    rintro e w' ⟨rfl, rfl⟩
                    go_wp2_with fail
                    first | go_quiet (fail) | skip
                    go_wp2_with fail
                    go_roundw
                    case rel => exact ⟨q + 1, by omega, by go_num, show Both _ _ _ _ _ _ _ _ from by first | exact HBq.out | exact HBq.out.drewN _⟩
                    case measure => simp [intOf]; omega
                  · obtain rfl : q = 8 := by omega
                    go_wp2_with fail
                    go_roundw
                    case rel => exact ⟨f + 1, by omega, by go_num, HBq⟩
                    case measure => simp [intOf]; omega
              · obtain rfl : f = n := by omega
                go_wp2_with fail
                go_roundw
                case rel => exact ⟨k + 1, us, by omega, by omega, by go_num, HBf⟩
                case measure => simp [intOf]; omega
      · by_cases hb : 0 ≤ d1 ∧ d1 < n ∧ (0 : Int) ≤ 0 ∧ (0 : Int) < 8
        · obtain ⟨b1, b2, b3, b4⟩ := hb
          have HHas := Lib.hid (hasB_of (n := n) ⟨b1, b2, b3, b4⟩)
          have HS := Lib.hid (phys_Clear_int W4 HM4.out d1 b1 b2)
          obtain ⟨A, rfl⟩ := Int.eq_ofNat_of_zero_le b1
          have hAn : A < n := by omega
          go_wp2_with fail
          refine HS.out.mono ?_
          rintro e w5 ⟨rfl, hm5, hg5⟩
          rw [Int.toNat_natCast] at hm5
          have hne := HR4.out.mem_ne HM4.out
          have HR5 := Lib.hid (HR4.out.kept hg5 (by simpa using hne.1) (fun i hi => by simpa using hne.2.1 i hi))
          have HE5 := Lib.hid (show Ext w w5 from .of (grow_new HE4.out.grow hg5 hmw))
          have HM5 := Lib.hid hm5
          have HBX := Lib.hid ((hg5.block xb (by omega) (by simp; omega)).trans HBX.out)
          have hz5 := hg5.size
          clear HS hm5 hg5 hne HR4 HM4 HE4 q0 q1 q2 q3
          have q0 : w5.cell? ⟨xb, 0, none⟩ = some (.int .i64 d0) := by rw [cell_of_row _ _ _ _ _ _ HBX.out]; rfl
          have q1 : w5.cell? ⟨xb, 1, none⟩ = some (.int .i64 A) := by rw [cell_of_row _ _ _ _ _ _ HBX.out]; rfl
          have q2 : w5.cell? ⟨xb, 2, none⟩ = some (.int .i64 d2) := by rw [cell_of_row _ _ _ _ _ _ HBX.out]; rfl
          have q3 : w5.cell? ⟨xb, 3, none⟩ = some (.int .u64 d3) := by rw [cell_of_row _ _ _ _ _ _ HBX.out]; rfl
          have y0 := HR5.out.hcell A hAn
          have y2 := HR5.out.hfree A
          have hmk := fun w => make8 w
          have z4 : h < w5.heap.size := by omega
          have z5 : xb < w5.heap.size := by omega
          have z6 : (h = xb) = False := by simp; omega
          have z7 : (xb = h) = False := by simp; omega
          have z8 : (h = w5.heap.size) = False := by simp; omega
          have z9 : (w5.heap.size = h) = False := by simp; omega
          obtain ⟨p1, p2, p3⟩ := lt_facts z4
          obtain ⟨p4, p5, p6⟩ := lt_facts z5
          go_wp2_with (go_at_call 21; first | ((with_reducible refine (ref03_HasB _ _ _ _ _ _ _ HHas.out).mono ?_); rintro e w' ⟨rfl, hww⟩; rw [hww]; clear hww w'))
          go_region
          all_goals
            have hb8 := Both.new (HE5.out.alloc (.cells zeros8 33)) (HM5.out.alloc (.cells zeros8 33)) (HR5.out.alloc (.cells zeros8 33)) HG.out hhw A hAn w5.heap.size 8 (List.replicate 8 0) (by simp) (Nat.le_refl _) _ (heap_alloc_new w5 _) (by
              intro j hj
              rw [getD_rep0]
              match j, hj with
              | 0, _ => rfl
              | 1, _ => rfl
              | 2, _ => rfl
              | 3, _ => rfl
              | 4, _ => rfl
              | 5, _ => rfl
              | 6, _ => rfl
              | 7, _ => rfl) (fun q hq e => by have := HLt.out q hq; omega) (by have := HE5.out.size; omega) (clearW_take ws A (by omega))
            rw [World.setCell_alloc_past (w := w5) (.cells zeros8 33) h A _ z4] at hb8
            have HBt := Lib.hid hb8.drew
            clear hb8 HE5 HM5 HR5 y0 y2 HBX q0 q1 q2 q3 hmk
            go_wp2_with fail
            generalize clearW ws A = us at *
            clear heq
            as_aux_lemma =>
              go_loopw [13, 14] (fun i _ wr => ∃ f : Nat, f ≤ n ∧ i = .int .i64 f ∧ Hid (Both w wr mb mg h hc n us)) (fun i _ _ => n - (intOf i).toNat)
              case atStart => exact ⟨0, Nat.zero_le _, rfl, HBt⟩
              case round =>
                obtain ⟨f, hf, rfl, HBf⟩ := hrel
                obtain ⟨wf, rfl⟩ : ∃ wf : World, wf = wr := ⟨_, rfl⟩
                by_cases hfn : f < n
                · go_wp2_with fail
                  go_loopw [14] (fun i wi => ∃ q : Nat, q ≤ 8 ∧ i = .int .i64 q ∧ Hid (Both w wi mb mg h hc n us)) (fun i _ => 8 - (intOf i).toNat)
                  case atStart => exact ⟨0, Nat.zero_le _, rfl, HBf⟩
                  case round =>
                    obtain ⟨q, hq, rfl, HBq⟩ := hrel
                    obtain ⟨wi, rfl⟩ : ∃ wi : World, wi = wr := ⟨_, rfl⟩
                    by_cases hq8 : q < 8
                    · obtain ⟨hEq, hmq, gbq, gcq, hrq, hgq⟩ := HBq.out
                      have HL2 := Lib.hid (phys_Load_is wi hmq f q (us.getD (f * 8 + q) 0) (by omega) (by omega) (by omega) (by omega) (by simp))
                      have y0 := hrq.hcell f hfn
                      have y1 := hrq.cell f q hfn hq8
                      have y2 := hrq.cc f hfn
                      have y3 := hrq.nc
                      generalize us.getD (f * 8 + q) 0 = X at *
                      clear hEq hmq hrq hgq
                      go_wp2_with fail
                      refine HL2.out.mono ?_
                      rintro e w' ⟨rfl, rfl⟩
                      go_wp2_with fail
                      first | go_quiet (fail) | skip
                      go_wp2_with fail
                      go_roundw
                      case rel => exact ⟨q + 1, by omega, by go_num, show Both _ _ _ _ _ _ _ _ from by first | exact HBq.out | exact HBq.out.drewN _⟩
                      case measure => simp [intOf]; omega
                    · obtain rfl : q = 8 := by omega
                      go_wp2_with fail
                      go_roundw
                      case rel => exact ⟨f + 1, by omega, by go_num, HBq⟩
                      case measure => simp [intOf]; omega
                · obtain rfl : f = n := by omega
                  go_wp2_with fail
                  go_roundw
                  case rel => exact ⟨k + 1, us, by omega, by omega, by go_num, HBf⟩
                  case measure => simp [intOf]; omega
        · have HHas := Lib.hid (hasB_no hb)
          have HS := Lib.hid (phys_Clear_no W4 HM4.out d1 (by omega))
          have HBt := Lib.hid (show Both w W4 mb mg h hc n ws from ⟨HE4.out, HM4.out, gb, gc, HR4.out, HG.out⟩)
          obtain ⟨us, hus⟩ : ∃ us, us = ws := ⟨_, rfl⟩
          rw [← hus] at HBt
          clear HE4 HM4 HR4 hus
          go_wp2_with fail
          refine HS.out.mono ?_
          rintro e w5 ⟨rfl, rfl⟩
          go_wp2_with (go_at_call 21; first | ((with_reducible refine (ref03_HasB _ _ _ _ _ _ _ HHas.out).mono ?_); rintro e w' ⟨rfl, hww⟩; rw [hww]; clear hww w'))
          clear q0 q1 q2 q3 HBX
          clear heq
          as_aux_lemma =>
            go_loopw [13, 14] (fun i _ wr => ∃ f : Nat, f ≤ n ∧ i = .int .i64 f ∧ Hid (Both w wr mb mg h hc n us)) (fun i _ _ => n - (intOf i).toNat)
            case atStart => exact ⟨0, Nat.zero_le _, rfl, HBt⟩
            case round =>
              obtain ⟨f, hf, rfl, HBf⟩ := hrel
              obtain ⟨wf, rfl⟩ : ∃ wf : World, wf = wr := ⟨_, rfl⟩
              by_cases hfn : f < n
              · go_wp2_with fail
                go_loopw [14] (fun i wi => ∃ q : Nat, q ≤ 8 ∧ i = .int .i64 q ∧ Hid (Both w wi mb mg h hc n us)) (fun i _ => 8 - (intOf i).toNat)
                case atStart => exact ⟨0, Nat.zero_le _, rfl, HBf⟩
                case round =>
                  obtain ⟨q, hq, rfl, HBq⟩ := hrel
                  obtain ⟨wi, rfl⟩ : ∃ wi : World, wi = wr := ⟨_, rfl⟩
                  by_cases hq8 : q < 8
                  · obtain ⟨hEq, hmq, gbq, gcq, hrq, hgq⟩ := HBq.out
                    have HL2 := Lib.hid (phys_Load_is wi hmq f q (us.getD (f * 8 + q) 0) (by omega) (by omega) (by omega) (by omega) (by simp))
                    have y0 := hrq.hcell f hfn
                    have y1 := hrq.cell f q hfn hq8
                    have y2 := hrq.cc f hfn
                    have y3 := hrq.nc
                    generalize us.getD (f * 8 + q) 0 = X at *
                    clear hEq hmq hrq hgq
                    go_wp2_with fail
                    refine HL2.out.mono ?_
                    rintro e w' ⟨rfl, rfl⟩
                    go_wp2_with fail
                    first | go_quiet (fail) | skip
                    go_wp2_with fail
                    go_roundw
                    case rel => exact ⟨q + 1, by omega, by go_num, show Both _ _ _ _ _ _ _ _ from by first | exact HBq.out | exact HBq.out.drewN _⟩
                    case measure => simp [intOf]; omega
                  · obtain rfl : q = 8 := by omega
                    go_wp2_with fail
                    go_roundw
                    case rel => exact ⟨f + 1, by omega, by go_num, HBq⟩
                    case measure => simp [intOf]; omega
              · obtain rfl : f = n := by omega
                go_wp2_with fail
                go_roundw
                case rel => exact ⟨k + 1, us, by omega, by omega, by go_num, HBf⟩
                case measure => simp [intOf]; omega
      · by_cases hb : 0 ≤ d1 ∧ d1 < n ∧ (0 : Int) ≤ 0 ∧ (0 : Int) < 8
        · by_cases hb2 : 0 ≤ d2 ∧ d2 < n ∧ (0 : Int) ≤ 0 ∧ (0 : Int) < 8
          · obtain ⟨b1, b2, b3, b4⟩ := hb
            obtain ⟨e1, e2, _, _⟩ := hb2
            have HHas := Lib.hid (hasB_of (n := n) ⟨b1, b2, b3, b4⟩)
            have HHas2 := Lib.hid (hasB_of (n := n) ⟨e1, e2, b3, b4⟩)
            have HS := Lib.hid (phys_Copy_int W4 HM4.out d1 d2 b1 b2 e1 e2)
            obtain ⟨A, rfl⟩ := Int.eq_ofNat_of_zero_le b1
            obtain ⟨B, rfl⟩ := Int.eq_ofNat_of_zero_le e1
            have hAn : A < n := by omega
            have hBn : B < n := by omega
            go_wp2_with fail
            refine HS.out.mono ?_
            rintro e w5 ⟨rfl, hm5, hg5⟩
            rw [Int.toNat_natCast, Int.toNat_natCast] at hm5
            have hne := HR4.out.mem_ne HM4.out
            have HR5 := Lib.hid (HR4.out.kept hg5 (by simpa using hne.1) (fun i hi => by simpa using hne.2.1 i hi))
            have HE5 := Lib.hid (show Ext w w5 from .of (grow_new HE4.out.grow hg5 hmw))
            have HM5 := Lib.hid hm5
            have HBX := Lib.hid ((hg5.block xb (by omega) (by simp; omega)).trans HBX.out)
            have hz5 := hg5.size
            clear HS hm5 hg5 hne HR4 HM4 HE4 q0 q1 q2 q3
            have q0 : w5.cell? ⟨xb, 0, none⟩ = some (.int .i64 d0) := by rw [cell_of_row _ _ _ _ _ _ HBX.out]; rfl
            have q1 : w5.cell? ⟨xb, 1, none⟩ = some (.int .i64 A) := by rw [cell_of_row _ _ _ _ _ _ HBX.out]; rfl
            have q2 : w5.cell? ⟨xb, 2, none⟩ = some (.int .i64 B) := by rw [cell_of_row _ _ _ _ _ _ HBX.out]; rfl
            have q3 : w5.cell? ⟨xb, 3, none⟩ = some (.int .u64 d3) := by rw [cell_of_row _ _ _ _ _ _ HBX.out]; rfl
            have y0 := HR5.out.hcell A hAn
            have y1 := HR5.out.hcell B hBn
            have y2 := HR5.out.hfree A
            have z4 : h < w5.heap.size := by omega
            have z5 : xb < w5.heap.size := by omega
            obtain ⟨p1, p2, p3⟩ := lt_facts z4
            obtain ⟨p4, p5, p6⟩ := lt_facts z5
            go_wp2_with (go_at_call 21; first | ((with_reducible refine (ref03_HasB _ _ _ _ _ _ _ HHas.out).mono ?_); rintro e w' ⟨rfl, hww⟩; rw [hww]; clear hww w') | ((with_reducible refine (ref03_HasB _ _ _ _ _ _ _ HHas2.out).mono ?_); rintro e w' ⟨rfl, hww⟩; rw [hww]; clear hww w'))
            go_region_law ((refine step_append_at w5 el_words (by rfl) _ _ (by rfl) (.slice (some ⟨w5.heap.size, 0, none⟩) 0 0) 0 [] (by rfl) (by repeat (first | ((with_reducible refine own_lit' ?_ ?_ ?_ ?_ ?_ ?_); all_goals (first | rfl | (simp; done) | decide | (simp [size_more]; done) | (simp [size_more]; omega))) | (with_reducible apply own_more) | (with_reducible apply own_alloc) | (with_reducible apply own_drew) | (with_reducible apply own_drewN))) (by repeat (first | exact Ext.refl _ | apply Ext.more | apply Ext.alloc | apply Ext.drew | apply Ext.drewN)) (gb B) (gc B) 8 (rowW ws B) (by rfl) (rowW_len ws B) (RefAt.rowc (by repeat (first | exact HR5.out | apply RefAt.more | apply RefAt.alloc | apply RefAt.drew | apply RefAt.drewN)) B hBn) (rowW_one ws B) (by omega) ?_; intro v1 x1 HO1 keep1; obtain ⟨ra, rcap, rfl⟩ := own_form HO1.out; obtain ⟨rg, rfl, hg1, hg2, hg3, _, _⟩ := own_at HO1.out (by omega); clear keep1))
            all_goals
              obtain ⟨cur, hcur1, hcur2⟩ := row_box HO1.out
              have hb8 := Both.new (wr := more w5 x1) (by repeat (first | exact HE5.out | apply Ext.more | apply Ext.alloc | apply Ext.drew | apply Ext.drewN)) (by repeat (first | exact HM5.out | apply MemAt.more | apply MemAt.alloc | apply MemAt.drew | apply MemAt.drewN)) (by repeat (first | exact HR5.out | apply RefAt.more | apply RefAt.alloc | apply RefAt.drew | apply RefAt.drewN)) HG.out hhw A hAn rg rcap ((List.range 8).map fun j => ws.getD (B * 8 + j) 0) (by simp) hg3 cur hcur1 hcur2 (fun q hq e => by have := HLt.out q hq; omega) (by have := HE5.out.size; omega) (copyW_take ws A B (by omega))
              rw [set_more _ _ _ _ _ z4] at hb8
              have HBt := Lib.hid hb8
              clear hb8 HE5 HM5 HR5 y0 y1 y2 HBX q0 q1 q2 q3 HO1 hcur1 hcur2
              go_wp2_with fail
              generalize copyW ws A B = us at *
              clear heq
              as_aux_lemma =>
                go_loopw [13, 14] (fun i _ wr => ∃ f : Nat, f ≤ n ∧ i = .int .i64 f ∧ Hid (Both w wr mb mg h hc n us)) (fun i _ _ => n - (intOf i).toNat)
                case atStart => exact ⟨0, Nat.zero_le _, rfl, HBt⟩
                case round =>
                  obtain ⟨f, hf, rfl, HBf⟩ := hrel
                  obtain ⟨wf, rfl⟩ : ∃ wf : World, wf = wr := ⟨_, rfl⟩
                  by_cases hfn : f < n
                  · go_wp2_with fail
                    go_loopw [14] (fun i wi => ∃ q : Nat, q ≤ 8 ∧ i = .int .i64 q ∧ Hid (Both w wi mb mg h hc n us)) (fun i _ => 8 - (intOf i).toNat)
                    case atStart => exact ⟨0, Nat.zero_le _, rfl, HBf⟩
                    case round =>
                      obtain ⟨q, hq, rfl, HBq⟩ := hrel
                      obtain ⟨wi, rfl⟩ : ∃ wi : World, wi = wr := ⟨_, rfl⟩
                      by_cases hq8 : q < 8
                      · obtain ⟨hEq, hmq, gbq, gcq, hrq, hgq⟩ := HBq.out
                        have HL2 := Lib.hid (phys_Load_is wi hmq f q (us.getD (f * 8 + q) 0) (by omega) (by omega) (by omega) (by omega) (by simp))
                        have y0 := hrq.hcell f hfn
                        have y1 := hrq.cell f q hfn hq8
                        have y2 := hrq.cc f hfn
                        have y3 := hrq.nc
                        generalize us.getD (f * 8 + q) 0 = X at *
                        clear hEq hmq hrq hgq
                        go_wp2_with fail
                        refine HL2.out.mono ?_
                        rintro e w' ⟨rfl, rfl⟩
                        go_wp2_with fail
                        first | go_quiet (fail) | skip
                        go_wp2_with fail
                        go_roundw
                        case rel => exact ⟨q + 1, by omega, by go_num, show Both _ _ _ _ _ _ _ _ from by first | exact HBq.out | exact HBq.out.drewN _⟩
                        case measure => simp [intOf]; omega
                      · obtain rfl : q = 8 := by omega
                        go_wp2_with fail
                        go_roundw
                        case rel => exact ⟨f + 1, by omega, by go_num, HBq⟩
                        case measure => simp [intOf]; omega
                  · obtain rfl : f = n := by omega
                    go_wp2_with fail
                    go_roundw
                    case rel => exact ⟨k + 1, us, by omega, by omega, by go_num, HBf⟩
                    case measure => simp [intOf]; omega
          · have HHas := Lib.hid (hasB_of hb)
            have HHas2 := Lib.hid (hasB_no hb2)
            have HS := Lib.hid (phys_Copy_no W4 HM4.out d1 d2 (by omega))
            have HBt := Lib.hid (show Both w W4 mb mg h hc n ws from ⟨HE4.out, HM4.out, gb, gc, HR4.out, HG.out⟩)
            obtain ⟨us, hus⟩ : ∃ us, us = ws := ⟨_, rfl⟩
            rw [← hus] at HBt
            clear HE4 HM4 HR4 hus
            go_wp2_with fail
            refine HS.out.mono ?_
            rintro e w5 ⟨rfl, rfl⟩
            go_wp2_with (go_at_call 21; first | ((with_reducible refine (ref03_HasB _ _ _ _ _ _ _ HHas2.out).mono ?_); rintro e w' ⟨rfl, hww⟩; rw [hww]; clear hww w') | ((with_reducible refine (ref03_HasB _ _ _ _ _ _ _ HHas.out).mono ?_); rintro e w' ⟨rfl, hww⟩; rw [hww]; clear hww w'))
            clear q0 q1 q2 q3 HBX
            clear heq
            as_aux_lemma =>
              go_loopw [13, 14] (fun i _ wr => ∃ f : Nat, f ≤ n ∧ i = .int .i64 f ∧ Hid (Both w wr mb mg h hc n us)) (fun i _ _ => n - (intOf i).toNat)
              case atStart => exact ⟨0, Nat.zero_le _, rfl, HBt⟩
              case round =>
                obtain ⟨f, hf, rfl, HBf⟩ := hrel
                obtain ⟨wf, rfl⟩ : ∃ wf : World, wf = wr := ⟨_, rfl⟩
                by_cases hfn : f < n
                · go_wp2_with fail
                  go_loopw [14] (fun i wi => ∃ q : Nat, q ≤ 8 ∧ i = .int .i64 q ∧ Hid (Both w wi mb mg h hc n us)) (fun i _ => 8 - (intOf i).toNat)
                  case atStart => exact ⟨0, Nat.zero_le _, rfl, HBf⟩
                  case round =>
                    obtain ⟨q, hq, rfl, HBq⟩ := hrel
                    obtain ⟨wi, rfl⟩ : ∃ wi : World, wi = wr := ⟨_, rfl⟩
                    by_cases hq8 : q < 8
                    · obtain ⟨hEq, hmq, gbq, gcq, hrq, hgq⟩ := HBq.out
                      have HL2 := Lib.hid (phys_Load_is wi hmq f q (us.getD (f * 8 + q) 0) (by omega) (by omega) (by omega) (by omega) (by simp))
                      have y0 := hrq.hcell f hfn
                      have y1 := hrq.cell f q hfn hq8
                      have y2 := hrq.cc f hfn
                      have y3 := hrq.nc
                      generalize us.getD (f * 8 + q) 0 = X at *
                      clear hEq hmq hrq hgq
                      go_wp2_with fail
                      refine HL2.out.mono ?_
                      rintro e w' ⟨rfl, rfl⟩
                      go_wp2_with fail
                      first | go_quiet (fail) | skip
                      go_wp2_with fail
                      go_roundw
                      case rel => exact ⟨q + 1, by omega, by go_num, show Both _ _ _ _ _ _ _ _ from by first | exact HBq.out | exact HBq.out.drewN _⟩
                      case measure => simp [intOf]; omega
                    · obtain rfl : q = 8 := by omega
                      go_wp2_with fail
                      go_roundw
                      case rel => exact ⟨f + 1, by omega, by go_num, HBq⟩
                      case measure => simp [intOf]; omega
                · obtain rfl : f = n := by omega
                  go_wp2_with fail
                  go_roundw
                  case rel => exact ⟨k + 1, us, by omega, by omega, by go_num, HBf⟩
                  case measure => simp [intOf]; omega
        · have HHas := Lib.hid (hasB_no hb)
          have HS := Lib.hid (phys_Copy_no W4 HM4.out d1 d2 (by omega))
          have HBt := Lib.hid (show Both w W4 mb mg h hc n ws from ⟨HE4.out, HM4.out, gb, gc, HR4.out, HG.out⟩)
          obtain ⟨us, hus⟩ : ∃ us, us = ws := ⟨_, rfl⟩
          rw [← hus] at HBt
          clear HE4 HM4 HR4 hus
          go_wp2_with fail
          refine HS.out.mono ?_
          rintro e w5 ⟨rfl, rfl⟩
          go_wp2_with (go_at_call 21; first | ((with_reducible refine (ref03_HasB _ _ _ _ _ _ _ HHas.out).mono ?_); rintro e w' ⟨rfl, hww⟩; rw [hww]; clear hww w'))
          clear q0 q1 q2 q3 HBX
          clear heq
          as_aux_lemma =>
            go_loopw [13, 14] (fun i _ wr => ∃ f : Nat, f ≤ n ∧ i = .int .i64 f ∧ Hid (Both w wr mb mg h hc n us)) (fun i _ _ => n - (intOf i).toNat)
            case atStart => exact ⟨0, Nat.zero_le _, rfl, HBt⟩
            case round =>
              obtain ⟨f, hf, rfl, HBf⟩ := hrel
              obtain ⟨wf, rfl⟩ : ∃ wf : World, wf = wr := ⟨_, rfl⟩
              by_cases hfn : f < n
              · go_wp2_with fail
                go_loopw [14] (fun i wi => ∃ q : Nat, q ≤ 8 ∧ i = .int .i64 q ∧ Hid (Both w wi mb mg h hc n us)) (fun i _ => 8 - (intOf i).toNat)
                case atStart => exact ⟨0, Nat.zero_le _, rfl, HBf⟩
                case round =>
                  obtain ⟨q, hq, rfl, HBq⟩ := hrel
                  obtain ⟨wi, rfl⟩ : ∃ wi : World, wi = wr := ⟨_, rfl⟩
                  by_cases hq8 : q < 8
                  · obtain ⟨hEq, hmq, gbq, gcq, hrq, hgq⟩ := HBq.out
                    have HL2 := Lib.hid (phys_Load_is wi hmq f q (us.getD (f * 8 + q) 0) (by omega) (by omega) (by omega) (by omega) (by simp))
                    have y0 := hrq.hcell f hfn
                    have y1 := hrq.cell f q hfn hq8
                    have y2 := hrq.cc f hfn
                    have y3 := hrq.nc
                    generalize us.getD (f * 8 + q) 0 = X at *
                    clear hEq hmq hrq hgq
                    go_wp2_with fail
                    refine HL2.out.mono ?_
                    rintro e w' ⟨rfl, rfl⟩
                    go_wp2_with fail
                    first | go_quiet (fail) | skip
                    go_wp2_with fail
                    go_roundw
                    case rel => exact ⟨q + 1, by omega, by go_num, show Both _ _ _ _ _ _ _ _ from by first | exact HBq.out | exact HBq.out.drewN _⟩
                    case measure => simp [intOf]; omega
                  · obtain rfl : q = 8 := by omega
                    go_wp2_with fail
                    go_roundw
                    case rel => exact ⟨f + 1, by omega, by go_num, HBq⟩
                    case measure => simp [intOf]; omega
              · obtain rfl : f = n := by omega
                go_wp2_with fail
                go_roundw
                case rel => exact ⟨k + 1, us, by omega, by omega, by go_num, HBf⟩
                case measure => simp [intOf]; omega
    · have hend : k = l.length ∨ (k < l.length ∧ k = 60) := by omega
      clear hin
      have HE := Lib.hid HBr.out.1
      rcases hend with rfl | ⟨hlt, rfl⟩
      all_goals
        go_wp2_with fail
        go_ret
        exact ⟨HE.out, rfl⟩

end Go.Proofs.Ytapeoeakiphfpaa
