/- The law paviorlaw04.WalkLeads. -/
import Derived.Test.YtmpgkgnbhjnelaaRefb
import Derived.Test.YtmpgkgnbhjnelaaLawd
import Derived.Test.YtmpgkgnbhjnelaaMore
import Derived.Test.YtmpgkgnbhjnelaaPlain
namespace Go.Proofs.Ytmpgkgnbhjnelaa
open Go.RowKit
set_option linter.unusedVariables false
set_option linter.unusedSimpArgs false
attribute [local go_sem] setCell_drewN alloc_drewN lt_moreE le_moreE lt_moreK le_moreK cell_more frozen_more set_more drew_more drewN_more

/-- A memory that was made behind W0: what is stored into it leaves W0 as it was. -/
theorem phys_Store_new (W0 : World) {w : World} {b g n c : Nat} {ws : List Int} (hm : MemAt w b g n c ws) (hE : Ext W0 w) (hg : W0.heap.size ≤ g) (f i x : Int) (h0 : 0 ≤ f) (h1 : f < n) (h2 : 0 ≤ i) (h3 : i < 8) :
    Calls Try.prog 21 #[.pointer (some ⟨b, 0, none⟩), .int .i64 f, .int .i64 i, .int .u64 x] w fun e w' => ∃ y, w' = more W0 y ∧ e = .returned .nilIface ∧ MemAt (more W0 y) b g n c (ws.set (f.toNat * 8 + i.toNat) x) :=
  (phys_Store_int w hm f i x h0 h1 h2 h3).mono fun e w' ⟨he, hm', hg'⟩ => by
    obtain ⟨y, rfl⟩ := more_of_grow (grow_new hE.grow hg' hg)
    exact ⟨y, rfl, he, hm'⟩

/-- Words of tables, one leading to the next. -/
def leadW (page : Int) : Nat → List Int
  | 0 => List.replicate 32 0
  | l + 1 => (leadW page l).set (l * 8 + (placeN l page).toNat) (((l : Int) + 1) * 4096 + 3)
theorem leadW_len (page : Int) : ∀ l, (leadW page l).length = 32 := by
  intro l
  induction l with
  | zero => simp [leadW]
  | succ l ih => simp [leadW, ih]
theorem leadW_at (page : Int) : ∀ (l j : Nat), j < l → l ≤ 4 → (leadW page l).getD (j * 8 + (placeN j page).toNat) 0 = ((j : Int) + 1) * 4096 + 3 := by
  intro l
  induction l with
  | zero => intro j h; omega
  | succ l ih =>
    intro j hj hl
    have a0 := placeN_lo j page
    have a1 := placeN_hi j page
    have b0 := placeN_lo l page
    have b1 := placeN_hi l page
    have hlen := leadW_len page l
    rw [leadW, List.getD_eq_getElem?_getD, List.getElem?_set]
    by_cases e : j = l
    · subst e
      rw [if_pos rfl, if_pos (by omega)]; rfl
    · rw [if_neg (by omega), ← List.getD_eq_getElem?_getD]
      exact ih j (by omega) (by omega)
theorem WOk_lead (page : Int) : ∀ l, l ≤ 4 → WOk (leadW page l) := by
  intro l
  induction l with
  | zero => intro _; intro x hx; rw [List.eq_of_mem_replicate hx]; omega
  | succ l ih => intro h; exact WOk_set (ih (by omega)) _ _ (by omega) (by omega)
theorem ok_table (l : Nat) (h : l < 3) : okD l (tableD ((l : Int) + 1)) = true := by
  have : l = 0 ∨ l = 1 ∨ l = 2 := by omega
  rcases this with rfl | rfl | rfl <;> rfl
theorem enc_table (l : Nat) : encW (tableD ((l : Int) + 1)) = ((l : Int) + 1) * 4096 + 3 := rfl
theorem dec_table (l : Nat) (h : l < 3) : decD l (((l : Int) + 1) * 4096 + 3) = tableD ((l : Int) + 1) := by
  rw [← enc_table]; exact dec_enc (ok_table l h)
theorem walkAt_to {ws : List Int} {n page level table : Int} {k : Nat} {d : Desc} (ht : 0 ≤ table ∧ table < n) (hd : decD level (ws.getD (table.toNat * 8 + (placeN level page).toNat) 0) = d) :
    walkAt ws n page (k + 1) level table = if d.fKind = 1 then walkAt ws n page k (level + 1) d.fFrame else some (foundD d level table (placeN level page) page) := by
  subst hd
  conv => lhs; unfold walkAt
  rw [if_pos ht]
/-- The walk goes down the tables, and ends at what was laid. -/
theorem lead_walk (page : Int) (d : Desc) (L : Nat) (hL : L = 2 ∨ L = 3) (hok : okD L d = true) (hk : d.fKind ≠ 1) : walkAt ((leadW page L).set (L * 8 + (placeN L page).toNat) (encW d)) 4 page 4 0 0 = some (foundD d L L (placeN L page) page) := by
  have hlen := leadW_len page L
  have c0 := placeN_lo L page
  have c1 := placeN_hi L page
  have htop : decD L (((leadW page L).set (L * 8 + (placeN L page).toNat) (encW d)).getD (L * 8 + (placeN L page).toNat) 0) = d := by
    rw [List.getD_eq_getElem?_getD, List.getElem?_set, if_pos rfl, if_pos (by omega)]
    exact dec_enc hok
  have hlow : ∀ j : Nat, j < L → decD j (((leadW page L).set (L * 8 + (placeN L page).toNat) (encW d)).getD (j * 8 + (placeN j page).toNat) 0) = tableD ((j : Int) + 1) := by
    intro j hj
    have a0 := placeN_lo j page
    have a1 := placeN_hi j page
    rw [List.getD_eq_getElem?_getD, List.getElem?_set, if_neg (by omega), ← List.getD_eq_getElem?_getD, leadW_at page L j hj (by omega)]
    exact dec_table j (by omega)
  generalize (leadW page L).set (L * 8 + (placeN L page).toNat) (encW d) = us at *
  have step : ∀ (j k : Nat), j < L → walkAt us 4 page (k + 1) j j = walkAt us 4 page k ((j + 1 : Nat) : Int) ((j + 1 : Nat) : Int) := by
    intro j k hj
    rw [walkAt_to (d := tableD ((j : Int) + 1)) (by omega) (by rw [Int.toNat_natCast]; exact hlow j hj), if_pos (show (tableD ((j : Int) + 1)).fKind = 1 from rfl)]
    simp [tableD]
  have last : ∀ k : Nat, walkAt us 4 page (k + 1) L L = some (foundD d L L (placeN L page) page) := by
    intro k
    rw [walkAt_to (d := d) (by omega) (by rw [Int.toNat_natCast]; exact htop), if_neg hk]
  rcases hL with rfl | rfl
  · exact (step 0 3 (by omega)).trans ((step 1 2 (by omega)).trans (last 1))
  · exact (step 0 3 (by omega)).trans ((step 1 2 (by omega)).trans ((step 2 1 (by omega)).trans (last 0)))

theorem page_pick (page : Int) (h0 : -9223372036854775808 ≤ page) : ∃ pg, 0 ≤ pg ∧ pg < 4096 ∧ ((page < 0 ∧ -((page + 1).tmod 4096) = pg) ∨ (0 ≤ page ∧ page % 4096 = pg)) := by
  by_cases h : page < 0
  · refine ⟨-((page + 1).tmod 4096), ?_, ?_, .inl ⟨h, rfl⟩⟩
    · have : (page + 1).tmod 4096 = -((-(page + 1)).tmod 4096) := by rw [Int.neg_tmod]; simp
      rw [this, Int.neg_neg, Int.tmod_eq_emod_of_nonneg (by omega)]
      omega
    · have : (page + 1).tmod 4096 = -((-(page + 1)).tmod 4096) := by rw [Int.neg_tmod]; simp
      rw [this, Int.neg_neg, Int.tmod_eq_emod_of_nonneg (by omega)]
      omega
  · exact ⟨page % 4096, by omega, by omega, .inr ⟨by omega, rfl⟩⟩

theorem walkV_s' (F0 F1 F2 F3 F4 F5 F6 F7 : Int) (F8 F9 F10 : Bool) : walkV (some ⟨F0, F1, F2, F3, F4, F5, F6, F7, F8, F9, F10⟩) = .tuple #[.agg #[.int .i64 F0, .int .i64 F1, .int .i64 F2, .int .i64 F3, .int .i64 F4, .int .i64 F5, .int .i64 F6, .int .i64 F7, .bool F8, .bool F9, .bool F10], .nilIface] := rfl
set_option maxRecDepth 100000 in
set_option maxHeartbeats 4000000 in
theorem law04_WalkLeads (w : World) (page : Int) (hpw : (Lit.int .i64 page).wf = true) (d : Desc) (hd : d.wf) (block : Bool) :
    Calls Try.prog 11 #[.int .i64 page, d.v, .bool block] w fun e w' => e = .returned (.bool true) ∧ w.grownBy w' none := by
  refine growC (R := fun e _ => e = .returned (.bool true)) ?_
  obtain ⟨kd, f, wr, ex, se, fo, so⟩ := d
  have f0 := i64_lo hpw
  obtain ⟨pg, p0, p1, hpg⟩ := page_pick page f0
  clear hpw hd
  obtain ⟨L, K, hLK, hL⟩ : ∃ (L : Nat) (K : Int), ((block = true ∧ L = 2 ∧ K = 2) ∨ (block = false ∧ L = 3 ∧ K = 3)) ∧ (L = 2 ∨ L = 3) := by
    cases block
    · exact ⟨3, 3, .inr ⟨rfl, rfl, rfl⟩, .inr rfl⟩
    · exact ⟨2, 2, .inl ⟨rfl, rfl, rfl⟩, .inl rfl⟩
  cases hok : okD L ⟨K, f, wr, ex, se, fo, so⟩
  · have HEn := Lib.hid (fun w => pte_Encode_no w L ⟨K, f, wr, ex, se, fo, so⟩ hok)
    clear hok
    rcases hLK with ⟨rfl, rfl, rfl⟩ | ⟨rfl, rfl, rfl⟩ <;> rcases hpg with ⟨hp, hpg⟩ | ⟨hp, hpg⟩
    all_goals
      go_enter Try.func11, Try.ntmps11
      go_wp2_with fail
      refine (extC (law04_up _)).mono ?_
      rintro e w1 ⟨⟨ex1, rfl⟩, rfl⟩
      go_wp2_with fail
      refine (extC (HEn.out _)).mono ?_
      rintro e w2 ⟨⟨ex2, rfl⟩, rfl⟩
      go_wp2_with fail
      go_ret
      exact ⟨(by repeat (first | exact Ext.refl _ | apply Ext.more | apply Ext.alloc | apply Ext.drew | apply Ext.drewN)), rfl⟩
  · obtain ⟨l0, l1, f0', f1', s0', s1', hmay⟩ := okD_parts hok
    dsimp only at f0' f1' s0' s1'
    have HEy := Lib.hid (fun w => pte_Encode_yes w L ⟨K, f, wr, ex, se, fo, so⟩ hok)
    have HW := Lib.hid (lead_walk pg ⟨K, f, wr, ex, se, fo, so⟩ L hL hok (by rcases hLK with ⟨_, _, rfl⟩ | ⟨_, _, rfl⟩ <;> simp))
    have her := enc_range hok
    have hfold : K = 2 → fo = false := by
      intro hk
      rcases mayD_kind hmay with h | ⟨_, h⟩ | ⟨_, _, h, _⟩ | ⟨_, h⟩ | ⟨h, _⟩
      · simp only [noneD, Desc.mk.injEq] at h; omega
      · simp only [tableD, Desc.mk.injEq] at h; omega
      · exact h
      · simp only at h; omega
      · simp only at h; omega
    clear hok hmay l0 l1
    generalize encW ⟨K, f, wr, ex, se, fo, so⟩ = x at *
    rcases hLK with ⟨rfl, rfl, rfl⟩ | ⟨rfl, rfl, rfl⟩
    · obtain rfl := hfold rfl
      have HWx : WOk ((leadW pg 2).set (2 * 8 + (placeN ((2 : Nat) : Int) pg).toNat) x) := WOk_set (WOk_lead pg 2 (by omega)) _ _ her.1 her.2
      have hfd : foundD ⟨2, f, wr, ex, se, false, so⟩ ((2 : Nat) : Int) ((2 : Nat) : Int) (placeN ((2 : Nat) : Int) pg) pg = ⟨2, 2, 2, placeN ((2 : Nat) : Int) pg, f + pg % 8, 3, pg - pg % 8, f, wr, ex, se⟩ := by simp [foundD]
      rw [hfd] at HW
      have HWX := Lib.hid HWx
      clear HWx hfd hfold hL
      rcases hpg with ⟨hp, hpg⟩ | ⟨hp, hpg⟩
      all_goals
        have HPG := Lib.hid hpg
        clear hpg
        go_enter Try.func11, Try.ntmps11
        go_wp2_with fail
        refine (extC (law04_up _)).mono ?_
        rintro e w1 ⟨⟨ex1, rfl⟩, rfl⟩
        go_wp2_with fail
        refine (extC (HEy.out _)).mono ?_
        rintro e w2 ⟨⟨ex2, rfl⟩, rfl⟩
        rw [HPG.out]
        clear HPG
        go_wp2_with fail
        refine (phys_New_int _ 4 (by omega) (by omega)).mono ?_
        rintro e w3 ⟨b, g, rfl, hm, hg, hb, hgg⟩
        obtain ⟨y, rfl⟩ := more_of_grow hg
        have HM : Hid (MemAt (more _ y) b g 4 4 (leadW pg 0)) := hm
        have HG := Lib.hid hgg
        clear hm hg hb hgg
        go_wp2_with fail
        go_loopw [13] (fun i wq => ∃ q : Nat, q ≤ 2 ∧ i = .int .i64 q ∧ Ext (more (more (w.alloc (.cells #[.int .i64 2, .int .i64 f, .bool wr, .bool ex, .bool se, .bool false, .int .i64 so] 73)) ex1) ex2) wq ∧ Hid (MemAt wq b g 4 4 (leadW pg q))) (fun i _ => 2 - (intOf i).toNat)
        case atStart => exact ⟨0, by omega, rfl, (by repeat (first | exact Ext.refl _ | apply Ext.more | apply Ext.alloc | apply Ext.drew | apply Ext.drewN)), HM⟩
        case round =>
          obtain ⟨q, hq, rfl, ⟨z, rfl⟩, HM⟩ := hrel
          by_cases hlt : q < 2
          · have q0 := placeN_lo q pg
            have q1 := placeN_hi q pg
            go_wp2_with fail
            refine (extD (walk_Place _ q pg (by omega) (by omega) p0 p1)).mono ?_
            rintro e w5 ⟨⟨ex5, rfl⟩, rfl⟩
            go_wp2_with fail
            refine (extC (pte_Encode_yes _ q (tableD ((q : Int) + 1)) (ok_table q (by omega)))).mono ?_
            rintro e w6 ⟨⟨ex6, rfl⟩, rfl⟩
            rw [enc_table]
            go_wp2_with fail
            refine (phys_Store_new (more (more (w.alloc (.cells #[.int .i64 2, .int .i64 f, .bool wr, .bool ex, .bool se, .bool false, .int .i64 so] 73)) ex1) ex2) (by repeat (first | exact HM.out | apply MemAt.more | apply MemAt.alloc | apply MemAt.drew | apply MemAt.drewN)) (by repeat (first | exact Ext.refl _ | apply Ext.more | apply Ext.alloc | apply Ext.drew | apply Ext.drewN)) HG.out q (placeN q pg) _ (by omega) (by omega) q0 q1).mono ?_
            rintro e w7 ⟨y7, rfl, rfl, hm7⟩
            have HM7 := Lib.hid hm7
            clear hm7
            go_wp2_with fail
            go_roundw
            case rel => exact ⟨q + 1, by omega, by go_num, (by repeat (first | exact Ext.refl _ | apply Ext.more | apply Ext.alloc | apply Ext.drew | apply Ext.drewN)), HM7⟩
            case measure => simp [intOf]; omega
          · obtain rfl : q = 2 := by omega
            have q0 := placeN_lo ((2 : Nat) : Int) pg
            have q1 := placeN_hi ((2 : Nat) : Int) pg
            go_wp2_with fail
            refine (extD (walk_Place _ ((2 : Nat) : Int) pg (by omega) (by omega) p0 p1)).mono ?_
            rintro e w5 ⟨⟨ex5, rfl⟩, rfl⟩
            go_wp2_with fail
            refine (phys_Store_new (more (more (w.alloc (.cells #[.int .i64 2, .int .i64 f, .bool wr, .bool ex, .bool se, .bool false, .int .i64 so] 73)) ex1) ex2) (by repeat (first | exact HM.out | apply MemAt.more | apply MemAt.alloc | apply MemAt.drew | apply MemAt.drewN)) (by repeat (first | exact Ext.refl _ | apply Ext.more | apply Ext.alloc | apply Ext.drew | apply Ext.drewN)) HG.out ((2 : Nat) : Int) (placeN ((2 : Nat) : Int) pg) _ (by omega) (by omega) q0 q1).mono ?_
            rintro e w7 ⟨y7, rfl, rfl, hm7⟩
            have HM7 := Lib.hid hm7
            clear hm7
            go_wp2_with fail
            refine (extC (walk_Walk _ (by repeat (first | exact HM7.out | apply MemAt.more | apply MemAt.alloc | apply MemAt.drew | apply MemAt.drewN)) HWX.out 0 pg (by omega) (by omega) p0 p1)).mono ?_
            rintro e w8 ⟨⟨ex8, rfl⟩, rfl⟩
            rw [show walkAt ((leadW pg 2).set (2 * 8 + (placeN ((2 : Nat) : Int) pg).toNat) x) ((4 : Nat) : Int) pg 4 0 0 = _ from HW.out, walkV_s']
            go_wp2_with fail
            go_ret
            exact ⟨(by repeat (first | exact Ext.refl _ | apply Ext.more | apply Ext.alloc | apply Ext.drew | apply Ext.drewN)), ret_bool' (by simp)⟩
    · cases fo
      · skip
        have HWx : WOk ((leadW pg 3).set (3 * 8 + (placeN ((3 : Nat) : Int) pg).toNat) x) := WOk_set (WOk_lead pg 3 (by omega)) _ _ her.1 her.2
        have hfd : foundD ⟨3, f, wr, ex, se, false, so⟩ ((3 : Nat) : Int) ((3 : Nat) : Int) (placeN ((3 : Nat) : Int) pg) pg = ⟨3, 3, 3, placeN ((3 : Nat) : Int) pg, f, 0, pg, f, wr, ex, se⟩ := by simp [foundD]
        rw [hfd] at HW
        have HWX := Lib.hid HWx
        clear HWx hfd hfold hL
        rcases hpg with ⟨hp, hpg⟩ | ⟨hp, hpg⟩
        all_goals
          have HPG := Lib.hid hpg
          clear hpg
          go_enter Try.func11, Try.ntmps11
          go_wp2_with fail
          refine (extC (law04_up _)).mono ?_
          rintro e w1 ⟨⟨ex1, rfl⟩, rfl⟩
          go_wp2_with fail
          refine (extC (HEy.out _)).mono ?_
          rintro e w2 ⟨⟨ex2, rfl⟩, rfl⟩
          rw [HPG.out]
          clear HPG
          go_wp2_with fail
          refine (phys_New_int _ 4 (by omega) (by omega)).mono ?_
          rintro e w3 ⟨b, g, rfl, hm, hg, hb, hgg⟩
          obtain ⟨y, rfl⟩ := more_of_grow hg
          have HM : Hid (MemAt (more _ y) b g 4 4 (leadW pg 0)) := hm
          have HG := Lib.hid hgg
          clear hm hg hb hgg
          go_wp2_with fail
          go_loopw [13] (fun i wq => ∃ q : Nat, q ≤ 3 ∧ i = .int .i64 q ∧ Ext (more (more (w.alloc (.cells #[.int .i64 3, .int .i64 f, .bool wr, .bool ex, .bool se, .bool false, .int .i64 so] 73)) ex1) ex2) wq ∧ Hid (MemAt wq b g 4 4 (leadW pg q))) (fun i _ => 3 - (intOf i).toNat)
          case atStart => exact ⟨0, by omega, rfl, (by repeat (first | exact Ext.refl _ | apply Ext.more | apply Ext.alloc | apply Ext.drew | apply Ext.drewN)), HM⟩
          case round =>
            obtain ⟨q, hq, rfl, ⟨z, rfl⟩, HM⟩ := hrel
            by_cases hlt : q < 3
            · have q0 := placeN_lo q pg
              have q1 := placeN_hi q pg
              go_wp2_with fail
              refine (extD (walk_Place _ q pg (by omega) (by omega) p0 p1)).mono ?_
              rintro e w5 ⟨⟨ex5, rfl⟩, rfl⟩
              go_wp2_with fail
              refine (extC (pte_Encode_yes _ q (tableD ((q : Int) + 1)) (ok_table q (by omega)))).mono ?_
              rintro e w6 ⟨⟨ex6, rfl⟩, rfl⟩
              rw [enc_table]
              go_wp2_with fail
              refine (phys_Store_new (more (more (w.alloc (.cells #[.int .i64 3, .int .i64 f, .bool wr, .bool ex, .bool se, .bool false, .int .i64 so] 73)) ex1) ex2) (by repeat (first | exact HM.out | apply MemAt.more | apply MemAt.alloc | apply MemAt.drew | apply MemAt.drewN)) (by repeat (first | exact Ext.refl _ | apply Ext.more | apply Ext.alloc | apply Ext.drew | apply Ext.drewN)) HG.out q (placeN q pg) _ (by omega) (by omega) q0 q1).mono ?_
              rintro e w7 ⟨y7, rfl, rfl, hm7⟩
              have HM7 := Lib.hid hm7
              clear hm7
              go_wp2_with fail
              go_roundw
              case rel => exact ⟨q + 1, by omega, by go_num, (by repeat (first | exact Ext.refl _ | apply Ext.more | apply Ext.alloc | apply Ext.drew | apply Ext.drewN)), HM7⟩
              case measure => simp [intOf]; omega
            · obtain rfl : q = 3 := by omega
              have q0 := placeN_lo ((3 : Nat) : Int) pg
              have q1 := placeN_hi ((3 : Nat) : Int) pg
              go_wp2_with fail
              refine (extD (walk_Place _ ((3 : Nat) : Int) pg (by omega) (by omega) p0 p1)).mono ?_
              rintro e w5 ⟨⟨ex5, rfl⟩, rfl⟩
              go_wp2_with fail
              refine (phys_Store_new (more (more (w.alloc (.cells #[.int .i64 3, .int .i64 f, .bool wr, .bool ex, .bool se, .bool false, .int .i64 so] 73)) ex1) ex2) (by repeat (first | exact HM.out | apply MemAt.more | apply MemAt.alloc | apply MemAt.drew | apply MemAt.drewN)) (by repeat (first | exact Ext.refl _ | apply Ext.more | apply Ext.alloc | apply Ext.drew | apply Ext.drewN)) HG.out ((3 : Nat) : Int) (placeN ((3 : Nat) : Int) pg) _ (by omega) (by omega) q0 q1).mono ?_
              rintro e w7 ⟨y7, rfl, rfl, hm7⟩
              have HM7 := Lib.hid hm7
              clear hm7
              go_wp2_with fail
              refine (extC (walk_Walk _ (by repeat (first | exact HM7.out | apply MemAt.more | apply MemAt.alloc | apply MemAt.drew | apply MemAt.drewN)) HWX.out 0 pg (by omega) (by omega) p0 p1)).mono ?_
              rintro e w8 ⟨⟨ex8, rfl⟩, rfl⟩
              rw [show walkAt ((leadW pg 3).set (3 * 8 + (placeN ((3 : Nat) : Int) pg).toNat) x) ((4 : Nat) : Int) pg 4 0 0 = _ from HW.out, walkV_s']
              go_wp2_with fail
              go_ret
              exact ⟨(by repeat (first | exact Ext.refl _ | apply Ext.more | apply Ext.alloc | apply Ext.drew | apply Ext.drewN)), ret_bool' (by simp)⟩
      · skip
        have HWx : WOk ((leadW pg 3).set (3 * 8 + (placeN ((3 : Nat) : Int) pg).toNat) x) := WOk_set (WOk_lead pg 3 (by omega)) _ _ her.1 her.2
        have hfd : foundD ⟨3, f, wr, ex, se, true, so⟩ ((3 : Nat) : Int) ((3 : Nat) : Int) (placeN ((3 : Nat) : Int) pg) pg = ⟨3, 3, 3, placeN ((3 : Nat) : Int) pg, f, 2, pg - pg % 4, f - pg % 4, wr, ex, se⟩ := by simp [foundD]
        rw [hfd] at HW
        have HWX := Lib.hid HWx
        clear HWx hfd hfold hL
        rcases hpg with ⟨hp, hpg⟩ | ⟨hp, hpg⟩
        all_goals
          have HPG := Lib.hid hpg
          clear hpg
          go_enter Try.func11, Try.ntmps11
          go_wp2_with fail
          refine (extC (law04_up _)).mono ?_
          rintro e w1 ⟨⟨ex1, rfl⟩, rfl⟩
          go_wp2_with fail
          refine (extC (HEy.out _)).mono ?_
          rintro e w2 ⟨⟨ex2, rfl⟩, rfl⟩
          rw [HPG.out]
          clear HPG
          go_wp2_with fail
          refine (phys_New_int _ 4 (by omega) (by omega)).mono ?_
          rintro e w3 ⟨b, g, rfl, hm, hg, hb, hgg⟩
          obtain ⟨y, rfl⟩ := more_of_grow hg
          have HM : Hid (MemAt (more _ y) b g 4 4 (leadW pg 0)) := hm
          have HG := Lib.hid hgg
          clear hm hg hb hgg
          go_wp2_with fail
          go_loopw [13] (fun i wq => ∃ q : Nat, q ≤ 3 ∧ i = .int .i64 q ∧ Ext (more (more (w.alloc (.cells #[.int .i64 3, .int .i64 f, .bool wr, .bool ex, .bool se, .bool true, .int .i64 so] 73)) ex1) ex2) wq ∧ Hid (MemAt wq b g 4 4 (leadW pg q))) (fun i _ => 3 - (intOf i).toNat)
          case atStart => exact ⟨0, by omega, rfl, (by repeat (first | exact Ext.refl _ | apply Ext.more | apply Ext.alloc | apply Ext.drew | apply Ext.drewN)), HM⟩
          case round =>
            obtain ⟨q, hq, rfl, ⟨z, rfl⟩, HM⟩ := hrel
            by_cases hlt : q < 3
            · have q0 := placeN_lo q pg
              have q1 := placeN_hi q pg
              go_wp2_with fail
              refine (extD (walk_Place _ q pg (by omega) (by omega) p0 p1)).mono ?_
              rintro e w5 ⟨⟨ex5, rfl⟩, rfl⟩
              go_wp2_with fail
              refine (extC (pte_Encode_yes _ q (tableD ((q : Int) + 1)) (ok_table q (by omega)))).mono ?_
              rintro e w6 ⟨⟨ex6, rfl⟩, rfl⟩
              rw [enc_table]
              go_wp2_with fail
              refine (phys_Store_new (more (more (w.alloc (.cells #[.int .i64 3, .int .i64 f, .bool wr, .bool ex, .bool se, .bool true, .int .i64 so] 73)) ex1) ex2) (by repeat (first | exact HM.out | apply MemAt.more | apply MemAt.alloc | apply MemAt.drew | apply MemAt.drewN)) (by repeat (first | exact Ext.refl _ | apply Ext.more | apply Ext.alloc | apply Ext.drew | apply Ext.drewN)) HG.out q (placeN q pg) _ (by omega) (by omega) q0 q1).mono ?_
              rintro e w7 ⟨y7, rfl, rfl, hm7⟩
              have HM7 := Lib.hid hm7
              clear hm7
              go_wp2_with fail
              go_roundw
              case rel => exact ⟨q + 1, by omega, by go_num, (by repeat (first | exact Ext.refl _ | apply Ext.more | apply Ext.alloc | apply Ext.drew | apply Ext.drewN)), HM7⟩
              case measure => simp [intOf]; omega
            · obtain rfl : q = 3 := by omega
              have q0 := placeN_lo ((3 : Nat) : Int) pg
              have q1 := placeN_hi ((3 : Nat) : Int) pg
              go_wp2_with fail
              refine (extD (walk_Place _ ((3 : Nat) : Int) pg (by omega) (by omega) p0 p1)).mono ?_
              rintro e w5 ⟨⟨ex5, rfl⟩, rfl⟩
              go_wp2_with fail
              refine (phys_Store_new (more (more (w.alloc (.cells #[.int .i64 3, .int .i64 f, .bool wr, .bool ex, .bool se, .bool true, .int .i64 so] 73)) ex1) ex2) (by repeat (first | exact HM.out | apply MemAt.more | apply MemAt.alloc | apply MemAt.drew | apply MemAt.drewN)) (by repeat (first | exact Ext.refl _ | apply Ext.more | apply Ext.alloc | apply Ext.drew | apply Ext.drewN)) HG.out ((3 : Nat) : Int) (placeN ((3 : Nat) : Int) pg) _ (by omega) (by omega) q0 q1).mono ?_
              rintro e w7 ⟨y7, rfl, rfl, hm7⟩
              have HM7 := Lib.hid hm7
              clear hm7
              go_wp2_with fail
              refine (extC (walk_Walk _ (by repeat (first | exact HM7.out | apply MemAt.more | apply MemAt.alloc | apply MemAt.drew | apply MemAt.drewN)) HWX.out 0 pg (by omega) (by omega) p0 p1)).mono ?_
              rintro e w8 ⟨⟨ex8, rfl⟩, rfl⟩
              rw [show walkAt ((leadW pg 3).set (3 * 8 + (placeN ((3 : Nat) : Int) pg).toNat) x) ((4 : Nat) : Int) pg 4 0 0 = _ from HW.out, walkV_s']
              go_wp2_with fail
              go_ret
              exact ⟨(by repeat (first | exact Ext.refl _ | apply Ext.more | apply Ext.alloc | apply Ext.drew | apply Ext.drewN)), ret_bool' (by simp)⟩

end Go.Proofs.Ytmpgkgnbhjnelaa
