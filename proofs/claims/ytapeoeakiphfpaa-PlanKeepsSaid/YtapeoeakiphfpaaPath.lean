import Derived.Test.YtapeoeakiphfpaaBSemPathpSemt
import Derived.Test.YtapeoeakiphfpaaNeed
/- The contracts of word.Down, tree.first, tree.table, tree.may, tree.Path. -/
namespace Go.Proofs.Ytapeoeakiphfpaa
open Go.RowKit
set_option linter.unusedVariables false
set_option linter.unusedSimpArgs false
attribute [local go_sem] setCell_drewN alloc_drewN lt_moreE le_moreE lt_moreK le_moreK cell_more frozen_more set_more drew_more drewN_more

theorem and511 (p : Int) (h0 : 0 ≤ p) (h1 : p < 4096) : Go.bits .andNot .i64 p 511 = p - p % 512 := (and_low_i64 p 9 (by omega) h0 h1).2
theorem and63 (p : Int) (h0 : 0 ≤ p) (h1 : p < 4096) : Go.bits .andNot .i64 p 63 = p - p % 64 := (and_low_i64 p 6 (by omega) h0 h1).2

theorem word_may (w : World) (n k : Int) (h0 : 0 ≤ n) (h1 : n < 4096) (k0 : 0 ≤ k) (k1 : k ≤ 9) :
    Calls Try.prog 149 #[.int .i64 n, .int .i64 k] w fun e w' => e = .returned (.bool true) ∧ w' = w := by
  have g : n ≤ 1099511627776 := by omega
  have g2 : k ≤ 20 := by omega
  go_enter Try.func149, Try.ntmps149
  go_wp2_with fail
  go_ret
  exact ⟨by first | rfl | exact ret_bool (by simp; omega), rfl⟩
theorem tree_order (w : World) (l : Nat) (hl : l ≤ 3) :
    Calls Try.prog 130 #[.int .i64 l] w fun e w' => e = .returned (.int .i64 (3 * (3 - (l : Int)))) ∧ w' = w := by
  have hls : l = 0 ∨ l = 1 ∨ l = 2 ∨ l = 3 := by omega
  clear hl
  rcases hls with rfl | rfl | rfl | rfl
  all_goals
    go_enter Try.func130, Try.ntmps130
    go_wp2_with fail
    go_ret
    exact ⟨rfl, rfl⟩
set_option maxHeartbeats 1000000 in
theorem word_Down (w : World) (page : Int) (l : Nat) (hl : l ≤ 3) (p0 : 0 ≤ page) (p1 : page < 4096) :
    Calls Try.prog 129 #[.int .i64 page, .int .i64 (3 * (3 - (l : Int)))] w fun e w' => e = .returned (.tuple #[.int .i64 (firstP page l), .nilIface]) ∧ w' = w := by
  have h9 := and511 page p0 p1
  have h6 := and63 page p0 p1
  have h3 := (and7 page p0 p1).2
  have h0 := (and0 page p0 p1).2
  have hls : l = 0 ∨ l = 1 ∨ l = 2 ∨ l = 3 := by omega
  clear hl
  have hs0 : spanL ((0 : Nat) : Int) = 512 := by decide
  have hs1 : spanL ((1 : Nat) : Int) = 64 := by decide
  have hs2 : spanL ((2 : Nat) : Int) = 8 := by decide
  have hs3 : spanL ((3 : Nat) : Int) = 1 := by decide
  have HS := Lib.hid (And.intro hs0 (And.intro hs1 (And.intro hs2 hs3)))
  clear hs0 hs1 hs2 hs3
  rcases hls with rfl | rfl | rfl | rfl
  · have HM := Lib.hid (word_may w page 9 p0 p1 (by omega) (by omega))
    show Calls _ _ #[.int .i64 page, .int .i64 9] _ _
    go_enter Try.func129, Try.ntmps129
    go_wp2_with fail
    refine HM.out.mono ?_
    rintro e w' ⟨rfl, rfl⟩
    go_wp2_with fail
    go_ret2
    exact ⟨by unfold firstP; rw [HS.out.1]; rfl, rfl⟩
  · have HM := Lib.hid (word_may w page 6 p0 p1 (by omega) (by omega))
    show Calls _ _ #[.int .i64 page, .int .i64 6] _ _
    go_enter Try.func129, Try.ntmps129
    go_wp2_with fail
    refine HM.out.mono ?_
    rintro e w' ⟨rfl, rfl⟩
    go_wp2_with fail
    go_ret2
    exact ⟨by unfold firstP; rw [HS.out.2.1]; rfl, rfl⟩
  · have HM := Lib.hid (word_may w page 3 p0 p1 (by omega) (by omega))
    show Calls _ _ #[.int .i64 page, .int .i64 3] _ _
    go_enter Try.func129, Try.ntmps129
    go_wp2_with fail
    refine HM.out.mono ?_
    rintro e w' ⟨rfl, rfl⟩
    go_wp2_with fail
    go_ret2
    exact ⟨by unfold firstP; rw [HS.out.2.2.1]; rfl, rfl⟩
  · have HM := Lib.hid (word_may w page 0 p0 p1 (by omega) (by omega))
    show Calls _ _ #[.int .i64 page, .int .i64 0] _ _
    go_enter Try.func129, Try.ntmps129
    go_wp2_with fail
    refine HM.out.mono ?_
    rintro e w' ⟨rfl, rfl⟩
    go_wp2_with fail
    go_ret2
    exact ⟨by unfold firstP; rw [HS.out.2.2.2]; simp, rfl⟩
set_option maxHeartbeats 1000000 in
theorem tree_first (w : World) (page : Int) (l : Nat) (hl : l ≤ 3) (p0 : 0 ≤ page) (p1 : page < 4096) :
    Calls Try.prog 82 #[.int .i64 page, .int .i64 l] w fun e w' => e = .returned (.int .i64 (firstP page l)) ∧ w' = w := by
  have HO := Lib.hid (tree_order w l hl)
  have HD := Lib.hid (word_Down w page l hl p0 p1)
  generalize (3 * (3 - (l : Int))) = k at *
  go_enter Try.func82, Try.ntmps82
  go_wp2_with fail
  refine HO.out.mono ?_
  rintro e w' ⟨rfl, rfl⟩
  go_wp2_with fail
  refine HD.out.mono ?_
  rintro e w' ⟨rfl, rfl⟩
  go_wp2_with fail
  go_ret
  exact ⟨rfl, rfl⟩
theorem tree_table (w : World) (f : Int) (f0 : 0 ≤ f) (f1 : f < 512) :
    Calls Try.prog 83 #[.int .i64 f] w fun e w' => Ext w w' ∧ e = .returned (.int .u64 (f * 4096 + 3)) := by
  have HE := Lib.hid (fun w => extC (pte_Encode_yes w 0 _ (okD_tab (level := 0) (by omega) (by omega) f0 f1)))
  go_enter Try.func83, Try.ntmps83
  go_wp2_with fail
  refine (HE.out _).mono ?_
  rintro e w' ⟨⟨ex1, rfl⟩, rfl⟩
  rw [show encW (tableD f) = f * 4096 + 3 from rfl]
  go_wp2_with fail
  go_ret
  exact ⟨(by repeat (first | exact Ext.refl _ | apply Ext.more | apply Ext.alloc | apply Ext.drew | apply Ext.drewN)), rfl⟩
theorem tree_may_yes (w : World) (asid : Int) (h0 : 0 ≤ asid) (h1 : asid ≤ 255) : Calls Try.prog 80 #[.int .i64 asid] w fun e w' => e = .returned (.bool true) ∧ w' = w := by
  go_enter Try.func80, Try.ntmps80
  go_wp2_with fail
  go_ret
  exact ⟨by first | rfl | exact ret_bool (by simp; omega), rfl⟩
theorem tree_may_no (w : World) (asid : Int) (h : asid < 0 ∨ 255 < asid) : Calls Try.prog 80 #[.int .i64 asid] w fun e w' => e = .returned (.bool false) ∧ w' = w := by
  rcases h with h | h
  · go_enter Try.func80, Try.ntmps80
    go_wp2_with fail
    go_ret
    exact ⟨by first | rfl | exact ret_bool (by simp; omega), rfl⟩
  · have h0 : 0 ≤ asid := by omega
    go_enter Try.func80, Try.ntmps80
    go_wp2_with fail
    go_ret
    exact ⟨by first | rfl | exact ret_bool (by simp; omega), rfl⟩

/-- What Path tells. -/
inductive PathR where
  | yes (s : List Step) (at_ : Int × Int)
  | no (k : Nat)
def PathRet (B : Nat) (w' : World) (r : PathR) (e : Ending) : Prop := match r with
  | .yes s t => ∃ a cap, e = .returned (.tuple #[.slice a s.length cap, .agg #[.int .i64 t.1, .int .i64 t.2], .nilIface]) ∧ OwnS w' B (.slice a s.length cap) s
  | .no k => e = .returned (.tuple #[.slice none 0 0, .agg #[.int .i64 0, .int .i64 0], errW k])

theorem pathRet_yes {B B' n : Nat} {w' : World} {r : PathR} {s : List Step} {t : Int × Int} {v : Value} {xs : List Value} (hr : r = .yes s t) (h : w'.ownsRow B' 73 10 v n xs) (hb : B ≤ B') (hn : n = s.length) (hx : xs = (s.map Step.cells).flatten) : PathRet B w' r (.returned (.tuple #[v, .agg #[.int .i64 t.1, .int .i64 t.2], .nilIface])) := by
  obtain ⟨a, cap, rfl⟩ := own_form h
  subst hn hx hr
  exact ⟨a, cap, rfl, own_low h hb⟩
set_option maxRecDepth 100000 in
set_option maxHeartbeats 1000000 in
theorem tree_Path_err (w : World) (m : Option Addr) (root asid page level : Int) (v : Value) (q : Int) (k : Nat) (h : ∀ w1 : World, Ext w w1 → Calls Try.prog 77 #[.pointer m, .int .i64 root, .int .i64 page, .int .i64 level] w1 fun e w' => Ext w1 w' ∧ e = .returned (.tuple #[.int .i64 q, errW k])) :
    Calls Try.prog 35 #[.pointer m, .int .i64 root, .int .i64 asid, .int .i64 page, .int .i64 level, v] w fun e w' => Ext w w' ∧ PathRet w.heap.size w' (.no k) e := by
  have HD := Lib.hid h
  clear h
  go_enter Try.func35, Try.ntmps35
  go_wp2_with fail
  refine (HD.out _ (by repeat (first | exact Ext.refl _ | apply Ext.more | apply Ext.alloc | apply Ext.drew | apply Ext.drewN))).mono ?_
  rintro e w' ⟨⟨ex1, rfl⟩, rfl⟩
  go_wp2_with fail
  refine bodyPost_ret (results_tct rfl _ _ w.heap.size 61 _ (0, 0) _ rfl (by repeat (first | (with_reducible exact heap_alloc_new _ _) | (with_reducible apply box_more) | (with_reducible apply box_alloc) | (with_reducible apply box_drew) | (with_reducible apply box_drewN))) Try.underlying61 rfl (by kernel_rfl)) rfl ?_
  exact ⟨(by repeat (first | exact Ext.refl _ | apply Ext.more | apply Ext.alloc | apply Ext.drew | apply Ext.drewN)), rfl⟩
def lastS (s : List (Int × Int)) : Int × Int := s.getD (s.length - 1) (0, 0)
def goodF (n : Nat) (f : Int) : Bool := decide (0 ≤ f ∧ f < n)
def pathT (asid page : Int) (L : Nat) (fresh : List Int) (s : List (Int × Int)) : List Step × (Int × Int) := pathS asid page (s.length - 1) (lastS s).1 (lastS s).2 (fresh.take (L + 1 - s.length))
/-- What Path tells of a way. -/
def pathRes (n : Nat) (asid page : Int) (L : Nat) (fresh : List Int) : Option (List (Int × Int) × Desc) → PathR
  | none => .no 2
  | some (s, d) => if (0 : Int) < L + 1 - s.length ∧ d.fKind ≠ 0 then .no 7 else if asid < 0 ∨ 255 < asid then .no 1 else if fresh.all (goodF n) = false then .no 1
      else if fresh.length < L + 1 - s.length then .no 5 else .yes (pathT asid page L fresh s).1 (pathT asid page L fresh s).2
theorem all_bad {n : Nat} {l : List Int} {q : Nat} {f : Int} (h : l[q]? = some f) (hf : ¬ (0 ≤ f ∧ f < n)) : l.all (goodF n) = false := by
  cases ha : l.all (goodF n) with
  | false => rfl
  | true =>
    have := List.all_eq_true.1 ha f (List.mem_of_getElem? h)
    simp only [goodF, decide_eq_true_eq] at this
    exact absurd this hf
theorem all_good {n : Nat} {l : List Int} (h : ∀ (j : Nat) (f : Int), l[j]? = some f → 0 ≤ f ∧ f < n) : l.all (goodF n) = true := by
  refine List.all_eq_true.2 fun f hf => ?_
  obtain ⟨j, hj, rfl⟩ := List.getElem_of_mem hf
  exact decide_eq_true (h j _ (List.getElem?_eq_getElem hj))
theorem slot_at {w : World} {g : Nat} {l : List (Int × Int)} (h : ∀ i u, ((l.map slotC).flatten)[i]? = some u → w.cell? ⟨g, i, none⟩ = some u) (q : Nat) (f : Int × Int) (hq : l[q]? = some f) :
    w.cell? ⟨g, q * 2, none⟩ = some (.int .i64 f.1) ∧ w.cell? ⟨g, q * 2 + 1, none⟩ = some (.int .i64 f.2) := by
  have key := fun j u hj => h (q * 2 + j) u (flatten_at 2 (l.map slotC) q j (slotC f) u (by intro c hc; obtain ⟨z, _, rfl⟩ := List.mem_map.1 hc; rfl) (by simp [hq]) hj)
  exact ⟨key 0 _ rfl, key 1 _ rfl⟩

set_option maxRecDepth 100000 in
set_option maxHeartbeats 8000000 in
theorem tree_Path (w : World) {b g n c : Nat} {ws : List Int} (hm : MemAt w b g n c ws) (hw : WOk ws) (root asid page : Int) (L : Nat) (h0 : 0 ≤ root) (h1 : root < n) (p0 : 0 ≤ page) (p1 : page < 4096) (l0 : 1 ≤ L) (l1 : L < 4)
    (fresh : List Int) (v : Value) (hv : SlRd w v 1 (fresh.map intCells)) (hfl : fresh.length ≤ 1000) (r : Option (List (Int × Int) × Desc)) (hr : wayAt ws n page (L + 1) 0 root = r) :
    Calls Try.prog 35 #[.pointer (some ⟨b, 0, none⟩), .int .i64 root, .int .i64 asid, .int .i64 page, .int .i64 L, v] w fun e w' => Ext w w' ∧ PathRet w.heap.size w' (pathRes n asid page L fresh r) e := by
  have HN := Lib.hid (fun w hm => tree_Need w (b := b) (g := g) (n := n) (c := c) hm hw root page L h0 h1 p0 p1 l0 l1 r hr)
  have HD := Lib.hid (fun w hm => tree_down w (b := b) (g := g) (n := n) (c := c) hm hw root page L h0 h1 p0 p1 l0 l1)
  rw [hr] at HD
  have HM := Lib.hid hm
  have hle := hm.le
  have HLn := Lib.hid (wayAt_len (ws := ws) (n := n) (page := page) (L + 1) 0 root)
  rw [hr] at HLn
  obtain ⟨fa, fcap, rfl, hfcap, hfc⟩ := hv.form
  rw [List.length_map] at *
  have HFC := Lib.hid hfc
  clear hm hw hr hv hfc hfcap
  cases r with
  | none =>
    clear HLn HD HFC
    go_enter Try.func35, Try.ntmps35
    go_wp2_with fail
    refine (HN.out _ (by repeat (first | exact HM.out | apply MemAt.more | apply MemAt.alloc | apply MemAt.drew | apply MemAt.drewN))).mono ?_
    rintro e w' ⟨⟨ex1, rfl⟩, rfl⟩
    rw [show (needP L none).1 = 0 from rfl, show errV (needP L none).2 = errW 2 from rfl]
    go_wp2_with fail
    refine bodyPost_ret (results_tct rfl _ _ w.heap.size 61 _ (0, 0) _ rfl (by repeat (first | (with_reducible exact heap_alloc_new _ _) | (with_reducible apply box_more) | (with_reducible apply box_alloc) | (with_reducible apply box_drew) | (with_reducible apply box_drewN))) Try.underlying61 rfl (by kernel_rfl)) rfl ?_
    exact ⟨(by repeat (first | exact Ext.refl _ | apply Ext.more | apply Ext.alloc | apply Ext.drew | apply Ext.drewN)), rfl⟩
  | some r =>
    obtain ⟨s, d⟩ := r
    obtain ⟨s0, s1⟩ := HLn.out s d rfl
    clear HLn
    by_cases h7 : (0 : Int) < L + 1 - s.length ∧ d.fKind ≠ 0
    · have HV := Lib.hid (show pathRes n asid page L fresh (some (s, d)) = .no 7 from by unfold pathRes; dsimp only; rw [if_pos h7])
      have HNP := Lib.hid (show needP L (some (s, d)) = (0, 7) from by simp only [needP]; rw [if_pos h7])
      clear HD HFC h7
      go_enter Try.func35, Try.ntmps35
      go_wp2_with fail
      refine (HN.out _ (by repeat (first | exact HM.out | apply MemAt.more | apply MemAt.alloc | apply MemAt.drew | apply MemAt.drewN))).mono ?_
      rintro e w' ⟨⟨ex1, rfl⟩, rfl⟩
      rw [HNP.out]
      rw [show errV 7 = errW 7 from rfl]
      go_wp2_with fail
      refine bodyPost_ret (results_tct rfl _ _ w.heap.size 61 _ (0, 0) _ rfl (by repeat (first | (with_reducible exact heap_alloc_new _ _) | (with_reducible apply box_more) | (with_reducible apply box_alloc) | (with_reducible apply box_drew) | (with_reducible apply box_drewN))) Try.underlying61 rfl (by kernel_rfl)) rfl ?_
      exact ⟨(by repeat (first | exact Ext.refl _ | apply Ext.more | apply Ext.alloc | apply Ext.drew | apply Ext.drewN)), by rw [HV.out]; rfl⟩
    · obtain ⟨k, hk⟩ : ∃ k, L + 1 - s.length = k := ⟨_, rfl⟩
      have HNP := Lib.hid (show needP L (some (s, d)) = ((k : Int), 0) from by simp only [needP]; rw [if_neg h7]; congr 1; omega)
      by_cases ha : asid < 0 ∨ 255 < asid
      · have HV := Lib.hid (show pathRes n asid page L fresh (some (s, d)) = .no 1 from by unfold pathRes; dsimp only; rw [if_neg h7, if_pos ha])
        have HA := Lib.hid (fun w => tree_may_no w asid ha)
        clear HD HFC h7 ha
        go_enter Try.func35, Try.ntmps35
        go_wp2_with fail
        refine (HN.out _ (by repeat (first | exact HM.out | apply MemAt.more | apply MemAt.alloc | apply MemAt.drew | apply MemAt.drewN))).mono ?_
        rintro e w' ⟨⟨ex1, rfl⟩, rfl⟩
        rw [HNP.out]
        rw [show errV 0 = .nilIface from rfl]
        go_wp2_with fail
        refine (HA.out _).mono ?_
        rintro e w' ⟨rfl, hww⟩
        subst w'
        go_wp2_with fail
        refine bodyPost_ret (results_tct rfl _ _ w.heap.size 61 _ (0, 0) _ rfl (by repeat (first | (with_reducible exact heap_alloc_new _ _) | (with_reducible apply box_more) | (with_reducible apply box_alloc) | (with_reducible apply box_drew) | (with_reducible apply box_drewN))) Try.underlying61 rfl (by kernel_rfl)) rfl ?_
        exact ⟨(by repeat (first | exact Ext.refl _ | apply Ext.more | apply Ext.alloc | apply Ext.drew | apply Ext.drewN)), by rw [HV.out]; rfl⟩
      · have HA := Lib.hid (fun w => tree_may_yes w asid (by omega) (by omega))
        have HBad := Lib.hid (fun h => (show pathRes n asid page L fresh (some (s, d)) = .no 1 from by unfold pathRes; dsimp only; rw [if_neg h7, if_neg ha, if_pos h]))
        have HFull := Lib.hid (fun h h5 => (show pathRes n asid page L fresh (some (s, d)) = .no 5 from by unfold pathRes; dsimp only; rw [if_neg h7, if_neg ha, if_neg h, hk, if_pos h5]))
        have HYes := Lib.hid (fun h h5 => (show pathRes n asid page L fresh (some (s, d)) = .yes (pathS asid page (s.length - 1) (lastS s).1 (lastS s).2 (fresh.take k)).1 (pathS asid page (s.length - 1) (lastS s).1 (lastS s).2 (fresh.take k)).2 from by unfold pathRes; dsimp only; rw [if_neg h7, if_neg ha, if_neg h, hk, if_neg h5]; unfold pathT; rw [hk]))
        clear h7 ha
        go_enter Try.func35, Try.ntmps35
        go_wp2_with fail
        refine (HN.out _ (by repeat (first | exact HM.out | apply MemAt.more | apply MemAt.alloc | apply MemAt.drew | apply MemAt.drewN))).mono ?_
        rintro e w' ⟨⟨ex1, rfl⟩, rfl⟩
        rw [HNP.out]
        rw [show errV 0 = .nilIface from rfl]
        go_wp2_with fail
        refine (HA.out _).mono ?_
        rintro e w' ⟨rfl, hww⟩
        subst w'
        go_wp2_with fail
        go_loopw [46] (fun i wr => ∃ q : Nat, q ≤ fresh.length ∧ i = .int .i64 q ∧ Ext (w.alloc (.cells #[.int .i64 0, .int .i64 0] 61)) wr ∧ Hid (∀ (j : Nat) (f : Int), j < q → fresh[j]? = some f → 0 ≤ f ∧ f < n)) (fun i _ => fresh.length - (intOf i).toNat)
        case atStart => exact ⟨0, by omega, rfl, (by repeat (first | exact Ext.refl _ | apply Ext.more | apply Ext.alloc | apply Ext.drew | apply Ext.drewN)), fun j f hj => by omega⟩
        case round =>
          obtain ⟨q, hq, rfl, ⟨x, rfl⟩, HG⟩ := hrel
          by_cases hlt : q < fresh.length
          · have hz : fresh[q]? = some fresh[q] := List.getElem?_eq_getElem hlt
            obtain ⟨fb, fo, rfl, hfb, hcl⟩ := HFC.out q (intCells fresh[q]) (by rw [List.getElem?_map, hz]; rfl) (by simp [intCells])
            obtain ⟨k1, k2, k3⟩ := lt_facts hfb
            have x0 := hcl 0 (.int .i64 fresh[q]) rfl
            simp only [Nat.mul_one, Nat.add_zero] at x0
            have HB' := Lib.hid (fun h => HBad.out (all_bad hz h))
            have HG' := Lib.hid (fun (h : 0 ≤ fresh[q] ∧ fresh[q] < n) (j : Nat) (f : Int) (hj : j < q + 1) (hf : fresh[j]? = some f) => (show 0 ≤ f ∧ f < n from by
              by_cases e : j < q
              · exact HG.out j f e hf
              · obtain rfl : j = q := by omega
                rw [hz, Option.some.injEq] at hf
                subst hf
                exact h))
            generalize fresh[q] = f at *
            clear hz hcl
            by_cases hg : 0 ≤ f ∧ f < n
            · have HG2 := Lib.hid (HG'.out hg)
              clear HG' HB'
              go_wp2_with (go_at_call 78; refine (tree_has_yes _ (by repeat (first | exact HM.out | apply MemAt.more | apply MemAt.alloc | apply MemAt.drew | apply MemAt.drewN)) f hg.1 hg.2).mono ?_; rintro e w' ⟨rfl, hww⟩; subst w')
              go_roundw
              case rel => exact ⟨q + 1, by omega, by go_num, (by repeat (first | exact Ext.refl _ | apply Ext.more | apply Ext.alloc | apply Ext.drew | apply Ext.drewN)), HG2⟩
              case measure => simp [intOf]; omega
            · have HV := Lib.hid (HB'.out hg)
              clear HG' HB'
              go_wp2_with (go_at_call 78; refine (tree_has_no _ (by repeat (first | exact HM.out | apply MemAt.more | apply MemAt.alloc | apply MemAt.drew | apply MemAt.drewN)) f hg).mono ?_; rintro e w' ⟨rfl, hww⟩; subst w')
              refine bodyPost_ret (results_tct rfl _ _ w.heap.size 61 _ (0, 0) _ rfl (by repeat (first | (with_reducible exact heap_alloc_new _ _) | (with_reducible apply box_more) | (with_reducible apply box_alloc) | (with_reducible apply box_drew) | (with_reducible apply box_drewN))) Try.underlying61 rfl (by kernel_rfl)) rfl ?_
              exact ⟨(by repeat (first | exact Ext.refl _ | apply Ext.more | apply Ext.alloc | apply Ext.drew | apply Ext.drewN)), by rw [HV.out]; rfl⟩
          · obtain rfl : q = fresh.length := by omega
            have hgood := all_good (n := n) (fun j f hf => HG.out j f (List.getElem?_eq_some_iff.1 hf).1 hf)
            by_cases h5 : fresh.length < k
            · have HV := Lib.hid (HFull.out (by rw [hgood]; simp) h5)
              clear HFull HYes HBad hgood HG
              go_wp2_with fail
              refine bodyPost_ret (results_tct rfl _ _ w.heap.size 61 _ (0, 0) _ rfl (by repeat (first | (with_reducible exact heap_alloc_new _ _) | (with_reducible apply box_more) | (with_reducible apply box_alloc) | (with_reducible apply box_drew) | (with_reducible apply box_drewN))) Try.underlying61 rfl (by kernel_rfl)) rfl ?_
              exact ⟨(by repeat (first | exact Ext.refl _ | apply Ext.more | apply Ext.alloc | apply Ext.drew | apply Ext.drewN)), by rw [HV.out]; rfl⟩
            · have HV := Lib.hid (HYes.out (by rw [hgood]; simp) h5)
              have HGd := Lib.hid (fun (j : Nat) (f : Int) (hj : fresh[j]? = some f) => HG.out j f (List.getElem?_eq_some_iff.1 hj).1 hj)
              clear HFull HYes HBad hgood HG
              obtain ⟨dk, df, dw, de, dsn, dfo, dso⟩ := d
              go_wp2_with fail
              refine (HD.out _ (by repeat (first | exact HM.out | apply MemAt.more | apply MemAt.alloc | apply MemAt.drew | apply MemAt.drewN))).mono ?_
              rintro e w' ⟨⟨ex2, rfl⟩, wa, wcap, rfl, hO⟩
              have hoc := own_cap hO
              have hm' : wcap ≤ 9223372036854775807 := by have := hoc.2.2; unfold maxLen at this; exact this
              obtain ⟨wg, rfl, _, hwg, _, hwx, _⟩ := own_at hO (by omega)
              have hz : s[s.length - 1]? = some s[s.length - 1] := List.getElem?_eq_getElem (by omega)
              obtain ⟨z0, z1⟩ := slot_at hwx _ _ hz
              have hls : lastS s = s[s.length - 1] := by unfold lastS; rw [List.getD_eq_getElem?_getD, hz]; rfl
              rw [← hls] at z0 z1
              have HSub : Hid (((s.length : Nat) : Int) - 1 = ((s.length - 1 : Nat) : Int)) := by show _ = _; omega
              clear hO hoc hwx hz hls
              go_wp2_with fail
              have hX : Ext (w.alloc (.cells #[.int .i64 0, .int .i64 0] 61)) ((more (more (w.alloc (.cells #[.int .i64 0, .int .i64 0] 61)) x) ex2).alloc (.cells #[.int .i64 dk, .int .i64 df, .bool dw, .bool de, .bool dsn, .bool dfo, .int .i64 dso] 107)) := (by repeat (first | exact Ext.refl _ | apply Ext.more | apply Ext.alloc | apply Ext.drew | apply Ext.drewN))
              obtain ⟨y, hy⟩ := hX
              have hsb : (more (more (w.alloc (.cells #[.int .i64 0, .int .i64 0] 61)) x) ex2).heap.size + 1 = (more (w.alloc (.cells #[.int .i64 0, .int .i64 0] 61)) y).heap.size := by rw [← hy]; simp
              rw [hy, hsb]
              obtain ⟨l0, hl0⟩ : ∃ l0, s.length - 1 = l0 := ⟨_, rfl⟩
              have HLK := Lib.hid (show l0 + k = L by omega)
              rw [hl0] at HV
              have hkL : k ≤ L := by omega
              have hkf : k ≤ fresh.length := by omega
              generalize lastS s = tt at *
              obtain ⟨ta, tb0⟩ := tt
              have hlk : ((L : Int) - k) = (l0 : Int) := by omega
              rw [hlk]
              clear hy hsb hl0 h5 hlk z0 z1 HSub hk
              generalize (more (more (w.alloc (.cells #[.int .i64 0, .int .i64 0] 61)) x) ex2).heap.size = xs
              go_loopw [22, 23, 24] (fun o i l wr => ∃ (q lv : Nat) (tb pl : Int), q ≤ k ∧ i = .int .i64 q ∧ l = .int .i64 lv ∧ Ext ((more (w.alloc (.cells #[.int .i64 0, .int .i64 0] 61)) y).alloc (.cells #[.int .i64 tb, .int .i64 pl] 61)) wr ∧ Hid (lv = l0 + q) ∧ Hid ((pathS asid page l0 ta tb0 (fresh.take q)).2 = (tb, pl)) ∧ Hid (wr.ownsRow ((more (w.alloc (.cells #[.int .i64 0, .int .i64 0] 61)) y).alloc (.cells #[.int .i64 tb, .int .i64 pl] 61)).heap.size 73 10 o (2 * q) (CS (pathS asid page l0 ta tb0 (fresh.take q)).1))) (fun _ i _ _ => k - (intOf i).toNat)
              case atStart => exact ⟨0, l0, ta, tb0, by omega, rfl, rfl, Ext.refl _, rfl, rfl, World.ownsRow_nil _ _ _ _⟩
              case round =>
                obtain ⟨q, lv, tb, pl, hq, rfl, rfl, ⟨x', rfl⟩, HLv, HP, HO⟩ := hrel
                by_cases hlt : q < k
                · have hz : fresh[q]? = some fresh[q] := List.getElem?_eq_getElem (by omega)
                  have hgd := HGd.out q _ hz
                  obtain ⟨fb, fo, rfl, hfb, hcl⟩ := HFC.out q (intCells fresh[q]) (by rw [List.getElem?_map, hz]; rfl) (by simp [intCells])
                  obtain ⟨k1, k2, k3⟩ := lt_facts hfb
                  have x0 := hcl 0 (.int .i64 fresh[q]) rfl
                  simp only [Nat.mul_one, Nat.add_zero] at x0
                  have htk := take_snoc hz
                  have htl : (fresh.take q).length = q := by rw [List.length_take]; omega
                  have hsn := pathS_snoc asid page fresh[q] (fresh.take q) l0 ta tb0
                  rw [htl, ← htk, ← HLv.out] at hsn
                  have E1 := Lib.hid (show CS (pathS asid page l0 ta tb0 (fresh.take (q + 1))).1 = CS (pathS asid page l0 ta tb0 (fresh.take q)).1 ++ ((clearS fresh[q]).cells ++ (⟨1, asid, (lv : Int), tb, pl, firstP page lv, fresh[q] * 4096 + 3, 0, 0, 0⟩ : Step).cells) from by rw [hsn, HP.out]; simp [CS])
                  have E2 := Lib.hid (show (pathS asid page l0 ta tb0 (fresh.take (q + 1))).2 = (fresh[q], placeN (lv + 1) page) from by rw [hsn])
                  have hlv3 : lv ≤ 2 := by have := HLv.out; have := HLK.out; omega
                  have HLv' := Lib.hid (show lv + 1 = l0 + (q + 1) by have := HLv.out; omega)
                  generalize fresh[q] = f at *
                  clear hz hcl htk htl hsn HLv HLK HP
                  have HFst := Lib.hid (fun w => tree_first w page lv (by omega) p0 p1)
                  have HTb := Lib.hid (fun w => tree_table w f hgd.1 (by omega))
                  have HPl := Lib.hid (fun w => extD (walk_Place w ((lv : Int) + 1) page (by omega) (by omega) p0 p1))
                  generalize firstP page lv = fp at *
                  generalize placeN ((lv : Int) + 1) page = np at *
                  have hqf0 : (0 : Int) ≤ (q : Int) := by omega
                  have hqf : (q : Int) < (fresh.length : Int) := by omega
                  go_wp2_with ((at_builtin; refine wpList_append_new ((more (w.alloc (.cells #[.int .i64 0, .int .i64 0] 61)) y).alloc (.cells #[.int .i64 tb, .int .i64 pl] 61)) el_Step rfl _ _ rfl u22 (2 * q) _ rfl (by repeat (first | exact HO.out | apply own_more | apply own_alloc | apply own_drew | apply own_drewN)) (by repeat (first | exact Ext.refl _ | apply Ext.more | apply Ext.alloc | apply Ext.drew | apply Ext.drewN)) _ _ 1 _ rfl (by simp) rfl rfl (by omega) ?_); intro v1 x1' HO1 keep; clear keep)
                  go_region_held3 (fun w' => w'.cell? ⟨(more (w.alloc (.cells #[.int .i64 0, .int .i64 0] 61)) y).heap.size, 0, none⟩ = some (.int .i64 tb) ∧ w'.cell? ⟨(more (w.alloc (.cells #[.int .i64 0, .int .i64 0] 61)) y).heap.size, 1, none⟩ = some (.int .i64 pl) ∧ w'.cell? ⟨fb, fo + q, none⟩ = some (.int .i64 f)) (first | (go_simp; done) | (dsimp only; refine ⟨?_, ?_, ?_⟩ <;> go_simp))
                    ((first
                      | (go_at_call 82; refine (HFst.out _).mono ?_; rintro e w' ⟨rfl, hww⟩; subst w')
                      | (go_at_call 83; refine (HTb.out _).mono ?_; rintro e w' ⟨⟨ex3, rfl⟩, rfl⟩)
                      | (refine step_append_new ((more (w.alloc (.cells #[.int .i64 0, .int .i64 0] 61)) y).alloc (.cells #[.int .i64 tb, .int .i64 pl] 61)) el_Step (by rfl) _ _ (by rfl) v1 (2 * q + 1) _ (by rfl) (by repeat (first | exact HO1.out | apply own_more | apply own_alloc | apply own_drew | apply own_drewN)) (by repeat (first | exact Ext.refl _ | apply Ext.more | apply Ext.alloc | apply Ext.drew | apply Ext.drewN)) _ _ 1 _ (by rfl) (by repeat (first | (with_reducible exact heap_alloc_new _ _) | (with_reducible apply box_more) | (with_reducible apply box_alloc) | (with_reducible apply box_drew) | (with_reducible apply box_drewN))) rfl rfl (by omega) ?_; intro v2 x2' HO2 keep; clear keep)))
                  all_goals
                    go_wp2_with fail
                    refine (HPl.out _).mono ?_
                    rintro e w' ⟨⟨ex4, rfl⟩, rfl⟩
                    go_wp2_with fail
                    go_roundw
                    case rel => exact ⟨q + 1, lv + 1, f, np, by omega, by go_num, by go_num, (by repeat (first | exact Ext.refl _ | apply Ext.more | apply Ext.alloc | apply Ext.drew | apply Ext.drewN)), HLv', E2, by
                      show World.ownsRow _ _ _ _ _ _ _
                      rw [show 2 * (q + 1) = 2 * q + 1 + 1 by omega, E1.out, ← List.append_assoc]
                      have HO3 : (more ((more (w.alloc (.cells #[.int .i64 0, .int .i64 0] 61)) y).alloc (.cells #[.int .i64 tb, .int .i64 pl] 61)) x2').ownsRow ((more (w.alloc (.cells #[.int .i64 0, .int .i64 0] 61)) y).alloc (.cells #[.int .i64 tb, .int .i64 pl] 61)).heap.size 73 10 v2 (2 * q + 1 + 1) ((CS (pathS asid page l0 ta tb0 (fresh.take q)).1 ++ (clearS f).cells) ++ (⟨1, asid, (lv : Int), tb, pl, fp, f * 4096 + 3, 0, 0, 0⟩ : Step).cells) := HO2.out
                      clear HO2 HO1 HO E1 E2 HGd HFC HN HD HM HNP HA HV HFst HTb HPl HLv'
                      repeat (first | exact own_re HO3 (by simp) | (with_reducible apply own_more) | (with_reducible apply own_alloc) | (with_reducible apply own_drewN) | (with_reducible apply own_drew))⟩
                    case measure => simp [intOf]; omega
                · obtain rfl : q = k := by omega
                  have hpl : (pathS asid page l0 ta tb0 (fresh.take q)).1.length = 2 * q := by rw [pathS_len, List.length_take]; congr 1; omega
                  have HPL := Lib.hid hpl
                  have c0 : (more ((more (w.alloc (.cells #[.int .i64 0, .int .i64 0] 61)) y).alloc (.cells #[.int .i64 tb, .int .i64 pl] 61)) x').cell? ⟨(more (w.alloc (.cells #[.int .i64 0, .int .i64 0] 61)) y).heap.size, 0, none⟩ = some (.int .i64 tb) := by go_simp
                  have c1 : (more ((more (w.alloc (.cells #[.int .i64 0, .int .i64 0] 61)) y).alloc (.cells #[.int .i64 tb, .int .i64 pl] 61)) x').cell? ⟨(more (w.alloc (.cells #[.int .i64 0, .int .i64 0] 61)) y).heap.size, 1, none⟩ = some (.int .i64 pl) := by go_simp
                  have HOf := Lib.hid (own_low HO.out (B' := (w.alloc (.cells #[.int .i64 0, .int .i64 0] 61)).heap.size) (Ext.size (by repeat (first | exact Ext.refl _ | apply Ext.more | apply Ext.alloc | apply Ext.drew | apply Ext.drewN))))
                  have hX2 : Ext (w.alloc (.cells #[.int .i64 0, .int .i64 0] 61)) (more ((more (w.alloc (.cells #[.int .i64 0, .int .i64 0] 61)) y).alloc (.cells #[.int .i64 tb, .int .i64 pl] 61)) x') := (by repeat (first | exact Ext.refl _ | apply Ext.more | apply Ext.alloc | apply Ext.drew | apply Ext.drewN))
                  obtain ⟨y2, hy2⟩ := hX2
                  rw [hy2] at c0 c1 HOf ⊢
                  clear HO hpl hy2 hlt
                  generalize (more (w.alloc (.cells #[.int .i64 0, .int .i64 0] 61)) y).heap.size = sb at *
                  go_wp2_with fail
                  go_region
                  all_goals
                    go_wp2_with fail
                    refine bodyPost_ret (results_tct rfl _ _ w.heap.size 61 _ (0, 0) _ rfl (by repeat (first | (with_reducible exact heap_alloc_new _ _) | (with_reducible apply box_more) | (with_reducible apply box_alloc) | (with_reducible apply box_drew) | (with_reducible apply box_drewN))) Try.underlying61 rfl (by kernel_rfl)) rfl ?_
                    refine ⟨(by repeat (first | exact Ext.refl _ | apply Ext.more | apply Ext.alloc | apply Ext.drew | apply Ext.drewN)), ?_⟩
                    rw [HV.out]
                    refine pathRet_yes (B' := (w.alloc (.cells #[.int .i64 tb, .int .i64 pl] 61)).heap.size) (t := (tb, pl)) (by rw [HP.out]) ?_ (by simp) HPL.out.symm rfl
                    exact own_drew (own_re HOf.out (by simp))

end Go.Proofs.Ytapeoeakiphfpaa
