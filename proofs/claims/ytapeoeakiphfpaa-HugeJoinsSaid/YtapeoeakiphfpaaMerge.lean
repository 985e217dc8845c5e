import Derived.Test.YtapeoeakiphfpaaPath
import Derived.Test.YtapeoeakiphfpaaBStepsSamePart
import Derived.Test.YtapeoeakiphfpaaSplit
/- Steps that make pages a block: plain laws; the contracts of huge.pages, huge.away, huge.fill. -/
namespace Go.Proofs.Ytapeoeakiphfpaa
open Go.RowKit
set_option linter.unusedVariables false
set_option linter.unusedSimpArgs false
attribute [local go_sem] setCell_drewN alloc_drewN lt_moreE le_moreE lt_moreK le_moreK cell_more frozen_more set_more drew_more drewN_more

/-- What a word of a table of the last level says. -/
def wordD (ws : List Int) (t : Int) (i : Nat) : Desc := decD 3 (ws.getD (t.toNat * 8 + i) 0)
/-- The pages that a table's first k words say; none: one says neither none nor a page. -/
def pagesN (ws : List Int) (t first : Int) : Nat → Option (List (Int × Int))
  | 0 => some []
  | k + 1 => (pagesN ws t first k).bind fun l => if (wordD ws t k).fKind = 0 then some l else if (wordD ws t k).fKind = 3 then some (l ++ [(first + k, (wordD ws t k).fFrame)]) else none
theorem pagesN_step {ws : List Int} {t first : Int} {q : Nat} {acc : List (Int × Int)} {d : Desc} (h : pagesN ws t first q = some acc) (hd : wordD ws t q = d) : pagesN ws t first (q + 1) = if d.fKind = 0 then some acc else if d.fKind = 3 then some (acc ++ [(first + q, d.fFrame)]) else none := by
  subst hd
  conv => lhs; unfold pagesN
  rw [h]; rfl
theorem pagesN_none {ws : List Int} {t first : Int} {k : Nat} (h : pagesN ws t first k = none) : ∀ j, pagesN ws t first (k + j) = none := by
  intro j
  induction j with
  | zero => exact h
  | succ j ih =>
    show pagesN ws t first ((k + j) + 1) = none
    conv => lhs; unfold pagesN
    rw [ih]; rfl
/-- The pages from the i-th word on. -/
def pgs (ws : List Int) (t first : Int) (i : Nat) : List (Int × Int) := ((List.range 8).drop i).filterMap fun j : Nat => if (wordD ws t j).fKind = 3 then some (first + (j : Int), (wordD ws t j).fFrame) else none
theorem pgs_yes {ws : List Int} {t first : Int} {i : Nat} (hi : i < 8) (h : (wordD ws t i).fKind = 3) : pgs ws t first i = (first + (i : Int), (wordD ws t i).fFrame) :: pgs ws t first (i + 1) := by
  unfold pgs
  rw [List.drop_eq_getElem_cons (by simpa using hi), List.getElem_range, List.filterMap_cons]
  rw [if_pos h]
theorem pgs_no {ws : List Int} {t first : Int} {i : Nat} (hi : i < 8) (h : (wordD ws t i).fKind ≠ 3) : pgs ws t first i = pgs ws t first (i + 1) := by
  unfold pgs
  rw [List.drop_eq_getElem_cons (by simpa using hi), List.getElem_range, List.filterMap_cons]
  rw [if_neg h]
theorem pgs_end {ws : List Int} {t first : Int} : pgs ws t first 8 = [] := by unfold pgs; rw [List.drop_of_length_le (by simp)]; rfl
theorem pgs_in {ws : List Int} {t first : Int} {i : Nat} : ∀ z ∈ pgs ws t first i, ∃ j : Nat, i ≤ j ∧ j < 8 ∧ (wordD ws t j).fKind = 3 ∧ z = (first + (j : Int), (wordD ws t j).fFrame) := by
  intro z hz
  unfold pgs at hz
  obtain ⟨j, hj, hf⟩ := List.mem_filterMap.1 hz
  obtain ⟨k, hk, rfl⟩ := List.getElem_of_mem hj
  rw [List.getElem_drop, List.getElem_range] at hf
  simp at hk
  split at hf
  · cases hf
    exact ⟨i + k, by omega, by omega, by rwa [List.getElem_drop, List.getElem_range] at *, by simp⟩
  · cases hf
theorem pgs_len {ws : List Int} {t first : Int} {i : Nat} : (pgs ws t first i).length ≤ 8 - i := by
  unfold pgs
  refine Nat.le_trans (List.length_filterMap_le _ _) (by simp)
theorem pagesN_pre {ws : List Int} {t first : Int} : ∀ (k : Nat) (l : List (Int × Int)), k ≤ 8 → pagesN ws t first k = some l → pgs ws t first 0 = l ++ pgs ws t first k ∧ ∀ j, j < k → (wordD ws t j).fKind = 0 ∨ (wordD ws t j).fKind = 3 := by
  intro k
  induction k with
  | zero => intro l _ h; cases h; exact ⟨by simp, fun j hj => by omega⟩
  | succ k ih =>
    intro l hk h
    cases hp : pagesN ws t first k with
    | none => unfold pagesN at h; rw [hp] at h; cases h
    | some acc =>
      rw [pagesN_step hp rfl] at h
      obtain ⟨h1, h2⟩ := ih acc (by omega) hp
      split at h
      · rename_i h0
        cases h
        refine ⟨by rw [h1, pgs_no (by omega) (by omega)], fun j hj => ?_⟩
        by_cases e : j = k
        · subst e; exact .inl h0
        · exact h2 j (by omega)
      · split at h
        · rename_i h3
          cases h
          refine ⟨by rw [h1, pgs_yes (by omega) h3]; simp, fun j hj => ?_⟩
          by_cases e : j = k
          · subst e; exact .inr h3
          · exact h2 j (by omega)
        · cases h
theorem pagesN_pgs {ws : List Int} {t first : Int} {l : List (Int × Int)} (h : pagesN ws t first 8 = some l) : l = pgs ws t first 0 ∧ ∀ j, j < 8 → (wordD ws t j).fKind = 0 ∨ (wordD ws t j).fKind = 3 := by
  obtain ⟨h1, h2⟩ := pagesN_pre 8 l (by omega) h
  rw [pgs_end, List.append_nil] at h1
  exact ⟨h1.symm, h2⟩
/-- The steps that take pages away. -/
def awayM (l : List (Int × Int)) (asid t first : Int) : List Step := (l.map fun z => wr0 asid 3 t (z.1 - first) z.1 0) ++ l.map fun z => tellS asid z.1
theorem awayM_len (l : List (Int × Int)) (asid t first : Int) : (awayM l asid t first).length = l.length + l.length := by simp [awayM]
def copyS (to frm : Int) (k : Int) : Step := ⟨5, 0, 0, 0, 0, 0, 0, to, frm, k⟩
def copiesN (to frm : Int) (k : Nat) : List Step := (List.range k).map fun i : Nat => copyS to frm i
theorem copiesN_succ (to frm : Int) (k : Nat) : copiesN to frm (k + 1) = copiesN to frm k ++ [copyS to frm k] := by unfold copiesN; rw [List.range_succ, List.map_append]; rfl
theorem copiesN_len (to frm : Int) (k : Nat) : (copiesN to frm k).length = k := by simp [copiesN]
/-- The steps that fill a block's frames. -/
def fillOne (ws : List Int) (t base : Int) (i : Nat) : List Step := if (wordD ws t i).fKind = 3 then copiesN (base + i) (wordD ws t i).fFrame 8 else [clearS (base + i)]
def fillN (ws : List Int) (t base : Int) : Nat → List Step
  | 0 => []
  | k + 1 => fillN ws t base k ++ fillOne ws t base k
theorem fillOne_len (ws : List Int) (t base : Int) (i : Nat) : 1 ≤ (fillOne ws t base i).length ∧ (fillOne ws t base i).length ≤ 8 := by
  unfold fillOne
  split
  · rw [copiesN_len]; omega
  · simp
theorem fillN_len (ws : List Int) (t base : Int) : ∀ k, k ≤ (fillN ws t base k).length ∧ (fillN ws t base k).length ≤ 8 * k := by
  intro k
  induction k with
  | zero => simp [fillN]
  | succ k ih => have := fillOne_len ws t base k; simp only [fillN, List.length_append]; omega

theorem el_Mapped : ElemAt Try.prog 100 104 (.agg #[.int .i64 0, .int .i64 0]) 2 16 := ⟨Try.underlying100, by kernel_rfl, rfl, by decide, by decide⟩
def PagesRet (B : Nat) (w' : World) (r : Option (List (Int × Int))) (e : Ending) : Prop := match r with
  | some l => ∃ a cap, e = .returned (.tuple #[.slice a l.length cap, .bool true]) ∧ w'.ownsRow B 104 2 (.slice a l.length cap) l.length (l.map slotC).flatten
  | none => e = .returned (.tuple #[.slice none 0 0, .bool false])
theorem pagesRet_some {B B' n : Nat} {w' : World} {r : Option (List (Int × Int))} {s : List (Int × Int)} {v : Value} {xs : List Value} (hr : r = some s) (h : w'.ownsRow B' 104 2 v n xs) (hb : B ≤ B') (hn : n = s.length) (hx : xs = (s.map slotC).flatten) : PagesRet B w' r (.returned (.tuple #[v, .bool true])) := by
  obtain ⟨a, cap, rfl⟩ := own_form h
  subst hn hx hr
  exact ⟨a, cap, rfl, own_low h hb⟩

set_option maxRecDepth 100000 in
set_option maxHeartbeats 4000000 in
theorem huge_pages (w : World) {b g n c : Nat} {ws : List Int} (hm : MemAt w b g n c ws) (hw : WOk ws) (t first : Int) (t0 : 0 ≤ t) (t1 : t < n) (f0 : 0 ≤ first) (f1 : first < 4096) (r : Option (List (Int × Int))) (hr : pagesN ws t first 8 = r) :
    Calls Try.prog 107 #[.pointer (some ⟨b, 0, none⟩), .int .i64 t, .int .i64 first] w fun e w' => Ext w w' ∧ PagesRet w.heap.size w' r e := by
  have HM := Lib.hid hm
  have HW := Lib.hid hw
  have HR := Lib.hid hr
  clear hm hw hr
  go_enter Try.func107, Try.ntmps107
  go_wp2_with fail
  go_loopw [8, 13] (fun o i wr => ∃ (q : Nat) (acc : List (Int × Int)), q ≤ 8 ∧ acc.length ≤ q ∧ i = .int .i64 q ∧ Ext w wr ∧ Hid (pagesN ws t first q = some acc) ∧ Hid (wr.ownsRow w.heap.size 104 2 o acc.length (acc.map slotC).flatten)) (fun _ i _ => 8 - (intOf i).toNat)
  case atStart => exact ⟨0, [], by omega, by simp, rfl, (by repeat (first | exact Ext.refl _ | apply Ext.more | apply Ext.alloc | apply Ext.drew | apply Ext.drewN)), rfl, World.ownsRow_nil _ _ _ _⟩
  case round =>
    obtain ⟨q, acc, hq, hac, rfl, ⟨x, rfl⟩, HP, HO⟩ := hrel
    by_cases hlt : q < 8
    · have hx := HW.out.getD (t.toNat * 8 + q)
      have HS := Lib.hid (pagesN_step HP.out rfl)
      unfold wordD at HS
      have HL := Lib.hid (fun w hm => phys_Load_is w (b := b) (g := g) (n := n) (c := c) (ws := ws) hm t (q : Int) (ws.getD (t.toNat * 8 + q) 0) t0 t1 (by omega) (by omega) rfl)
      generalize ws.getD (t.toNat * 8 + q) 0 = X at *
      obtain ⟨x0, x1⟩ := hx
      have HDc := Lib.hid (fun w => extC (pte_Decode w 3 X (by omega) (by omega) x0 x1))
      generalize decD 3 X = d at *
      obtain ⟨d0, d1, d2, d3, d4, d5, d6⟩ := d
      dsimp only at HS
      by_cases h0 : d0 = 0
      · have HS' := Lib.hid (HS.out.trans (if_pos h0))
        subst h0
        clear HS HP
        go_wp2_with fail
        refine (HL.out _ (by repeat (first | exact HM.out | apply MemAt.more | apply MemAt.alloc | apply MemAt.drew | apply MemAt.drewN))).mono ?_
        rintro e w' ⟨rfl, hww⟩
        subst w'
        go_wp2_with fail
        refine (HDc.out _).mono ?_
        rintro e w' ⟨⟨ex2, rfl⟩, rfl⟩
        go_wp2_with fail
        go_roundw
        case rel => exact ⟨q + 1, acc, by omega, by omega, by go_num, (by repeat (first | exact Ext.refl _ | apply Ext.more | apply Ext.alloc | apply Ext.drew | apply Ext.drewN)), HS', (by repeat (first | exact HO.out | apply own_more | apply own_alloc | apply own_drew | apply own_drewN))⟩
        case measure => simp [intOf]; omega
      · have b0 : (d0 != 0) = true := by simpa using h0
        by_cases h3 : d0 = 3
        · have HS' := Lib.hid (HS.out.trans ((if_neg h0).trans (if_pos h3)))
          subst h3
          clear HS HP h0
          go_wp2_with fail
          refine (HL.out _ (by repeat (first | exact HM.out | apply MemAt.more | apply MemAt.alloc | apply MemAt.drew | apply MemAt.drewN))).mono ?_
          rintro e w' ⟨rfl, hww⟩
          subst w'
          go_wp2_with fail
          refine (HDc.out _).mono ?_
          rintro e w' ⟨⟨ex2, rfl⟩, rfl⟩
          go_wp2_with ((at_builtin; refine wpList_append_new w el_Mapped rfl _ _ rfl u8 acc.length _ rfl (by repeat (first | exact HO.out | apply own_more | apply own_alloc | apply own_drew | apply own_drewN)) (by repeat (first | exact Ext.refl _ | apply Ext.more | apply Ext.alloc | apply Ext.drew | apply Ext.drewN)) _ _ 1 _ rfl (by simp) rfl rfl (by omega) ?_); intro v' x' HO' keep; clear keep)
          go_roundw
          case rel => exact ⟨q + 1, acc ++ [(first + q, d1)], by omega, by simp only [List.length_append, List.length_cons, List.length_nil]; omega, by go_num, (by repeat (first | exact Ext.refl _ | apply Ext.more | apply Ext.alloc | apply Ext.drew | apply Ext.drewN)), HS', (by show World.ownsRow _ _ _ _ _ _ _; simpa [slotC] using HO'.out)⟩
          case measure => simp [intOf]; omega
        · have b3 : (d0 != 3) = true := by simpa using h3
          have HS' := Lib.hid (show r = none from HR.out.symm.trans (by
            have := pagesN_none (HS.out.trans ((if_neg h0).trans (if_neg h3))) (7 - q)
            rwa [show q + 1 + (7 - q) = 8 by omega] at this))
          clear HS HP h0 h3
          go_wp2_with fail
          refine (HL.out _ (by repeat (first | exact HM.out | apply MemAt.more | apply MemAt.alloc | apply MemAt.drew | apply MemAt.drewN))).mono ?_
          rintro e w' ⟨rfl, hww⟩
          subst w'
          go_wp2_with fail
          refine (HDc.out _).mono ?_
          rintro e w' ⟨⟨ex2, rfl⟩, rfl⟩
          go_wp2_with fail
          go_ret2
          exact ⟨(by repeat (first | exact Ext.refl _ | apply Ext.more | apply Ext.alloc | apply Ext.drew | apply Ext.drewN)), by rw [HS'.out]; rfl⟩
    · obtain rfl : q = 8 := by omega
      go_wp2_with fail
      go_ret2
      exact ⟨(by repeat (first | exact Ext.refl _ | apply Ext.more | apply Ext.alloc | apply Ext.drew | apply Ext.drewN)), pagesRet_some (HR.out.symm.trans HP.out) HO.out (Nat.le_refl _) rfl rfl⟩

end Go.Proofs.Ytapeoeakiphfpaa
