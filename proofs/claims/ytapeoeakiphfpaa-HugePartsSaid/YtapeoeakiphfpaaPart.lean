import Derived.Test.YtapeoeakiphfpaaBStepsSame
import Derived.Deep.RegionHeld3
/- Steps that part a block: plain laws; the contracts of huge.tell, huge.swap, huge.has, paviorref16.step, paviorref16.swap. -/
namespace Go.Proofs.Ytapeoeakiphfpaa
open Go.RowKit
set_option linter.unusedVariables false
set_option linter.unusedSimpArgs false
attribute [local go_sem] setCell_drewN alloc_drewN lt_moreE le_moreE lt_moreK le_moreK cell_more frozen_more set_more drew_more drewN_more

def wr0 (asid level table place first v : Int) : Step := ⟨1, asid, level, table, place, first, v, 0, 0, 0⟩
def clearS (f : Int) : Step := ⟨4, 0, 0, 0, 0, 0, 0, f, 0, 0⟩
def dropS (t : Int) : Step := ⟨6, 0, 0, t, 0, 0, 0, 0, 0, 0⟩
/-- The steps that tell pages side by side. -/
def tellsN (asid first : Int) (k : Nat) : List Step := (List.range k).map fun i : Nat => tellS asid (first + (i : Int))
theorem tellsN_succ (asid first : Int) (k : Nat) : tellsN asid first (k + 1) = tellsN asid first k ++ [tellS asid (first + k)] := by unfold tellsN; rw [List.range_succ, List.map_append]; rfl
theorem tellsN_len (asid first : Int) (k : Nat) : (tellsN asid first k).length = k := by simp [tellsN]
def swapS (asid table place first v : Int) : List Step := wr0 asid 2 table place first 0 :: (tellsN asid first 8 ++ [wr0 asid 2 table place first v])
theorem swapS_len (asid table place first v : Int) : (swapS asid table place first v).length = 10 := by simp [swapS, tellsN_len]
def partD (d : Desc) (i : Nat) : Desc := { d with fKind := 3, fFrame := d.fFrame + i }
def partsN (asid fresh first : Int) (d : Desc) (k : Nat) : List Step := (List.range k).map fun i : Nat => wr0 asid 3 fresh i (first + (i : Int)) (encW (partD d i))
theorem partsN_succ (asid fresh first : Int) (d : Desc) (k : Nat) : partsN asid fresh first d (k + 1) = partsN asid fresh first d k ++ [wr0 asid 3 fresh k (first + k) (encW (partD d k))] := by unfold partsN; rw [List.range_succ, List.map_append]; rfl
theorem partsN_len (asid fresh first : Int) (d : Desc) (k : Nat) : (partsN asid fresh first d k).length = k := by simp [partsN]
def splitS (asid fresh : Int) (f : Found) (d : Desc) : List Step := (clearS fresh :: partsN asid fresh f.fFirst d 8) ++ swapS asid f.fTable f.fPlace f.fFirst (fresh * 4096 + 3)
theorem splitS_len (asid fresh : Int) (f : Found) (d : Desc) : (splitS asid fresh f d).length = 19 := by simp [splitS, partsN_len, swapS_len]
/-- A block that a walk found: its word. -/
theorem walk_block {ws : List Int} {n p root : Int} {f : Found} (h : walkAt ws n p 4 0 root = some f) (hk : f.fKind = 2) :
    f.fLevel = 2 ∧ f.fFirst = p - p % 8 ∧ 0 ≤ f.fTable ∧ f.fTable < n ∧ 0 ≤ f.fPlace ∧ f.fPlace < 8 ∧ ∃ d, decD 2 (ws.getD (f.fTable.toNat * 8 + f.fPlace.toNat) 0) = d ∧ okD 2 d = true ∧ d.fKind = 2 := by
  obtain ⟨h1, h2, h3, _, _, _, hf⟩ := walkAt_word 4 0 root f (by omega) (by omega) h
  generalize hd : decD f.fLevel (ws.getD (f.fTable.toNat * 8 + f.fPlace.toNat) 0) = d at hf
  have hkd : d.fKind = 2 := by rw [← hk, hf, (foundD_parts _ _ _ _ _).2.2.2]
  have hl : f.fLevel = 2 := decD_block _ _ (by rw [hd]; exact hkd)
  have hfirst : f.fFirst = p - p % 8 := by rw [hf]; unfold foundD; rw [if_pos hkd]
  rw [hl] at hd
  refine ⟨hl, hfirst, h1, h2, h3 ▸ placeN_lo _ _, h3 ▸ placeN_hi _ _, d, hd, ?_, hkd⟩
  have := (decD_ok (level := 2) (x := ws.getD (f.fTable.toNat * 8 + f.fPlace.toNat) 0) (by rw [hd, hkd]; omega)).1
  rwa [hd] at this
theorem okD_block {d : Desc} (h : okD 2 d = true) (hk : d.fKind = 2) : d.fFold = false ∧ d.fFrame % 8 = 0 ∧ 0 ≤ d.fFrame ∧ d.fFrame + 8 ≤ 512 := by
  obtain ⟨_, _, h0, h1, _, _, h2⟩ := okD_parts h
  unfold mayD at h2
  rw [if_neg (by omega), if_neg (by omega), if_pos hk] at h2
  simp only [Bool.and_eq_true, beq_iff_eq, Bool.not_eq_true'] at h2
  exact ⟨h2.1.2, h2.2, h0, by omega⟩
theorem okD_part {d : Desc} (h : okD 2 d = true) (hk : d.fKind = 2) (i : Nat) (hi : i < 8) : okD 3 (partD d i) = true := by
  obtain ⟨_, _, h0, h1, h3, h4, h2⟩ := okD_parts h
  obtain ⟨hfo, hmod, _, h5⟩ := okD_block h hk
  unfold okD mayD partD
  dsimp only
  simp
  omega
theorem okD_tab {level f : Int} (h0 : 0 ≤ level) (h2 : level ≤ 2) (hf0 : 0 ≤ f) (hf1 : f < 512) : okD level (tableD f) = true := by
  unfold okD mayD tableD
  simp
  omega

/-- Cells of steps, in a row of the call's own. -/
def SlRet (B : Nat) (w' : World) (L : List Step) (n : Nat) (e : Ending) : Prop := ∃ a cap, e = .returned (.slice a n cap) ∧ w'.ownsRow B 73 10 (.slice a n cap) n (CS L)
theorem slRet_mk {B B' m n : Nat} {w' : World} {L : List Step} {v : Value} {xs : List Value} (h : w'.ownsRow B' 73 10 v m xs) (hb : B ≤ B') (hn : m = n) (hx : xs = CS L) : SlRet B w' L n (.returned v) := by
  obtain ⟨a, cap, rfl⟩ := own_form h
  subst hn hx
  exact ⟨a, cap, rfl, own_low h hb⟩
theorem own_lit' {w : World} {B n m sz g : Nat} {xs : List Value} {cs : Array Value} {T : TypeId} (hg : g = w.heap.size) (hB : B ≤ w.heap.size) (h : cs.size = m * sz) (hm : m ≤ 1000) (hn : n = m) (hx : xs = cs.toList) : (w.alloc (.cells cs T)).ownsRow B T sz (.slice (some ⟨g, 0, none⟩) m m) n xs := by
  subst hn hx hg
  exact own_low (own_lit w cs T _ sz h (by unfold maxLen; omega)) hB
/-- As wpList_append_row, in a region that draws its order. -/
theorem step_append_row {P : Program} (W : World) {w : World} {ops : Array Oper} {o : Oper} {a : Act} {K : Act → World → Prop} {Q : Exit → Act → World → Prop} {E : Prop} {t e : TypeId} {z : Value} {size bytes : Nat} (el : ElemAt P t e z size bytes)
    (hgd : o.guard = none) (s x : Operand) (ho : o.op = .call { callee := .builtin .append, args := #[s, x], argTypes := #[t, t] })
    (v : Value) (n : Nat) (xs : List Value) (hs : a.eval s = v) (hown : w.ownsRow W.heap.size e size v n xs) (hW : Ext W w)
    (B2 : Nat) (v2 : Value) (m : Nat) (xs2 : List Value) (hx : a.eval x = v2) (hown2 : w.ownsRow B2 e size v2 m xs2) (hm : 1 ≤ m) (h1 : xs2.all Value.oneCell' = true) (hn : n + m ≤ 1000000)
    (h : ∀ v' x', Hid ((more W x').ownsRow W.heap.size e size v' (n + m) (xs ++ xs2)) → (∀ k ob, w.heap[k]? = some ob → v.ownBlock ≠ some k → (more W x').heap[k]? = some ob) → K (a.put o.dst v') (more W x')) :
    if Region.wanted o (yielded ops a.tmps) = true then Oper.wp P o a w K Q else E := by
  have hw : Region.wanted o (yielded ops a.tmps) = true := by simp [Region.wanted, hgd]
  rw [if_pos hw]
  obtain ⟨i, hi, hz, h3, h4⟩ := info_parts el.info
  have hb : (n + m) * bytes ≤ 1000000 * 1000 := Nat.mul_le_mul hn el.small
  rcases hown2.2 with ⟨_, h0⟩ | ⟨g2, cap2, cur, rfl, _⟩
  · omega
  refine wp_append_own w s x t ho W.heap.size e i z size bytes el.sl hi hz h3 h4 el.zs el.pos v n xs hs hown ⟨g2, 0, none⟩ m cap2 xs2 hx hown2.1
    (hown2.cells (g := g2) rfl) (by intro u hu; exact List.all_eq_true.1 h1 u hu) (by unfold maxLen; omega) (by omega) hW.size ?_
  intro v' w' ho' hg' _
  obtain ⟨x', rfl⟩ := more_of_grow (grow_row hW.grow hown hg')
  exact h v' x' ho' fun k ob hk hne => (hg'.block k (Array.getElem?_eq_some_iff.1 hk).1 (fun e => hne e.symm)).trans hk

set_option maxHeartbeats 2000000 in
theorem huge_tell (w : World) (asid first : Int) (h0 : 0 ≤ first) (h1 : first + 7 < 4096) :
    Calls Try.prog 137 #[.int .i64 asid, .int .i64 first] w fun e w' => Ext w w' ∧ SlRet w.heap.size w' (tellsN asid first 8) 8 e := by
  go_enter Try.func137, Try.ntmps137
  go_wp2_with fail
  go_loopw [5, 7] (fun o i wr => ∃ q : Nat, q ≤ 8 ∧ i = .int .i64 q ∧ Ext w wr ∧ Hid (wr.ownsRow w.heap.size 73 10 o q (CS (tellsN asid first q)))) (fun _ i _ => 8 - (intOf i).toNat)
  case atStart => exact ⟨0, by omega, rfl, (by repeat (first | exact Ext.refl _ | apply Ext.more | apply Ext.alloc | apply Ext.drew | apply Ext.drewN)), by show World.ownsRow _ _ _ _ _ _ _; exact World.ownsRow_nil _ _ _ _⟩
  case round =>
    obtain ⟨q, hq, rfl, ⟨x, rfl⟩, HO⟩ := hrel
    by_cases hlt : q < 8
    · have E := Lib.hid (show CS (tellsN asid first (q + 1)) = CS (tellsN asid first q) ++ (tellS asid (first + q)).cells from by rw [tellsN_succ, CS_snoc])
      go_wp2_with ((at_builtin; refine wpList_append_new w el_Step rfl _ _ rfl u5 q _ rfl (by repeat (first | exact HO.out | apply own_more | apply own_alloc | apply own_drew | apply own_drewN)) (by repeat (first | exact Ext.refl _ | apply Ext.more | apply Ext.alloc | apply Ext.drew | apply Ext.drewN)) _ _ 1 _ rfl (by simp) rfl rfl (by omega) ?_); intro v' x' HO' keep; clear keep)
      go_roundw
      case rel => exact ⟨q + 1, by omega, by go_num, (by repeat (first | exact Ext.refl _ | apply Ext.more | apply Ext.alloc | apply Ext.drew | apply Ext.drewN)), by
        show World.ownsRow _ _ _ _ _ _ _
        rw [E.out]
        exact HO'.out⟩
      case measure => simp [intOf]; omega
    · obtain rfl : q = 8 := by omega
      go_wp2_with fail
      go_ret
      exact ⟨(by repeat (first | exact Ext.refl _ | apply Ext.more | apply Ext.alloc | apply Ext.drew | apply Ext.drewN)), slRet_mk HO.out (Nat.le_refl _) rfl rfl⟩

set_option maxRecDepth 100000 in
set_option maxHeartbeats 4000000 in
theorem huge_swap (w : World) (asid table place first v : Int) (h0 : 0 ≤ first) (h1 : first + 7 < 4096) :
    Calls Try.prog 92 #[.agg #[.int .i64 1, .int .i64 asid, .int .i64 2, .int .i64 table, .int .i64 place, .int .i64 first, .int .u64 0, .int .i64 0, .int .i64 0, .int .i64 0], .int .u64 v] w fun e w' => Ext w w' ∧ SlRet w.heap.size w' (swapS asid table place first v) 10 e := by
  have HT := Lib.hid (fun w => huge_tell w asid first h0 h1)
  go_enter Try.func92, Try.ntmps92
  go_wp2_with fail
  go_region_held3? (fun w' => w'.cell? ⟨w.heap.size, 0, none⟩ = some (.int .i64 1) ∧ w'.cell? ⟨w.heap.size, 1, none⟩ = some (.int .i64 asid) ∧ w'.cell? ⟨w.heap.size, 2, none⟩ = some (.int .i64 2) ∧ w'.cell? ⟨w.heap.size, 3, none⟩ = some (.int .i64 table) ∧ w'.cell? ⟨w.heap.size, 4, none⟩ = some (.int .i64 place) ∧ w'.cell? ⟨w.heap.size, 5, none⟩ = some (.int .i64 first) ∧ w'.cell? ⟨w.heap.size, 6, none⟩ = some (.int .u64 0) ∧ w'.cell? ⟨w.heap.size, 7, none⟩ = some (.int .i64 0) ∧ w'.cell? ⟨w.heap.size, 8, none⟩ = some (.int .i64 0) ∧ w'.cell? ⟨w.heap.size, 9, none⟩ = some (.int .i64 0)) (first | (go_simp; done) | (dsimp only; refine ⟨?_, ?_, ?_, ?_, ?_, ?_, ?_, ?_, ?_, ?_⟩ <;> go_simp))
    ((first
      | (go_at_call 137; refine (HT.out _).mono ?_; rintro e w' ⟨⟨ex1, rfl⟩, a, cap, rfl, HO⟩; have HT8 := Lib.hid (own_low HO (Nat.zero_le _)); clear HO)
      | (refine step_append_row (w.alloc (.cells #[.int .i64 1, .int .i64 asid, .int .i64 2, .int .i64 table, .int .i64 place, .int .i64 first, .int .u64 0, .int .i64 0, .int .i64 0, .int .i64 0] 73)) el_Step (by rfl) _ _ (by rfl) (.slice (some ⟨w.heap.size + 1, 0, none⟩) 1 1) 1 (wr0 asid 2 table place first 0).cells (by rfl) (by repeat (first | ((with_reducible refine own_lit' ?_ ?_ ?_ ?_ ?_ ?_); all_goals (first | rfl | (simp; done) | decide | (simp [size_more]; done) | (simp [size_more]; omega))) | (with_reducible apply own_more) | (with_reducible apply own_alloc) | (with_reducible apply own_drew) | (with_reducible apply own_drewN))) (by repeat (first | exact Ext.refl _ | apply Ext.more | apply Ext.alloc | apply Ext.drew | apply Ext.drewN)) 0 (.slice a 8 cap) 8 (CS (tellsN asid first 8)) (by rfl) (by repeat (first | (with_reducible apply own_alloc) | (with_reducible apply own_drew) | (with_reducible apply own_drewN) | exact HT8.out | (with_reducible apply own_more))) (by omega) (CS_one _) (by omega) ?_; intro v' x' HO' keep; clear keep)
      | (refine step_append_row (w.alloc (.cells #[.int .i64 1, .int .i64 asid, .int .i64 2, .int .i64 table, .int .i64 place, .int .i64 first, .int .u64 0, .int .i64 0, .int .i64 0, .int .i64 0] 73)) el_Step (by rfl) _ _ (by rfl) (.slice (some ⟨(more (w.alloc (.cells #[.int .i64 1, .int .i64 asid, .int .i64 2, .int .i64 table, .int .i64 place, .int .i64 first, .int .u64 0, .int .i64 0, .int .i64 0, .int .i64 0] 73)) ex1).heap.size, 0, none⟩) 1 1) 1 (wr0 asid 2 table place first 0).cells (by rfl) (by repeat (first | ((with_reducible refine own_lit' ?_ ?_ ?_ ?_ ?_ ?_); all_goals (first | rfl | (simp; done) | decide | (simp [size_more]; done) | (simp [size_more]; omega))) | (with_reducible apply own_more) | (with_reducible apply own_alloc) | (with_reducible apply own_drew) | (with_reducible apply own_drewN))) (by repeat (first | exact Ext.refl _ | apply Ext.more | apply Ext.alloc | apply Ext.drew | apply Ext.drewN)) 0 (.slice a 8 cap) 8 (CS (tellsN asid first 8)) (by rfl) (by repeat (first | (with_reducible apply own_alloc) | (with_reducible apply own_drew) | (with_reducible apply own_drewN) | exact HT8.out | (with_reducible apply own_more))) (by omega) (CS_one _) (by omega) ?_; intro v' x' HO' keep; clear keep)))
  all_goals
    go_wp2_with ((at_builtin; refine wpList_append_new (w.alloc (.cells #[.int .i64 1, .int .i64 asid, .int .i64 2, .int .i64 table, .int .i64 place, .int .i64 first, .int .u64 v, .int .i64 0, .int .i64 0, .int .i64 0] 73)) el_Step rfl _ _ rfl v' 9 _ rfl (by repeat (first | exact own_re HO'.out (by simp) | apply own_more | apply own_alloc | apply own_drew | apply own_drewN)) (by repeat (first | exact Ext.refl _ | apply Ext.more | apply Ext.alloc | apply Ext.drew | apply Ext.drewN)) _ _ 1 _ rfl (by simp) rfl rfl (by omega) ?_); intro v2 x2' HO2 keep; clear keep)
    go_ret
    exact ⟨(by repeat (first | exact Ext.refl _ | apply Ext.more | apply Ext.alloc | apply Ext.drew | apply Ext.drewN)), slRet_mk HO2.out (by simp) rfl (by simp [swapS, CS, wr0, Step.cells])⟩

end Go.Proofs.Ytapeoeakiphfpaa
