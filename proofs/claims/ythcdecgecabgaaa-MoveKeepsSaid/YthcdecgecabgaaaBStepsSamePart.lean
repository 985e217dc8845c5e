import Derived.Test.YthcdecgecabgaaaBRefbFoldpMore
import Derived.Test.YthcdecgecabgaaaBMorfBeds
import Derived.Deep.RegionHeld3
/- Steps: what they are, and that two rows of them are the same. -/
namespace Go.Proofs.Ythcdecgecabgaaa
open Go.RowKit
set_option linter.unusedVariables false
set_option linter.unusedSimpArgs false
attribute [local go_sem] setCell_drewN alloc_drewN lt_moreE le_moreE lt_moreK le_moreK cell_more frozen_more set_more drew_more drewN_more

/-- A step that writes, and one that tells. -/
def wrS (asid : Int) (f : Found) (first v : Int) : Step := ⟨1, asid, f.fLevel, f.fTable, f.fPlace, first, v, 0, 0, 0⟩
def tellS (asid first : Int) : Step := ⟨2, asid, 0, 0, 0, first, 0, 0, 0, 0⟩
/-- A found page's word, folded or not. -/
def foldW (ws : List Int) (fold : Bool) (f : Found) : Int := encW { decD f.fLevel (ws.getD (f.fTable.toNat * 8 + f.fPlace.toNat) 0) with fFold := fold }
def goneL (l : List Found) (asid first : Int) : List Step := l.mapIdx fun i f => wrS asid f (first + i) 0
def toldL (l : List Found) (asid first : Int) : List Step := l.mapIdx fun i _ => tellS asid (first + i)
def backL (ws : List Int) (l : List Found) (asid first : Int) (fold : Bool) : List Step := l.mapIdx fun i f => wrS asid f (first + i) (foldW ws fold f)
theorem goneL_snoc (l : List Found) (f : Found) (asid first : Int) : goneL (l ++ [f]) asid first = goneL l asid first ++ [wrS asid f (first + l.length) 0] := by unfold goneL; rw [List.mapIdx_append]; simp
theorem toldL_snoc (l : List Found) (f : Found) (asid first : Int) : toldL (l ++ [f]) asid first = toldL l asid first ++ [tellS asid (first + l.length)] := by unfold toldL; rw [List.mapIdx_append]; simp
theorem backL_snoc (ws : List Int) (l : List Found) (f : Found) (asid first : Int) (fold : Bool) : backL ws (l ++ [f]) asid first fold = backL ws l asid first fold ++ [wrS asid f (first + l.length) (foldW ws fold f)] := by unfold backL; rw [List.mapIdx_append]; simp
theorem goneL_len (l : List Found) (asid first : Int) : (goneL l asid first).length = l.length := by simp [goneL]
theorem toldL_len (l : List Found) (asid first : Int) : (toldL l asid first).length = l.length := by simp [toldL]
theorem backL_len (ws : List Int) (l : List Found) (asid first : Int) (fold : Bool) : (backL ws l asid first fold).length = l.length := by simp [backL]
theorem take_snoc {α : Type} {l : List α} {q : Nat} {f : α} (h : l[q]? = some f) : l.take (q + 1) = l.take q ++ [f] := by rw [List.take_add_one, h]; rfl
/-- A page's slot and word. -/
def goodP (ws : List Int) (n : Int) (f : Found) : Prop := 0 ≤ f.fTable ∧ f.fTable < n ∧ 0 ≤ f.fPlace ∧ f.fPlace < 8 ∧ f.fLevel = 3 ∧ okD 3 (decD 3 (ws.getD (f.fTable.toNat * 8 + f.fPlace.toNat) 0)) = true ∧ (decD 3 (ws.getD (f.fTable.toNat * 8 + f.fPlace.toNat) 0)).fKind = 3
theorem okD_fold {d : Desc} (h : okD 3 d = true) (hk : d.fKind = 3) (b : Bool) : okD 3 { d with fFold := b } = true := by
  simp only [okD, mayD, hk, Bool.and_eq_true, decide_eq_true_eq] at h ⊢
  simpa using h
theorem run_good {ws : List Int} {n root first : Int} {i : Nat} {l : List Found} (h : runN ws n root first i = some l) : ∀ f ∈ l, f.fKind = 3 → goodP ws n f := by
  intro f hf hk
  obtain ⟨j, hj, rfl⟩ := List.getElem_of_mem hf
  have hw := runN_at i l h j _ (List.getElem?_eq_getElem hj)
  obtain ⟨h1, h2, h3, _⟩ := walkAt_word 4 0 root _ (by omega) (by omega) hw
  obtain ⟨h4, _, d, h5, h6, h7, _⟩ := walk_page hw hk
  exact ⟨h1, h2, h3 ▸ placeN_lo _ _, h3 ▸ placeN_hi _ _, h4, by rw [h5]; exact h6, by rw [h5]; exact h7⟩
def anewL (ws : List Int) (l : List Found) (asid first : Int) (fold : Bool) : List Step := goneL l asid first ++ toldL l asid first ++ backL ws l asid first fold


theorem el_Step : ElemAt Try.prog 31 46 (.agg #[.int .i64 0, .int .i64 0, .int .i64 0, .int .i64 0, .int .i64 0, .int .i64 0, .int .u64 0, .int .i64 0, .int .i64 0, .int .i64 0]) 10 80 := ⟨Try.underlying31, by kernel_rfl, rfl, by decide, by decide⟩
/-- A row of steps of the call's own. -/
abbrev OwnS (w : World) (B : Nat) (v : Value) (l : List Step) : Prop := w.ownsRow B 46 10 v l.length (l.map Step.cells).flatten

/-- Steps, or what is amiss: as the program tells it, and as the document does. -/
inductive StepsR where
  | yes (l : List Step)
  | no (k : Nat)
def StepsRet (B : Nat) (w' : World) (r : StepsR) (e : Ending) : Prop := match r with
  | .yes s => ∃ a cap, e = .returned (.tuple #[.slice a s.length cap, .nilIface]) ∧ OwnS w' B (.slice a s.length cap) s
  | .no k => e = .returned (.tuple #[.slice none 0 0, errW k])
theorem stepsRet_yes {B B' n : Nat} {w' : World} {r : StepsR} {s : List Step} {v : Value} {xs : List Value} (hr : r = .yes s) (h : w'.ownsRow B' 46 10 v n xs) (hb : B ≤ B') (hn : n = s.length) (hx : xs = (s.map Step.cells).flatten) : StepsRet B w' r (.returned (.tuple #[v, .nilIface])) := by
  obtain ⟨a, cap, rfl⟩ := own_form h
  subst hn hx hr
  exact ⟨a, cap, rfl, own_low h hb⟩
/-- Cells of steps. -/
abbrev CS (l : List Step) : List Value := (l.map Step.cells).flatten
theorem CS_snoc (l : List Step) (s : Step) : CS (l ++ [s]) = CS l ++ s.cells := by simp [CS]
theorem CS_append (l m : List Step) : CS (l ++ m) = CS l ++ CS m := by simp [CS]
theorem CS_one (l : List Step) : (CS l).all Value.oneCell' = true := all_flat Step.cells _ (fun a => rfl) l
/-- The cells of a block of ten. -/
theorem cells10 {w : World} {n : Nat} {T : TypeId} {a0 a1 a2 a3 a4 a5 a6 a7 a8 a9 : Value} (h : w.heap[n]? = some (.cells #[a0, a1, a2, a3, a4, a5, a6, a7, a8, a9] T (0, 0))) :
    w.cell? ⟨n, 0, none⟩ = some a0 ∧ w.cell? ⟨n, 1, none⟩ = some a1 ∧ w.cell? ⟨n, 2, none⟩ = some a2 ∧ w.cell? ⟨n, 3, none⟩ = some a3 ∧ w.cell? ⟨n, 4, none⟩ = some a4 ∧ w.cell? ⟨n, 5, none⟩ = some a5 ∧ w.cell? ⟨n, 6, none⟩ = some a6 ∧ w.cell? ⟨n, 7, none⟩ = some a7 ∧ w.cell? ⟨n, 8, none⟩ = some a8 ∧ w.cell? ⟨n, 9, none⟩ = some a9 ∧ (∀ i, w.frozen? ⟨n, i, none⟩ = false) ∧ n < w.heap.size := by
  have key := fun i => cell_of_row w n i _ _ _ h
  exact ⟨key 0, key 1, key 2, key 3, key 4, key 5, key 6, key 7, key 8, key 9, fun i => frozen_of_row w n i _ _ h, (Array.getElem?_eq_some_iff.1 h).1⟩

end Go.Proofs.Ythcdecgecabgaaa

/- The contract of paviorref12.Same: two rows of the same steps. -/
namespace Go.Proofs.Ythcdecgecabgaaa
open Go.RowKit
set_option linter.unusedVariables false
set_option linter.unusedSimpArgs false
attribute [local go_sem] setCell_drewN alloc_drewN lt_moreE le_moreE lt_moreK le_moreK cell_more frozen_more set_more drew_more drewN_more

/-- The cells of an element. -/
theorem step_at {w : World} {g : Nat} {l : List Step} (h : ∀ i u, ((l.map Step.cells).flatten)[i]? = some u → w.cell? ⟨g, i, none⟩ = some u) (q : Nat) (f : Step) (hq : l[q]? = some f) :
    w.cell? ⟨g, q * 10, none⟩ = some (.int .i64 f.fKind) ∧ w.cell? ⟨g, q * 10 + 1, none⟩ = some (.int .i64 f.fAsid) ∧ w.cell? ⟨g, q * 10 + 2, none⟩ = some (.int .i64 f.fLevel) ∧ w.cell? ⟨g, q * 10 + 3, none⟩ = some (.int .i64 f.fTable) ∧ w.cell? ⟨g, q * 10 + 4, none⟩ = some (.int .i64 f.fPlace) ∧ w.cell? ⟨g, q * 10 + 5, none⟩ = some (.int .i64 f.fFirst) ∧ w.cell? ⟨g, q * 10 + 6, none⟩ = some (.int .u64 f.fValue) ∧ w.cell? ⟨g, q * 10 + 7, none⟩ = some (.int .i64 f.fTo) ∧ w.cell? ⟨g, q * 10 + 8, none⟩ = some (.int .i64 f.fFrom) ∧ w.cell? ⟨g, q * 10 + 9, none⟩ = some (.int .i64 f.fI) := by
  have key := fun j u hj => h (q * 10 + j) u (flatten_at 10 (l.map Step.cells) q j f.cells u (by simp [Step.cells]) (by simp [hq]) hj)
  exact ⟨key 0 _ rfl, key 1 _ rfl, key 2 _ rfl, key 3 _ rfl, key 4 _ rfl, key 5 _ rfl, key 6 _ rfl, key 7 _ rfl, key 8 _ rfl, key 9 _ rfl⟩

set_option maxRecDepth 100000 in
set_option maxHeartbeats 4000000 in
theorem ref12_Same (w : World) {B1 B2 : Nat} {a1 a2 : Option Addr} {c1 c2 : Nat} {s : List Step} (HO1 : OwnS w B1 (.slice a1 s.length c1) s) (HO2 : OwnS w B2 (.slice a2 s.length c2) s) :
    Calls Try.prog 27 #[.slice a1 s.length c1, .slice a2 s.length c2] w fun e w' => Ext w w' ∧ e = .returned (.bool true) := by
  have hc1 := own_cap HO1
  have hc2 := own_cap HO2
  have HA1 := Lib.hid (own_at HO1)
  have HA2 := Lib.hid (own_at HO2)
  have hm1 : c1 ≤ 9223372036854775807 := by have := hc1.2.2; unfold maxLen at this; exact this
  have hm2 : c2 ≤ 9223372036854775807 := by have := hc2.2.2; unfold maxLen at this; exact this
  have hs1 := hc1.2.1
  have hs2 := hc2.2.1
  clear HO1 HO2 hc1 hc2
  go_enter Try.func27, Try.ntmps27
  go_wp2_with fail
  go_loopw [5] (fun i wr => ∃ q : Nat, q ≤ s.length ∧ i = .int .i64 q ∧ Ext w wr) (fun i _ => s.length - (intOf i).toNat)
  case atStart => exact ⟨0, by omega, rfl, Ext.refl _⟩
  case round =>
    obtain ⟨q, hq, rfl, ⟨x, rfl⟩⟩ := hrel
    by_cases hlt : q < s.length
    · obtain ⟨g1, rfl, _, hg1, _, hx1, _⟩ := HA1.out (by omega)
      obtain ⟨g2, rfl, _, hg2, _, hx2, _⟩ := HA2.out (by omega)
      have hz : s[q]? = some s[q] := List.getElem?_eq_getElem hlt
      obtain ⟨x0, x1, x2, x3, x4, x5, x6, x7, x8, x9⟩ := step_at hx1 q _ hz
      obtain ⟨y0, y1, y2, y3, y4, y5, y6, y7, y8, y9⟩ := step_at hx2 q _ hz
      generalize s[q] = z at *
      obtain ⟨F0, F1, F2, F3, F4, F5, F6, F7, F8, F9⟩ := z
      clear hz hx1 hx2 HA1 HA2
      go_wp2_with fail
      go_region
      all_goals go_wp2_with fail
      go_roundw
      case rel => exact ⟨q + 1, by omega, by go_num, (by repeat (first | exact Ext.refl _ | apply Ext.more | apply Ext.alloc | apply Ext.drew | apply Ext.drewN))⟩
      case measure => simp [intOf]; omega
    · obtain rfl : q = s.length := by omega
      go_wp2_with fail
      go_ret
      exact ⟨(by repeat (first | exact Ext.refl _ | apply Ext.more | apply Ext.alloc | apply Ext.drew | apply Ext.drewN)), rfl⟩

end Go.Proofs.Ythcdecgecabgaaa

/- Steps that part a block: plain laws; the contracts of huge.tell, huge.swap, huge.has, paviorref16.step, paviorref16.swap. -/
namespace Go.Proofs.Ythcdecgecabgaaa
open Go.RowKit
set_option linter.unusedVariables false
set_option linter.unusedSimpArgs false
attribute [local go_sem] setCell_drewN alloc_drewN lt_moreE le_moreE lt_moreK le_moreK cell_more frozen_more set_more drew_more drewN_more

def wr0 (asid level table place first v : Int) : Step := ⟨1, asid, level, table, place, first, v, 0, 0, 0⟩
def clearS (f : Int) : Step := ⟨4, 0, 0, 0, 0, 0, 0, f, 0, 0⟩
def dropS (t : Int) : Step := ⟨6, 0, 0, t, 0, 0, 0, 0, 0, 0⟩
/-- The steps that tell pages side by side. -/
def tellsN (asid first : Int) (k : Nat) : List Step := (List.range k).map fun i : Nat => tellS asid (first + (i : Int))
theorem tellsN_succ (asid first : Int) (k : Nat) : tellsN asid first (k + 1) = tellsN asid first k ++ [tellS asid (first + k)] := by unfold tellsN; rw [List.range_succ, List.map_append]; rfl
theorem tellsN_len (asid first : Int) (k : Nat) : (tellsN asid first k).length = k := by simp [tellsN]
def swapS (asid table place first v : Int) : List Step := wr0 asid 2 table place first 0 :: (tellsN asid first 8 ++ [wr0 asid 2 table place first v])
theorem swapS_len (asid table place first v : Int) : (swapS asid table place first v).length = 10 := by simp [swapS, tellsN_len]
def partD (d : Desc) (i : Nat) : Desc := { d with fKind := 3, fFrame := d.fFrame + i }
def partsN (asid fresh first : Int) (d : Desc) (k : Nat) : List Step := (List.range k).map fun i : Nat => wr0 asid 3 fresh i (first + (i : Int)) (encW (partD d i))
theorem partsN_succ (asid fresh first : Int) (d : Desc) (k : Nat) : partsN asid fresh first d (k + 1) = partsN asid fresh first d k ++ [wr0 asid 3 fresh k (first + k) (encW (partD d k))] := by unfold partsN; rw [List.range_succ, List.map_append]; rfl
theorem partsN_len (asid fresh first : Int) (d : Desc) (k : Nat) : (partsN asid fresh first d k).length = k := by simp [partsN]
def splitS (asid fresh : Int) (f : Found) (d : Desc) : List Step := (clearS fresh :: partsN asid fresh f.fFirst d 8) ++ swapS asid f.fTable f.fPlace f.fFirst (fresh * 4096 + 3)
theorem splitS_len (asid fresh : Int) (f : Found) (d : Desc) : (splitS asid fresh f d).length = 19 := by simp [splitS, partsN_len, swapS_len]
/-- A block that a walk found: its word. -/
theorem walk_block {ws : List Int} {n p root : Int} {f : Found} (h : walkAt ws n p 4 0 root = some f) (hk : f.fKind = 2) :
    f.fLevel = 2 ∧ f.fFirst = p - p % 8 ∧ 0 ≤ f.fTable ∧ f.fTable < n ∧ 0 ≤ f.fPlace ∧ f.fPlace < 8 ∧ ∃ d, decD 2 (ws.getD (f.fTable.toNat * 8 + f.fPlace.toNat) 0) = d ∧ okD 2 d = true ∧ d.fKind = 2 := by
  obtain ⟨h1, h2, h3, _, _, _, hf⟩ := walkAt_word 4 0 root f (by omega) (by omega) h
  generalize hd : decD f.fLevel (ws.getD (f.fTable.toNat * 8 + f.fPlace.toNat) 0) = d at hf
  have hkd : d.fKind = 2 := by rw [← hk, hf, (foundD_parts _ _ _ _ _).2.2.2]
  have hl : f.fLevel = 2 := decD_block _ _ (by rw [hd]; exact hkd)
  have hfirst : f.fFirst = p - p % 8 := by rw [hf]; unfold foundD; rw [if_pos hkd]
  rw [hl] at hd
  refine ⟨hl, hfirst, h1, h2, h3 ▸ placeN_lo _ _, h3 ▸ placeN_hi _ _, d, hd, ?_, hkd⟩
  have := (decD_ok (level := 2) (x := ws.getD (f.fTable.toNat * 8 + f.fPlace.toNat) 0) (by rw [hd, hkd]; omega)).1
  rwa [hd] at this
theorem okD_block {d : Desc} (h : okD 2 d = true) (hk : d.fKind = 2) : d.fFold = false ∧ d.fFrame % 8 = 0 ∧ 0 ≤ d.fFrame ∧ d.fFrame + 8 ≤ 512 := by
  obtain ⟨_, _, h0, h1, _, _, h2⟩ := okD_parts h
  unfold mayD at h2
  rw [if_neg (by omega), if_neg (by omega), if_pos hk] at h2
  simp only [Bool.and_eq_true, beq_iff_eq, Bool.not_eq_true'] at h2
  exact ⟨h2.1.2, h2.2, h0, by omega⟩
theorem okD_part {d : Desc} (h : okD 2 d = true) (hk : d.fKind = 2) (i : Nat) (hi : i < 8) : okD 3 (partD d i) = true := by
  obtain ⟨_, _, h0, h1, h3, h4, h2⟩ := okD_parts h
  obtain ⟨hfo, hmod, _, h5⟩ := okD_block h hk
  unfold okD mayD partD
  dsimp only
  simp
  omega
theorem okD_tab {level f : Int} (h0 : 0 ≤ level) (h2 : level ≤ 2) (hf0 : 0 ≤ f) (hf1 : f < 512) : okD level (tableD f) = true := by
  unfold okD mayD tableD
  simp
  omega

/-- Cells of steps, in a row of the call's own. -/
def SlRet (B : Nat) (w' : World) (L : List Step) (n : Nat) (e : Ending) : Prop := ∃ a cap, e = .returned (.slice a n cap) ∧ w'.ownsRow B 46 10 (.slice a n cap) n (CS L)
theorem slRet_mk {B B' m n : Nat} {w' : World} {L : List Step} {v : Value} {xs : List Value} (h : w'.ownsRow B' 46 10 v m xs) (hb : B ≤ B') (hn : m = n) (hx : xs = CS L) : SlRet B w' L n (.returned v) := by
  obtain ⟨a, cap, rfl⟩ := own_form h
  subst hn hx
  exact ⟨a, cap, rfl, own_low h hb⟩
theorem own_lit' {w : World} {B n m sz g : Nat} {xs : List Value} {cs : Array Value} {T : TypeId} (hg : g = w.heap.size) (hB : B ≤ w.heap.size) (h : cs.size = m * sz) (hm : m ≤ 1000) (hn : n = m) (hx : xs = cs.toList) : (w.alloc (.cells cs T)).ownsRow B T sz (.slice (some ⟨g, 0, none⟩) m m) n xs := by
  subst hn hx hg
  exact own_low (own_lit w cs T _ sz h (by unfold maxLen; omega)) hB
/-- As wpList_append_row, in a region that draws its order. -/
theorem step_append_row {P : Program} (W : World) {w : World} {ops : Array Oper} {o : Oper} {a : Act} {K : Act → World → Prop} {Q : Exit → Act → World → Prop} {E : Prop} {t e : TypeId} {z : Value} {size bytes : Nat} (el : ElemAt P t e z size bytes)
    (hgd : o.guard = none) (s x : Operand) (ho : o.op = .call { callee := .builtin .append, args := #[s, x], argTypes := #[t, t] })
    (v : Value) (n : Nat) (xs : List Value) (hs : a.eval s = v) (hown : w.ownsRow W.heap.size e size v n xs) (hW : Ext W w)
    (B2 : Nat) (v2 : Value) (m : Nat) (xs2 : List Value) (hx : a.eval x = v2) (hown2 : w.ownsRow B2 e size v2 m xs2) (hm : 1 ≤ m) (h1 : xs2.all Value.oneCell' = true) (hn : n + m ≤ 1000000)
    (h : ∀ v' x', Hid ((more W x').ownsRow W.heap.size e size v' (n + m) (xs ++ xs2)) → (∀ k ob, w.heap[k]? = some ob → v.ownBlock ≠ some k → (more W x').heap[k]? = some ob) → K (a.put o.dst v') (more W x')) :
    if Region.wanted o (yielded ops a.tmps) = true then Oper.wp P o a w K Q else E := by
  have hw : Region.wanted o (yielded ops a.tmps) = true := by simp [Region.wanted, hgd]
  rw [if_pos hw]
  obtain ⟨i, hi, hz, h3, h4⟩ := info_parts el.info
  have hb : (n + m) * bytes ≤ 1000000 * 1000 := Nat.mul_le_mul hn el.small
  rcases hown2.2 with ⟨_, h0⟩ | ⟨g2, cap2, cur, rfl, _⟩
  · omega
  refine wp_append_own w s x t ho W.heap.size e i z size bytes el.sl hi hz h3 h4 el.zs el.pos v n xs hs hown ⟨g2, 0, none⟩ m cap2 xs2 hx hown2.1
    (hown2.cells (g := g2) rfl) (by intro u hu; exact List.all_eq_true.1 h1 u hu) (by unfold maxLen; omega) (by omega) hW.size ?_
  intro v' w' ho' hg' _
  obtain ⟨x', rfl⟩ := more_of_grow (grow_row hW.grow hown hg')
  exact h v' x' ho' fun k ob hk hne => (hg'.block k (Array.getElem?_eq_some_iff.1 hk).1 (fun e => hne e.symm)).trans hk

end Go.Proofs.Ythcdecgecabgaaa
