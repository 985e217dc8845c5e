import Derived.Test.YthcdecgecabgaaaBSemuSemv
import Derived.Test.YthcdecgecabgaaaBStepsSamePart
import Derived.Test.YthcdecgecabgaaaPrune
import Derived.Test.YthcdecgecabgaaaBErrisMovpSplitMergeMergfPathrPatht
import Derived.Test.YthcdecgecabgaaaTabs
import Derived.Test.YthcdecgecabgaaaBMovnInMovs
import Derived.Deep.QuietTactic
import Derived.BigQuiet
/- Plain laws: behind the steps of Path nothing is missing, and walks find what they found; the same behind those of Prune; words stay words. -/
namespace Go.Proofs.Ythcdecgecabgaaa
open Go.RowKit
set_option linter.unusedVariables false
set_option linter.unusedSimpArgs false

/-- Every walk finds what it found, but that where nothing is it may end at another place. -/
def AlikeW (ws us : List Int) (n : Nat) (root : Int) : Prop := ∀ q x, walkAt ws n q 4 0 root = some x → ∃ y, walkAt us n q 4 0 root = some y ∧ y.fKind = x.fKind ∧ (x.fKind ≠ 0 → y = x)
def StepOk (s : Step) : Prop := 0 ≤ s.fValue ∧ s.fValue < 18446744073709551616
theorem WOk_clear {ws : List Int} (h : WOk ws) (f : Nat) : WOk (clearW ws f) := by
  unfold clearW
  repeat refine WOk_set ?_ _ _ (by omega) (by omega)
  exact h
theorem WOk_stepW {n : Nat} {ws : List Int} {s : Step} (h : WOk ws) (hs : StepOk s) : WOk (stepW n ws s) := by
  unfold stepW
  split
  · split
    · exact WOk_set h _ _ hs.1 hs.2
    · exact h
  · split
    · split
      · exact WOk_clear h _
      · exact h
    · split
      · split
        · exact WOk_set h _ _ (h.getD _).1 (h.getD _).2
        · exact h
      · exact h
theorem WOk_doW {n : Nat} : ∀ (l : List Step) (ws : List Int), WOk ws → (∀ s ∈ l, StepOk s) → WOk (doW n ws l) := by
  intro l
  induction l with
  | nil => intro ws h _; exact h
  | cons s l ih => intro ws h hs; rw [doW_cons]; exact ih _ (WOk_stepW h (hs s (.head _))) fun x hx => hs x (.tail _ hx)
theorem pathS_ok (asid page : Int) : ∀ (fs : List Int) (l : Nat) (tb pl : Int), (∀ f ∈ fs, 0 ≤ f ∧ f < 512) → ∀ s ∈ (pathS asid page l tb pl fs).1, StepOk s := by
  intro fs
  induction fs with
  | nil => intro l tb pl _ s hs; cases hs
  | cons f fs ih =>
    intro l tb pl hf s hs
    simp only [pathS, List.mem_cons] at hs
    have h0 := hf f (.head _)
    rcases hs with rfl | rfl | hs
    · exact ⟨show (0 : Int) ≤ 0 by omega, show (0 : Int) < 18446744073709551616 by omega⟩
    · exact ⟨by show 0 ≤ f * 4096 + 3; omega, by show f * 4096 + 3 < _; omega⟩
    · exact ih _ _ _ (fun x hx => hf x (.tail _ hx)) s hs
theorem pruneS_ok (ws : List Int) (asid page : Int) (way : List (Int × Int)) : ∀ (l : Nat) (but : Int), ∀ s ∈ (pruneS ws asid page way l but).1, StepOk s := by
  intro l
  induction l with
  | zero => intro but s hs; cases hs
  | succ l ih =>
    intro but s hs
    unfold pruneS at hs
    split at hs
    · simp only [List.mem_cons] at hs
      rcases hs with rfl | rfl | rfl | hs
      · exact ⟨show (0 : Int) ≤ 0 by omega, show (0 : Int) < 18446744073709551616 by omega⟩
      · exact ⟨show (0 : Int) ≤ 0 by omega, show (0 : Int) < 18446744073709551616 by omega⟩
      · exact ⟨show (0 : Int) ≤ 0 by omega, show (0 : Int) < 18446744073709551616 by omega⟩
      · exact ih _ s hs
    · cases hs
theorem pruneS_len (ws : List Int) (asid page : Int) (way : List (Int × Int)) : ∀ (l : Nat) (but : Int), (pruneS ws asid page way l but).1.length ≤ 3 * l := by
  intro l
  induction l with
  | zero => intro but; simp [pruneS]
  | succ l ih =>
    intro but
    unfold pruneS
    split
    · have := ih (way.getD l (0, 0)).2
      simp only [List.length_cons]
      omega
    · simp
theorem pruneG_len (ws : List Int) (asid page : Int) (way : List (Int × Int)) : ∀ (l : Nat) (but : Int), (pruneS ws asid page way l but).2.length ≤ l := by
  intro l
  induction l with
  | zero => intro but; simp [pruneS]
  | succ l ih =>
    intro but
    unfold pruneS
    split
    · have := ih (way.getD l (0, 0)).2
      simp only [List.length_cons]
      omega
    · simp
theorem goodF_all {n : Nat} {l : List Int} (h : ¬ l.all (goodF n) = false) : ∀ f ∈ l, 0 ≤ f ∧ f < n := by
  intro f hf
  have h1 : l.all (goodF n) = true := by simpa using h
  simpa [goodF] using List.all_eq_true.1 h1 f hf
/-- What stands where Path told steps. -/
theorem path_parts {n L : Nat} {asid page : Int} {fresh : List Int} {w : Option (List (Int × Int) × Desc)} {st : List Step} {t : Int × Int} (hR : pathRes n asid page L fresh w = .yes st t) :
    ∃ s d, w = some (s, d) ∧ st = (pathS asid page (s.length - 1) (lastS s).1 (lastS s).2 (fresh.take (L + 1 - s.length))).1 ∧ (L + 1 - s.length ≠ 0 → d.fKind = 0) ∧ (∀ f ∈ fresh, 0 ≤ f ∧ f < n) ∧ L + 1 - s.length ≤ fresh.length ∧ 0 ≤ asid ∧ asid ≤ 255 := by
  cases w with
  | none => cases hR
  | some p =>
    obtain ⟨s, d⟩ := p
    unfold pathRes at hR
    dsimp only at hR
    split at hR
    · cases hR
    · rename_i h1
      split at hR
      · cases hR
      · rename_i h2
        split at hR
        · cases hR
        · rename_i h3
          split at hR
          · cases hR
          · rename_i h4
            injection hR with h5 h6
            refine ⟨s, d, rfl, h5.symm, fun h => ?_, goodF_all h3, by omega, by omega, by omega⟩
            exact Classical.byContradiction fun hk => h1 ⟨by omega, hk⟩
theorem path_keeps {ws : List Int} {n L : Nat} {root asid page : Int} {fresh r : List Int} {st : List Step} {t : Int × Int} (hn : n ≤ 512) (hw : ws.length = n * 8) (r0 : 0 ≤ root) (r1 : root < n) (l1 : L < 4) (hr : tabsAt ws n 4 0 root = some r) (hnd : (r ++ fresh).Nodup)
    (hR : pathRes n asid page L fresh (wayAt ws n page (L + 1) 0 root) = .yes st t) :
    needP L (wayAt (doW n ws st) n page (L + 1) 0 root) = (0, 0) ∧ AlikeW ws (doW n ws st) n root ∧ (∀ s ∈ st, StepOk s) ∧ st.length ≤ 10 := by
  obtain ⟨s, d, hs, rfl, hd, hf, hl, _, _⟩ := path_parts hR
  obtain ⟨q0, q1⟩ := wayAt_len _ _ _ _ _ hs
  have hfs : (fresh.take (L + 1 - s.length)).length = L + 1 - s.length := by rw [List.length_take]; omega
  have hnd' : (r ++ fresh.take (L + 1 - s.length)).Nodup := by
    obtain ⟨a, b, c⟩ := List.nodup_append.1 hnd
    exact List.nodup_append.2 ⟨a, b.sublist (List.take_sublist _ _), fun x hx y hy => c x hx y ((List.take_sublist _ _).subset hy)⟩
  have hin : ∀ f ∈ fresh.take (L + 1 - s.length), 0 ≤ f ∧ f < n := fun f h => hf f ((List.take_sublist _ _).subset h)
  have hB := path_behind (asid := asid) hn hw r0 r1 l1 hr hnd' hs (fun h => hd fun h0 => h (List.eq_nil_of_length_eq_zero (by omega))) (by omega) hin
  refine ⟨?_, hB.walks, pathS_ok _ _ _ _ _ _ fun f h => ⟨(hin f h).1, by have := (hin f h).2; omega⟩, by rw [pathS_len]; omega⟩
  by_cases h0 : fresh.take (L + 1 - s.length) = []
  · rw [h0] at hfs ⊢
    simp only [List.length_nil] at hfs
    show needP L (wayAt ws n page (L + 1) 0 root) = _
    rw [hs]
    unfold needP
    dsimp only
    rw [if_neg (by intro h; omega)]
    congr 1
    omega
  · have := hB.way 0 (by omega) h0
    rw [show s.length + (fresh.take (L + 1 - s.length)).length + 0 = L + 1 by omega] at this
    rw [this]
    have hlen : (s ++ chainS page (s.length : Int) (fresh.take (L + 1 - s.length))).length = L + 1 := by rw [List.length_append, chainS_len]; omega
    unfold needP
    dsimp only
    rw [hlen, if_neg (by intro h; omega)]
    congr 1
    omega
theorem prune_parts {ws : List Int} {asid page : Int} {w : Option (List (Int × Int) × Desc)} {st : List Step} {gone : List Int} (hR : pruneRes ws asid page w = .yes st gone) :
    ∃ s d, w = some (s, d) ∧ st = (pruneS ws asid page s (s.length - 1) (-1)).1 ∧ gone = (pruneS ws asid page s (s.length - 1) (-1)).2 := by
  cases w with
  | none => cases hR
  | some p =>
    obtain ⟨s, d⟩ := p
    unfold pruneRes at hR
    dsimp only at hR
    split at hR
    · cases hR
    · injection hR with h5 h6
      exact ⟨s, d, rfl, h5.symm, h6.symm⟩
theorem prune_keeps {ws : List Int} {n : Nat} {root asid page : Int} {r : List Int} {st : List Step} {gone : List Int} (hn : n ≤ 512) (hw : ws.length = n * 8) (r0 : 0 ≤ root) (r1 : root < n) (hr : tabsAt ws n 4 0 root = some r) (hnd : r.Nodup)
    (hR : pruneRes ws asid page (wayAt ws n page 4 0 root) = .yes st gone) : AlikeW ws (doW n ws st) n root ∧ (∀ s ∈ st, StepOk s) ∧ st.length ≤ 10 := by
  obtain ⟨s, d, hs, rfl, _⟩ := prune_parts hR
  have h4 := wayAt_len _ _ _ _ _ hs
  exact ⟨fun q x hx => prune_behind hn hw r0 r1 hr hnd hs q x hx, pruneS_ok _ _ _ _ _ _, by have := pruneS_len ws asid page s (s.length - 1) (-1); omega⟩

end Go.Proofs.Ythcdecgecabgaaa

/- The contract of paviorref12.Same once more: it only draws. -/
namespace Go.Proofs.Ythcdecgecabgaaa
open Go.RowKit
set_option linter.unusedVariables false
set_option linter.unusedSimpArgs false
attribute [local go_sem] setCell_drewN alloc_drewN lt_moreE le_moreE lt_moreK le_moreK cell_more frozen_more set_more drew_more drewN_more

set_option maxRecDepth 100000 in
set_option maxHeartbeats 4000000 in
theorem ref12_SameQ (w : World) {B1 B2 : Nat} {a1 a2 : Option Addr} {c1 c2 : Nat} {s : List Step} (HO1 : OwnS w B1 (.slice a1 s.length c1) s) (HO2 : OwnS w B2 (.slice a2 s.length c2) s) :
    Calls Try.prog 27 #[.slice a1 s.length c1, .slice a2 s.length c2] w fun e w' => e = .returned (.bool true) ∧ ∃ m, w' = w.drewN m := by
  have hc1 := own_cap HO1
  have hc2 := own_cap HO2
  have HA1 := Lib.hid (own_at HO1)
  have HA2 := Lib.hid (own_at HO2)
  have hm1 : c1 ≤ 9223372036854775807 := by have := hc1.2.2; unfold maxLen at this; exact this
  have hm2 : c2 ≤ 9223372036854775807 := by have := hc2.2.2; unfold maxLen at this; exact this
  have hs1 := hc1.2.1
  have hs2 := hc2.2.1
  clear HO1 HO2 hc1 hc2
  go_enter Try.func27, Try.ntmps27
  go_wp2_with fail
  go_loopw [5] (fun i wr => ∃ q : Nat, q ≤ s.length ∧ i = .int .i64 q ∧ ∃ m, wr = w.drewN m) (fun i _ => s.length - (intOf i).toNat)
  case atStart => exact ⟨0, by omega, rfl, 0, rfl⟩
  case round =>
    obtain ⟨q, hq, rfl, m, rfl⟩ := hrel
    by_cases hlt : q < s.length
    · obtain ⟨g1, rfl, _, hg1, _, hx1, _⟩ := HA1.out (by omega)
      obtain ⟨g2, rfl, _, hg2, _, hx2, _⟩ := HA2.out (by omega)
      have hz : s[q]? = some s[q] := List.getElem?_eq_getElem hlt
      obtain ⟨x0, x1, x2, x3, x4, x5, x6, x7, x8, x9⟩ := step_at hx1 q _ hz
      obtain ⟨y0, y1, y2, y3, y4, y5, y6, y7, y8, y9⟩ := step_at hx2 q _ hz
      generalize s[q] = z at *
      obtain ⟨F0, F1, F2, F3, F4, F5, F6, F7, F8, F9⟩ := z
      clear hz hx1 hx2 HA1 HA2
      go_wp2_with fail
      go_region
      all_goals go_wp2_with fail
      go_roundw
      case rel => exact ⟨q + 1, by omega, by go_num, m + 1, rfl⟩
      case measure => simp [intOf]; omega
    · obtain rfl : q = s.length := by omega
      go_wp2_with fail
      go_ret
      exact ⟨rfl, m, rfl⟩

end Go.Proofs.Ythcdecgecabgaaa

/- The law paviorlaw12.TreeStays. -/
namespace Go.Proofs.Ythcdecgecabgaaa
open Go.RowKit
set_option linter.unusedVariables false
set_option linter.unusedSimpArgs false
attribute [local go_sem] setCell_drewN alloc_drewN lt_moreE le_moreE lt_moreK le_moreK cell_more frozen_more set_more drew_more drewN_more

theorem tabs_head {ws : List Int} {n : Int} {k : Nat} {level t : Int} {r : List Int} (h : tabsAt ws n (k + 1) level t = some r) : r[0]? = some t := by
  by_cases ht : 0 ≤ t ∧ t < n
  · rw [tabsAt_in ht] at h
    have key : ∀ (j i : Nat), i + j = 8 → ∀ (l r : List Int), tabsFrom ws n k level t i l = some r → ∃ m, r = l ++ m := by
      intro j
      induction j with
      | zero =>
        intro i hi l r hr
        obtain rfl : i = 8 := by omega
        rw [tabsFrom_end] at hr
        cases hr
        exact ⟨[], by simp⟩
      | succ j ihj =>
        intro i hi l r hr
        by_cases hk : (decD level (ws.getD (t.toNat * 8 + i) 0)).fKind = 1
        · cases hm : tabsAt ws n k (level + 1) (decD level (ws.getD (t.toNat * 8 + i) 0)).fFrame with
          | none => rw [tabsFrom_no (by omega) rfl hk hm] at hr; cases hr
          | some m =>
            rw [tabsFrom_go (by omega) rfl hk hm] at hr
            obtain ⟨m', rfl⟩ := ihj (i + 1) (by omega) _ _ hr
            exact ⟨m ++ m', by simp⟩
        · rw [tabsFrom_skip (by omega) rfl hk] at hr
          exact ihj (i + 1) (by omega) _ _ hr
    obtain ⟨m, rfl⟩ := key 8 0 rfl [t] r h
    rfl
  · rw [tabsAt_out ht] at h; cases h

def ErrOr (ev : Value) : Prop := ev = .nilIface ∨ ∃ k : Nat, ev = errW k
theorem err_nil {ev : Value} (h : ErrOr ev) : ∃ b : Bool, (∀ w, (binOp .eql 33 ev .nilIface).run Try.prog w = .ok (.bool b) w) ∧ ∀ x c w, (eqGuard .eql 33 x (.const c) ev .nilIface).run Try.prog w = .ok () w := by
  have h1 : ∀ (w : World) (d : Nat) (tp : TypeId) (v : Value), (Op.equalIn (d + 1) 33 (.iface tp v) .nilIface).run Try.prog w = .ok false w := fun w d tp v => by simp [Op.equalIn, run_underlying Try.underlying33]
  have h2 : ∀ (w : World) (d : Nat), (Op.equalIn (d + 1) 33 .nilIface .nilIface).run Try.prog w = .ok true w := fun w d => by simp [Op.equalIn, run_underlying Try.underlying33]
  rcases h with rfl | ⟨k, rfl⟩
  · exact ⟨true, fun w => by simp only [binOp]; simp [Op.equal, Op.maxDepth, h2 w 9999], fun x c w => by simp [eqGuard]⟩
  · exact ⟨false, fun w => by simp only [binOp]; simp [Op.equal, Op.maxDepth, h1 w 9999], fun x c w => by simp [eqGuard]⟩
def ToldPath (s : List Step) (t : Int × Int) (ev : Value) (B : Nat) (w' : World) (e : Ending) : Prop := ∃ a cap, e = .returned (.tuple #[.slice a s.length cap, .agg #[.int .i64 t.1, .int .i64 t.2], ev]) ∧ OwnS w' B (.slice a s.length cap) s
def ToldPrune (s : List Step) (k : Nat) (ev : Value) (B : Nat) (w' : World) (e : Ending) : Prop := ∃ a cap a2 cap2, e = .returned (.tuple #[.slice a s.length cap, .slice a2 k cap2, ev]) ∧ OwnS w' B (.slice a s.length cap) s
def ToldTabs (t : List Int) (ev : Value) (B : Nat) (w' : World) (e : Ending) : Prop := ∃ a cap, e = .returned (.tuple #[.slice a t.length cap, ev]) ∧ w'.ownsRow B 3 1 (.slice a t.length cap) t.length (t.map intC).flatten
end Go.Proofs.Ythcdecgecabgaaa

/- Path, Prune, Tables and Need of any arguments whatever; no number twice in a list. -/
namespace Go.Proofs.Ythcdecgecabgaaa
open Go.RowKit
set_option linter.unusedVariables false
set_option linter.unusedSimpArgs false
attribute [local go_sem] setCell_drewN alloc_drewN lt_moreE le_moreE lt_moreK le_moreK cell_more frozen_more set_more drew_more drewN_more

def tabsQ (ws : List Int) (n : Nat) (root : Int) : Option (List Int) := if 0 ≤ root ∧ root < n then tabsAt ws n 4 0 root else none
def TabsQ (B : Nat) (w' : World) (r : Option (List Int)) (e : Ending) : Prop := match r with
  | some s => ∃ a cap, e = .returned (.tuple #[.slice a s.length cap, .nilIface]) ∧ w'.ownsRow B 3 1 (.slice a s.length cap) s.length (s.map intC).flatten
  | none => ∃ k : Nat, e = .returned (.tuple #[.slice none 0 0, errW k])
theorem tabsQ_some {ws : List Int} {n : Nat} {root : Int} {s : List Int} (h : tabsQ ws n root = some s) : 0 ≤ root ∧ root < n ∧ tabsAt ws n 4 0 root = some s := by
  unfold tabsQ at h
  split at h
  · rename_i h1; exact ⟨h1.1, h1.2, h⟩
  · cases h
def pathQ (ws : List Int) (n : Nat) (root asid page level : Int) (fresh : List Int) : PathR :=
  if 0 ≤ root ∧ root < n ∧ 0 ≤ page ∧ page < 4096 ∧ 1 ≤ level ∧ level < 4 then pathRes n asid page level.toNat fresh (wayAt ws n page (level.toNat + 1) 0 root) else .no 1
theorem pathQ_yes {ws : List Int} {n : Nat} {root asid page level : Int} {fresh : List Int} {st : List Step} {t : Int × Int} (h : pathQ ws n root asid page level fresh = .yes st t) :
    ∃ L : Nat, level = L ∧ 0 ≤ root ∧ root < n ∧ 0 ≤ page ∧ page < 4096 ∧ 1 ≤ L ∧ L < 4 ∧ pathRes n asid page L fresh (wayAt ws n page (L + 1) 0 root) = .yes st t := by
  unfold pathQ at h
  split at h
  · rename_i h1
    obtain ⟨L, rfl⟩ := Int.eq_ofNat_of_zero_le (show 0 ≤ level by omega)
    exact ⟨L, rfl, by omega, by omega, by omega, by omega, by omega, by omega, h⟩
  · cases h
def pruneQ (ws : List Int) (n : Nat) (root asid page : Int) : PruneR :=
  if 0 ≤ root ∧ root < n ∧ 0 ≤ page ∧ page < 4096 then pruneRes ws asid page (wayAt ws n page 4 0 root) else .no 1
theorem pruneQ_yes {ws : List Int} {n : Nat} {root asid page : Int} {st : List Step} {gone : List Int} (h : pruneQ ws n root asid page = .yes st gone) :
    0 ≤ root ∧ root < n ∧ 0 ≤ page ∧ page < 4096 ∧ pruneRes ws asid page (wayAt ws n page 4 0 root) = .yes st gone := by
  unfold pruneQ at h
  split at h
  · rename_i h1; exact ⟨h1.1, h1.2.1, h1.2.2.1, h1.2.2.2, h⟩
  · cases h
/-- No two of the first k are the same. -/
def Unlike (l : List Int) (k : Nat) : Prop := ∀ i j : Nat, i < j → j < k → l.getD i 0 ≠ l.getD j 0
/-- The k-th is none of the first q. -/
def UnlikeAt (l : List Int) (k q : Nat) : Prop := ∀ i : Nat, i < q → l.getD i 0 ≠ l.getD k 0
theorem unlike_zero (l : List Int) : Unlike l 0 := fun i j _ h => absurd h (by omega)
theorem unlikeAt_zero (l : List Int) (k : Nat) : UnlikeAt l k 0 := fun i h => absurd h (by omega)
theorem unlikeAt_succ {l : List Int} {k q : Nat} (h : UnlikeAt l k q) (hne : l.getD q 0 ≠ l.getD k 0) : UnlikeAt l k (q + 1) := by
  intro i hi
  by_cases e : i = q
  · subst e; exact hne
  · exact h i (by omega)
theorem unlike_succ {l : List Int} {k : Nat} (h : Unlike l k) (hk : UnlikeAt l k k) : Unlike l (k + 1) := by
  intro i j hij hj
  by_cases e : j = k
  · subst e; exact hk i hij
  · exact h i j hij (by omega)
theorem unlike_nodup {l : List Int} (h : Unlike l l.length) : l.Nodup := by
  rw [List.nodup_iff_pairwise_ne, List.pairwise_iff_getElem]
  intro i j hi hj hij
  have := h i j hij hj
  simpa [List.getD, List.getElem?_eq_getElem hi, List.getElem?_eq_getElem hj] using this
theorem ints_cell {w : World} {B n cap : Nat} {a : Option Addr} {l : List Int} (h : w.ownsRow B 3 1 (.slice a n cap) n (l.map intC).flatten) (hn : 0 < n) (hl : n = l.length) : ∃ g, a = some ⟨g, 0, none⟩ ∧ B ≤ g ∧ g < w.heap.size ∧ n ≤ cap ∧ cap ≤ maxLen ∧ ∀ i, i < n → w.cell? ⟨g, i, none⟩ = some (.int .i64 (l.getD i 0)) := by
  have hc := own_cap h
  obtain ⟨g, rfl, h1, h2, h3, h4, _⟩ := own_at h hn
  refine ⟨g, rfl, h1, h2, h3, hc.2.2, fun i hi => h4 i _ (flat_one (fun x => Value.int .i64 x) l i _ ?_)⟩
  rw [List.getElem?_eq_getElem (by omega)]
  simp [List.getD, List.getElem?_eq_getElem (show i < l.length by omega)]

end Go.Proofs.Ythcdecgecabgaaa
