import Derived.Test.YtapeoeakiphfpaaRightt
import Derived.Test.YtapeoeakiphfpaaPland
import Derived.Test.YtapeoeakiphfpaaBSemwPathrPathtWipe
import Derived.Test.YtapeoeakiphfpaaBCodeLawgLawhLawe
/- Plain laws behind PlanTwice; the contract of phys.Memory.Store that tells what it keeps. -/
namespace Go.Proofs.Ytapeoeakiphfpaa
open Go.RowKit
set_option linter.unusedVariables false
set_option linter.unusedSimpArgs false

/-- All blocks but those of a memory's frames are kept. -/
def KeepM (w w' : World) : Prop := ∀ (k : Nat) (ob : Obj), w.heap[k]? = some ob → (∀ cs fr, ob ≠ .cells cs 131 fr) → w'.heap[k]? = some ob
theorem own_keepM {w w' : World} {B sz n : Nat} {T : TypeId} {v : Value} {xs : List Value} (k : KeepM w w') (h : w.ownsRow B T sz v n xs) (h1 : T ≠ 131) : w'.ownsRow B T sz v n xs := by
  refine ⟨h.1, h.2.imp id fun ⟨g, cap, cur, a, b, c, d⟩ => ⟨g, cap, cur, a, b, k g _ c (fun cs fr e => by injection e with _ e; exact h1 e), d⟩⟩
theorem phys_Store_keep (w : World) {b g n c : Nat} {ws : List Int} (hm : MemAt w b g n c ws) (f i : Nat) (x : Int) (h1 : f < n) (h2 : i < 8) :
    Calls Try.prog 20 #[.pointer (some ⟨b, 0, none⟩), .int .i64 f, .int .i64 i, .int .u64 x] w fun e w' => e = .returned .nilIface ∧ MemAt w' b g n c (ws.set (f * 8 + i) x) ∧ w.grownBy w' (some g) ∧ KeepM w w' := by
  refine (phys_Store_yes0 w hm f i x h1 h2).mono ?_
  rintro e w' ⟨rfl, rfl⟩
  refine ⟨rfl, hm.put _ _ (by omega), grow_setCell (grow_refl _ _) _ _ (.inr rfl), fun k ob hk hn => ?_⟩
  obtain ⟨cur, hg, _⟩ := hm.row
  have hkg : k ≠ g := by
    rintro rfl
    rw [hg] at hk
    cases hk
    exact hn _ _ rfl
  rw [heap_setCell_other _ _ _ _ hkg]
  exact hk
section
variable {ws : List Int} {n : Nat} {root : Int}
theorem inF_same {a b : Int} {f x : Found} (h1 : ownF f = ownF x) (h2 : f.fKind = x.fKind) : inF a b f = inF a b x := by unfold inF pagesF; rw [h1, h2]
theorem PlanAt.hitF {asid a b : Int} {r : List Int} {l : List Found} (h : PlanAt ws n root asid a b r l) {q : Int} (q0 : 0 ≤ q) (q1 : q < 4096) {x : Found} (hx : walkAt ws n q 4 0 root = some x) : hitP a b q x ↔ (x.fKind = 2 ∨ x.fKind = 3) ∧ inF a b x = true := by
  have key : ∀ (hk : x.fKind = 2 ∨ x.fKind = 3), ∃ f, LeafAt ws n root f ∧ f.fTable = x.fTable ∧ f.fPlace = x.fPlace ∧ inF a b f = inF a b x := by
    intro hk
    obtain ⟨f, hf, e1, e2, e3, e4, e5⟩ := leaf_of q0 q1 hx hk
    obtain ⟨d, _, _, _, hdk, hxx, _⟩ := leaf_word hx hk
    refine ⟨f, hf, e1, e2, inF_same ?_ e4⟩
    rcases e5 with ⟨_, e, _⟩ | ⟨hk2, e⟩
    · rw [e]
    · rw [e, hxx, own_blk (by omega)]
  constructor
  · intro hh
    have hk := hh.2.2
    obtain ⟨f, hf, e1, e2, e3⟩ := key hk
    obtain ⟨g, hg, g1, g2⟩ := (h.hit q0 q1 hx).1 hh
    have hG := h.lv.leaf g hg
    have hfg : ownF g = ownF f := by
      by_cases e : ownF g = ownF f
      · exact e
      · exact absurd ⟨by omega, by omega⟩ (leaf_apart h.lv.hr h.lv.hnd hG hf e)
    have : g = f := by
      have h1 := hG.wk
      rw [hfg, hf.wk] at h1
      exact (Option.some.inj h1).symm
    subst this
    exact ⟨hk, by rw [← e3]; exact (h.inn g hG).1 hg⟩
  · rintro ⟨hk, hi⟩
    obtain ⟨f, hf, e1, e2, e3⟩ := key hk
    exact (h.hit q0 q1 hx).2 ⟨f, (h.inn f hf).2 (by rw [e3]; exact hi), e1, e2⟩
/-- What leaves of pages are told of. -/
theorem leaves_yes {a b asid : Int} {l : List Found} (h : wholeRes asid a b (leavesRes ws n root a b) = .yes l) : 0 ≤ a ∧ a < b ∧ b ≤ 4096 ∧ 0 ≤ asid ∧ asid ≤ 255 ∧ 0 ≤ root ∧ root < n ∧ ∃ all, wholeAt ws n root 4097 0 = some all ∧ l = all.filter (inF a b) ∧ l.any (beyF a b) = false := by
  unfold leavesRes at h
  by_cases h1 : a < 0 ∨ b ≤ a ∨ 4096 < b
  · rw [if_pos h1] at h; cases h
  · rw [if_neg h1] at h
    by_cases h2 : 0 ≤ root ∧ root < n
    · rw [if_neg (by simpa using h2)] at h
      cases hall : wholeAt ws n root 4097 0 with
      | none => rw [hall] at h; cases h
      | some all =>
        rw [hall] at h
        unfold wholeRes at h
        dsimp only at h
        split at h
        · cases h
        · split at h
          · cases h
          · rename_i hb
            injection h with h
            subst h
            exact ⟨by omega, by omega, by omega, by omega, by omega, h2.1, h2.2, all, rfl, rfl, by simpa using hb⟩
    · rw [if_pos (by simpa using h2)] at h; cases h
theorem leaves_mk {a b : Int} {all l : List Found} (a0 : 0 ≤ a) (ab : a < b) (b1 : b ≤ 4096) (r0 : 0 ≤ root) (r1 : root < n) (h : wholeAt ws n root 4097 0 = some all) (hl : all.filter (inF a b) = l) : leavesRes ws n root a b = .yes l := by
  unfold leavesRes
  rw [if_neg (by omega), if_neg (by simp; omega), h]
  dsimp only
  rw [hl]
theorem whole_mk {asid a b : Int} {l : List Found} (s0 : 0 ≤ asid) (s1 : asid ≤ 255) (hl : l.any (beyF a b) = false) : wholeRes asid a b (.yes l) = .yes l := by
  unfold wholeRes
  dsimp only
  rw [if_neg (by omega), if_neg (by simp [hl])]
theorem inF_wx (a b : Int) (wr ex : Bool) (f : Found) : inF a b (wxF wr ex f) = inF a b f := rfl
theorem beyF_wx (a b : Int) (wr ex : Bool) (f : Found) : beyF a b (wxF wr ex f) = beyF a b f := rfl
theorem away_wx (asid : Int) (wr ex : Bool) (l : List Found) : awayL asid (l.map (wxF wr ex)) = awayL asid l := by
  unfold awayL tellA
  rw [List.map_map, List.map_map]
  rfl
theorem rights_wx (ws : List Int) (asid : Int) (wr ex : Bool) (l : List Found) : rightsL ws asid wr ex (l.map (wxF wr ex)) = [] := by
  have : (l.map (wxF wr ex)).filter (chF wr ex) = [] := by
    rw [List.filter_eq_nil_iff]
    intro f hf
    obtain ⟨g, _, rfl⟩ := List.mem_map.1 hf
    unfold chF wxF
    simp
  unfold rightsL setL awayL tellA
  rw [this]
  rfl
/-- The leaves behind the steps of Rights. -/
theorem rights_leaves {a b asid : Int} {r : List Int} {l : List Found} (hl : wholeRes asid a b (leavesRes ws n root a b) = .yes l) (h : PlanAt ws n root asid a b r l) (wr ex : Bool) {vs : List Int} (hw : ∀ q, 0 ≤ q → q < 4096 → ∃ x y, walkAt ws n q 4 0 root = some x ∧ walkAt vs n q 4 0 root = some y ∧ (hitP a b q x → y = wxF wr ex x) ∧ (¬ hitP a b q x → y = x)) :
    wholeRes asid a b (leavesRes vs n root a b) = .yes (l.map (wxF wr ex)) := by
  obtain ⟨a0, ab, b1, s0, s1, r0, r1, all, hall, rfl, hb⟩ := leaves_yes hl
  rw [whole_pages] at hall
  have hm := pages_map (ws := ws) (us := vs) (n := n) (root := root) (fun x => if (x.fKind = 2 ∨ x.fKind = 3) ∧ inF a b x = true then wxF wr ex x else x) (fun q q0 q1 => by
    obtain ⟨x, y, hx, hy, h1, h2⟩ := hw q q0 q1
    refine ⟨x, hx, ?_⟩
    by_cases hc : (x.fKind = 2 ∨ x.fKind = 3) ∧ inF a b x = true
    · rw [if_pos hc, ← h1 ((h.hitF q0 q1 hx).2 hc)]
      have := h1 ((h.hitF q0 q1 hx).2 hc)
      exact ⟨hy, by rw [this]; rfl, by rw [this]; rfl⟩
    · rw [if_neg hc]
      have := h2 (fun hh => hc ((h.hitF q0 q1 hx).1 hh))
      rw [this] at hy
      exact ⟨hy, rfl, rfl⟩) 4097 0 (by omega)
  rw [hall] at hm
  have hin : ∀ x : Found, inF a b (if (x.fKind = 2 ∨ x.fKind = 3) ∧ inF a b x = true then wxF wr ex x else x) = inF a b x := by
    intro x
    split
    · rfl
    · rfl
  obtain ⟨m1, _, _⟩ := pages_mem 4097 0 all (by omega) hall
  rw [leaves_mk (l := (all.filter (inF a b)).map (wxF wr ex)) a0 ab b1 r0 r1 (by rw [whole_pages]; exact hm) ?_]
  · refine whole_mk s0 s1 ?_
    rw [List.any_map]
    exact hb
  · rw [List.filter_map]
    have e1 : (inF a b ∘ fun x : Found => if (x.fKind = 2 ∨ x.fKind = 3) ∧ inF a b x = true then wxF wr ex x else x) = inF a b := funext hin
    rw [e1]
    apply List.map_congr_left
    intro f hf
    obtain ⟨hf1, hf2⟩ := List.mem_filter.1 hf
    rw [if_pos ⟨(m1 f hf1).1.kd, hf2⟩]
/-- No leaves behind the steps of Clear. -/
theorem clear_leaves {a b asid : Int} {r : List Int} {l : List Found} (hl : wholeRes asid a b (leavesRes ws n root a b) = .yes l) (h : PlanAt ws n root asid a b r l) {us : List Int} (hw : ∀ q, 0 ≤ q → q < 4096 → ∃ x y, walkAt ws n q 4 0 root = some x ∧ walkAt us n q 4 0 root = some y ∧ (hitP a b q x → y.fKind = 0) ∧ (¬ hitP a b q x → y = x)) :
    leavesRes us n root a b = .yes [] := by
  obtain ⟨a0, ab, b1, s0, s1, r0, r1, all, hall, rfl, hb⟩ := leaves_yes hl
  obtain ⟨all2, h2⟩ := pages_some (us := us) (n := n) (root := root) (fun q q0 q1 => by
    obtain ⟨x, y, _, hy, _⟩ := hw q q0 q1
    exact ⟨y, hy⟩) 4097 0 (by omega) (by omega) (by omega)
  refine leaves_mk a0 ab b1 r0 r1 (by rw [whole_pages]; exact h2) ?_
  rw [List.filter_eq_nil_iff]
  intro g hg hi
  obtain ⟨m1, _, _⟩ := pages_mem 4097 0 all2 (by omega) h2
  have hG := (m1 g hg).1
  obtain ⟨x, y, hx, hy, h3, h4⟩ := hw (ownF g) hG.o0 hG.o1
  rw [hG.wk] at hy
  obtain rfl := Option.some.inj hy
  by_cases hh : hitP a b (ownF g) x
  · have := h3 hh
    have := hG.kd
    omega
  · have e := h4 hh
    subst e
    exact hh ((h.hitF hG.o0 hG.o1 hx).2 ⟨hG.kd, hi⟩)
/-- Behind the steps of Rights those of Clear turn the same words. -/
theorem clear_after {asid : Int} {r : List Int} {S : List Found} (h : LeavesAt ws n root asid r S) {vs : List Int} (hl : vs.length = n * 8) (hoff : ∀ j, (∀ f ∈ S, idxF f ≠ j) → vs.getD j 0 = ws.getD j 0) :
    Turned ws (doW n vs (awayL asid S)) n root r S ∧ ∀ f ∈ S, (doW n vs (awayL asid S)).getD (idxF f) 0 = 0 := by
  have hW : ∀ s ∈ S.map (wrF asid 0), WrOk n s := by
    intro s hs
    obtain ⟨f, hf, rfl⟩ := List.mem_map.1 hs
    exact (h.leaf f hf).wrOk h.a0 h.a1 h.n1 (by omega) (by omega)
  have hT := tellA_in (asid := asid) h.leaf
  have hd : doW n vs (awayL asid S) = doW n vs (S.map (wrF asid 0)) := by
    unfold awayL
    rw [doW_append, doW_tells _ _ fun x hx => (hT x hx).1]
  refine ⟨⟨h.hr, h.hnd, h.leaf, fun j hj => ?_⟩, fun f hf => ?_⟩
  · rw [hd, writes_off _ _ _ hW fun s hs => ?_]
    · exact hoff j hj
    · obtain ⟨f, hf, rfl⟩ := List.mem_map.1 hs
      exact hj f hf
  · rw [hd]
    exact writes_at _ _ hW (wr_apart h fun _ => 0) hl _ (List.mem_map.2 ⟨f, hf, rfl⟩)
end

end Go.Proofs.Ytapeoeakiphfpaa

/- The head of layer 13's laws; the law paviorlaw13.PlanStays. -/
namespace Go.Proofs.Ytapeoeakiphfpaa
open Go.RowKit
set_option linter.unusedVariables false
set_option linter.unusedSimpArgs false
attribute [local go_sem] setCell_drewN alloc_drewN lt_moreE le_moreE lt_moreK le_moreK cell_more frozen_more set_more drew_more drewN_more

set_option maxHeartbeats 1000000 in
theorem walk_Whole_nil (w : World) (root : Int) :
    Calls Try.prog 99 #[.pointer none, .int .i64 root] w fun e w' => Ext w w' ∧ e = .returned (.tuple #[.slice none 0 0, errW 1]) := by
  have HF := Lib.hid (fun w => extC (walk_Walk_nil w root 0))
  go_enter Try.func99, Try.ntmps99
  go_wp2_with fail
  go_loopw [6, 7] (fun v p wr => v = .slice none 0 0 ∧ p = .int .i64 0 ∧ w = wr) (fun _ _ _ => 0)
  case atStart => exact ⟨rfl, rfl, rfl⟩
  case round =>
    obtain ⟨rfl, rfl, rfl⟩ := hrel
    go_wp2_with fail
    refine (HF.out _).mono ?_
    rintro e w' ⟨⟨ex1, rfl⟩, rfl⟩
    go_wp2_with fail
    go_ret2
    exact ⟨(by repeat (first | exact Ext.refl _ | apply Ext.more | apply Ext.alloc | apply Ext.drew | apply Ext.drewN)), rfl⟩
set_option maxHeartbeats 1000000 in
theorem plan_Leaves_nil (w : World) :
    Calls Try.prog 49 #[.pointer none, .int .i64 0, .int .i64 0, .int .i64 1] w fun e w' => Ext w w' ∧ e = .returned (.tuple #[.slice none 0 0, errW 1]) := by
  go_enter Try.func49, Try.ntmps49
  go_wp2_with fail
  refine (walk_Whole_nil _ 0).mono ?_
  rintro e w' ⟨⟨ex1, rfl⟩, rfl⟩
  go_wp2_with fail
  go_ret2
  exact ⟨(by repeat (first | exact Ext.refl _ | apply Ext.more | apply Ext.alloc | apply Ext.drew | apply Ext.drewN)), rfl⟩
theorem up13 : wholeRes 1 0 4096 (leavesRes (List.replicate 8 0) 1 0 0 4096) = .yes [] := by
  have h : wholeAt (List.replicate 8 0) 1 0 4097 0 = some [] := by decide +kernel
  have h2 : leavesRes (List.replicate 8 0) 1 0 0 4096 = .yes [] := by
    unfold leavesRes
    rw [if_neg (by omega), if_neg (by simp)]
    rw [show ((1 : Nat) : Int) = 1 from rfl, h]
    rfl
  rw [h2]
  rfl

set_option maxRecDepth 100000 in
set_option maxHeartbeats 1000000 in
theorem law13_up (w : World) : Calls Try.prog 46 #[] w fun e w' => Ext w w' ∧ e = .returned (.bool true) := by
  have hU := up13
  have heq := fun (w : World) => eql_err w 1 1
  have hzw : WOk (List.replicate 8 (0 : Int)) := fun x hx => by rw [List.eq_of_mem_replicate hx]; omega
  generalize hZ : List.replicate 8 (0 : Int) = Z at *
  have HU := Lib.hid hU
  have HZ := Lib.hid hZ
  clear hU hZ
  go_enter Try.func46, Try.ntmps46
  go_wp2_with fail
  refine (phys_New_yes _ 1 (by omega) (by omega)).mono ?_
  rintro e w1 ⟨b, g, rfl, hm, hgr, _, _⟩
  rw [show 1 * 8 = 8 from rfl, HZ.out] at hm
  have HM := Lib.hid hm
  obtain ⟨ex0, rfl⟩ := more_of_grow hgr
  have HF := Lib.hid (fun w (hm : MemAt w b g 1 1 Z) => plan_Clear w hm hzw 0 1 0 4096 (by decide) _ HU.out)
  clear hgr hm
  go_wp2_with fail
  refine (HF.out _ (by repeat (first | exact HM.out | apply MemAt.more | apply MemAt.alloc | apply MemAt.drew | apply MemAt.drewN))).mono ?_
  rintro e w' ⟨⟨ex1, rfl⟩, a, cap, rfl, _⟩
  rw [show (awayL 1 []).length = 0 from rfl]
  go_wp2_with fail
  refine (plan_Leaves_nil _).mono ?_
  rintro e w' ⟨⟨ex2, rfl⟩, rfl⟩
  go_wp2_with fail
  go_ret
  exact ⟨(by repeat (first | exact Ext.refl _ | apply Ext.more | apply Ext.alloc | apply Ext.drew | apply Ext.drewN)), rfl⟩

theorem first_clear (asid : Int) (Q : LeavesR) (h : LeavesOk Q) : FirstK 1 (clearRes asid Q) := by
  intro s hs
  cases Q with
  | no k => cases hs
  | yes l =>
    cases hs
    have := tellA_len asid l
    obtain ⟨hl, _⟩ := h l rfl
    refine ⟨by simp [awayL]; omega, fun x hx => ?_⟩
    cases l with
    | nil => simp [awayL, tellA] at hx
    | cons f t => simp [awayL] at hx; rw [← hx]; rfl
/-- What was told of leaves. -/
def ToldF (n : Nat) (ev : Value) (B : Nat) (w' : World) (e : Ending) : Prop := ∃ a cap, e = .returned (.tuple #[.slice a n cap, ev]) ∧ Row w' B 80 11 (.slice a n cap) n ∧ n ≤ cap ∧ cap ≤ maxLen
theorem plan_Clear_any (n : Nat) (ws : List Int) (hw : WOk ws) (root asid a b : Int) (hb : (Lit.int .i64 b).wf = true) : ∃ k ev, k ≤ 900000 ∧ (ev = .nilIface ∨ ∃ k : Nat, ev = errW k) ∧ ∀ w bb g c, MemAt w bb g n c ws → Calls Try.prog 48 #[.pointer (some ⟨bb, 0, none⟩), .int .i64 root, .int .i64 asid, .int .i64 a, .int .i64 b] w fun e w' => Ext w w' ∧ Told 1 k ev w.heap.size w' e :=
  told_any (args := #[.int .i64 root, .int .i64 asid, .int .i64 a, .int .i64 b]) (first_clear asid _ (whole_ok2 (leaves_ok ws n root a b) rfl)) fun w bb g c hm => plan_Clear w hm hw root asid a b hb _ rfl
theorem plan_Leaves_any (n : Nat) (ws : List Int) (hw : WOk ws) (root a b : Int) (hb : (Lit.int .i64 b).wf = true) : ∃ k ev, k ≤ 900000 ∧ (ev = .nilIface ∨ ∃ k : Nat, ev = errW k) ∧ ∀ w bb g c, MemAt w bb g n c ws → Calls Try.prog 49 #[.pointer (some ⟨bb, 0, none⟩), .int .i64 root, .int .i64 a, .int .i64 b] w fun e w' => Ext w w' ∧ ToldF k ev w.heap.size w' e := by
  have hok := leaves_ok ws n root a b
  cases hR : leavesRes ws n root a b with
  | no k => exact ⟨0, _, by omega, .inr ⟨k, rfl⟩, fun w bb g c hm => (plan_Leaves w hm hw root a b hb _ hR).mono fun e w' ⟨h1, h2⟩ => ⟨h1, none, 0, h2, Row.nil _ _ _ _, Nat.le_refl _, by simp⟩⟩
  | yes l =>
    obtain ⟨hl, _⟩ := hok l hR
    refine ⟨l.length, _, by omega, .inl rfl, fun w bb g c hm => (plan_Leaves w hm hw root a b hb _ hR).mono fun e w' ⟨h1, h2⟩ => ?_⟩
    obtain ⟨a, cap, he, ho⟩ := h2
    have hc := own_cap ho
    exact ⟨h1, a, cap, he, .of ho, hc.2.1, hc.2.2⟩
/-- A row's cells at the q-th element of eleven. -/
theorem row_eleven {w : World} {g n : Nat} (h : ∀ j, j < n * 11 → ∃ u, w.cell? ⟨g, j, none⟩ = some u) (q : Nat) (hq : q < n) : ∃ u0 u1 u2 u3 u4 u5 u6 u7 u8 u9 u10, w.cell? ⟨g, q * 11, none⟩ = some u0 ∧ w.cell? ⟨g, q * 11 + 1, none⟩ = some u1 ∧ w.cell? ⟨g, q * 11 + 2, none⟩ = some u2 ∧ w.cell? ⟨g, q * 11 + 3, none⟩ = some u3 ∧ w.cell? ⟨g, q * 11 + 4, none⟩ = some u4 ∧ w.cell? ⟨g, q * 11 + 5, none⟩ = some u5 ∧ w.cell? ⟨g, q * 11 + 6, none⟩ = some u6 ∧ w.cell? ⟨g, q * 11 + 7, none⟩ = some u7 ∧ w.cell? ⟨g, q * 11 + 8, none⟩ = some u8 ∧ w.cell? ⟨g, q * 11 + 9, none⟩ = some u9 ∧ w.cell? ⟨g, q * 11 + 10, none⟩ = some u10 := by
  obtain ⟨u0, h0⟩ := h (q * 11) (by omega)
  obtain ⟨u1, h1⟩ := h (q * 11 + 1) (by omega)
  obtain ⟨u2, h2⟩ := h (q * 11 + 2) (by omega)
  obtain ⟨u3, h3⟩ := h (q * 11 + 3) (by omega)
  obtain ⟨u4, h4⟩ := h (q * 11 + 4) (by omega)
  obtain ⟨u5, h5⟩ := h (q * 11 + 5) (by omega)
  obtain ⟨u6, h6⟩ := h (q * 11 + 6) (by omega)
  obtain ⟨u7, h7⟩ := h (q * 11 + 7) (by omega)
  obtain ⟨u8, h8⟩ := h (q * 11 + 8) (by omega)
  obtain ⟨u9, h9⟩ := h (q * 11 + 9) (by omega)
  obtain ⟨u10, h10⟩ := h (q * 11 + 10) (by omega)
  exact ⟨u0, u1, u2, u3, u4, u5, u6, u7, u8, u9, u10, h0, h1, h2, h3, h4, h5, h6, h7, h8, h9, h10⟩

theorem Row.other {w : World} {B sz n g : Nat} {T : TypeId} {v : Value} (h : Row w B T sz v n) (hg : g < B) (j : Nat) (u : Value) : Row (w.setCell ⟨g, j, none⟩ u) B T sz v n := ⟨_, ownsRow_setCell_below h.choose_spec (a := ⟨g, j, none⟩) hg u⟩

end Go.Proofs.Ytapeoeakiphfpaa

/- Plain: how many steps Clear and Rights tell. -/
namespace Go.Proofs.Ytapeoeakiphfpaa
open Go.RowKit
set_option linter.unusedVariables false
set_option linter.unusedSimpArgs false

theorem rightsL_len (ws : List Int) (asid : Int) (wr ex : Bool) (l : List Found) : (rightsL ws asid wr ex l).length ≤ 10 * l.length := by
  unfold rightsL setL awayL
  have h1 := tellA_len asid (l.filter (chF wr ex))
  have h2 := List.length_filter_le (chF wr ex) l
  simp only [List.length_append, List.length_map]
  omega
theorem awayL_len (asid : Int) (l : List Found) : (awayL asid l).length ≤ 9 * l.length := by
  unfold awayL
  have h1 := tellA_len asid l
  simp only [List.length_append, List.length_map]
  omega

end Go.Proofs.Ytapeoeakiphfpaa
