import Derived.Test.YthcdecgecabgaaaBBacpSplpKeyKez
import Derived.Test.YthcdecgecabgaaaDo
/- The watch (bbm.Watch): how it lies in memory; its map's walks; tell. -/
namespace Go.Proofs.Ythcdecgecabgaaa
open Go.RowKit
open Go.ChangeMaps (setBlock)
set_option linter.unusedVariables false
set_option linter.unusedSimpArgs false
attribute [local go_sem] setCell_drewN alloc_drewN lt_moreE le_moreE lt_moreK le_moreK cell_more frozen_more set_more drew_more drewN_more

/-- What became of an open place. -/
structure Gap where
  t : Int
  p : Int
  asid : Int
  level : Int
  first : Int
  told : List Bool
  last : Int
  tb : Nat
  born : Nat
  deriving DecidableEq
/-- How many of its pages aren't told. -/
def Gap.left (g : Gap) : Nat := g.told.count false
def Gap.val (g : Gap) : Value := .agg #[.int .i64 g.asid, .int .i64 g.level, .int .i64 g.first, .int .i64 g.left, .slice (some ⟨g.tb, 0, none⟩) g.told.length g.told.length, .int .u64 g.last]
def Gap.ke (g : Gap) : KE := ⟨g.t, g.p, g.val, g.born⟩
def boolsV (l : List Bool) : Array Value := (l.map Value.bool).toArray
/-- A watch of the call's own (behind block B): its header at wb, its map at mb. -/
structure WatchAt (w : World) (B wb mb : Nat) (gs : List Gap) (clock : Nat) (br : Bool) : Prop where
  hdr : w.heap[wb]? = some (.cells #[.map (some mb), .bool br] 137 (0, 0))
  map : w.heap[mb]? = some (.map (entsK (gs.map Gap.ke)) clock)
  told : ∀ g ∈ gs, w.heap[g.tb]? = some (.cells (boolsV g.told) 4 (0, 0))
  tbs : (gs.map Gap.tb).Nodup
  borns : (gs.map Gap.born).Nodup
  keys : (gs.map fun g => (g.t, g.p)).Nodup
  fst : ∀ g ∈ gs, 0 ≤ g.first ∧ g.first < 4096
  old : ∀ g ∈ gs, g.born < clock
  len : ∀ g ∈ gs, g.told.length ≤ 512
  wbB : B ≤ wb
  mbB : B ≤ mb
  tbB : ∀ g ∈ gs, B ≤ g.tb
/-- A block that is no part of a watch. -/
def NotG (ob : Obj) : Prop := (∀ es c, ob ≠ .map es c) ∧ ∀ cs fr, ob ≠ .cells cs 4 fr ∧ ob ≠ .cells cs 137 fr
def KeepG (w w' : World) : Prop := ∀ (k : Nat) (ob : Obj), w.heap[k]? = some ob → NotG ob → w'.heap[k]? = some ob
theorem notG_of {cs : Array Value} {T : TypeId} {fr : Nat × Nat} (h1 : T ≠ 4) (h2 : T ≠ 137) : NotG (.cells cs T fr) := ⟨fun _ _ e => (by cases e), fun cs' fr' => ⟨fun e => by injection e with _ e; exact h1 e, fun e => by injection e with _ e; exact h2 e⟩⟩
theorem KeepG.refl (w : World) : KeepG w w := fun _ _ h _ => h
theorem KeepG.trans {a b c : World} (h : KeepG a b) (k : KeepG b c) : KeepG a c := fun q ob hq hn => k q ob (h q ob hq hn) hn
theorem KeepG.ext {w w' : World} (h : Ext w w') : KeepG w w' := fun k ob hk _ => (h.grow.block k (Array.getElem?_eq_some_iff.1 hk).1 (by simp)).trans hk
theorem KeepG.grow {w w' : World} {g : Nat} {ob : Obj} (h : w.grownBy w' (some g)) (hg : w.heap[g]? = some ob) (hn : ¬ NotG ob) : KeepG w w' := by
  intro k o hk hno
  refine (h.block k (Array.getElem?_eq_some_iff.1 hk).1 ?_).trans hk
  intro e
  injection e with e
  subst e
  rw [hg] at hk
  cases hk
  exact hn hno
theorem own_keepG {w w' : World} {B sz n : Nat} {T : TypeId} {v : Value} {xs : List Value} (k : KeepG w w') (h : w.ownsRow B T sz v n xs) (h1 : T ≠ 4) (h2 : T ≠ 137) : w'.ownsRow B T sz v n xs := by
  refine ⟨h.1, h.2.imp id fun ⟨g, cap, cur, a, b, c, d⟩ => ⟨g, cap, cur, a, b, k g _ c (notG_of h1 h2), d⟩⟩
theorem RefAt.keepG {w w' : World} {h hc n : Nat} {gb gc : Nat → Nat} {us : List Int} (r : RefAt w h hc n gb gc us) (k : KeepG w w') : RefAt w' h hc n gb gc us :=
  { r with
    head := by
      obtain ⟨cur, h1, h2⟩ := r.head
      exact ⟨cur, k _ _ h1 (notG_of (by decide) (by decide)), h2⟩
    row := fun i hi => by
      obtain ⟨cur, h1, h2⟩ := r.row i hi
      exact ⟨cur, k _ _ h1 (notG_of (by decide) (by decide)), h2⟩ }
section
variable {w w' : World} {B wb mb clock : Nat} {gs : List Gap} {br : Bool}
/-- A watch stays where words turn. -/
theorem WatchAt.keepW (h : WatchAt w B wb mb gs clock br) (k : KeepW w w') : WatchAt w' B wb mb gs clock br :=
  { h with
    hdr := k _ _ h.hdr (notW_of (by decide) (by decide))
    map := k _ _ h.map fun cs fr => ⟨fun e => (by cases e), fun e => (by cases e)⟩
    told := fun g hg => k _ _ (h.told g hg) (notW_of (by decide) (by decide)) }
theorem WatchAt.ext (h : WatchAt w B wb mb gs clock br) (k : Ext w w') : WatchAt w' B wb mb gs clock br := h.keepW (KeepW.ext k)
theorem WatchAt.ne (h : WatchAt w B wb mb gs clock br) : wb ≠ mb := by
  intro e
  have := h.hdr
  rw [e, h.map] at this
  cases this
theorem WatchAt.ne_tb (h : WatchAt w B wb mb gs clock br) {g : Gap} (hg : g ∈ gs) : g.tb ≠ wb ∧ g.tb ≠ mb := by
  have h1 := h.told g hg
  refine ⟨fun e => ?_, fun e => ?_⟩
  · rw [e, h.hdr] at h1
    simp at h1
  · rw [e, h.map] at h1
    cases h1
end
theorem inj_nodup {α β : Type} {f : α → β} : ∀ {l : List α}, (l.map f).Nodup → ∀ {a b : α}, a ∈ l → b ∈ l → f a = f b → a = b := by
  intro l
  induction l with
  | nil => intro _ a b ha; cases ha
  | cons x l ih =>
    intro h a b ha hb e
    obtain ⟨h1, h2⟩ := List.nodup_cons.1 h
    rcases List.mem_cons.1 ha with ea | ha
    · rcases List.mem_cons.1 hb with eb | hb
      · rw [ea, eb]
      · exact absurd (List.mem_map.2 ⟨b, hb, by rw [← e, ea]⟩) h1
    · rcases List.mem_cons.1 hb with eb | hb
      · exact absurd (List.mem_map.2 ⟨a, ha, by rw [e, eb]⟩) h1
      · exact ih h2 ha hb e
/-- One gap in the place of that of the same place. -/
def repl (g : Gap) (l : List Gap) : List Gap := l.map fun h => if h.t = g.t ∧ h.p = g.p then g else h
theorem findK_ke (t p : Int) : ∀ (l : List Gap), findK t p (l.map Gap.ke) = l.findIdx? fun g => decide (g.t = t ∧ g.p = p) := by
  intro l
  induction l with
  | nil => rfl
  | cons g l ih =>
    rw [List.map_cons, findK_cons, ih, List.findIdx?_cons]
    have e : KE.is t p g.ke = decide (g.t = t ∧ g.p = p) := by
      rw [Bool.eq_iff_iff]
      simp only [KE.is, Gap.ke, Bool.and_eq_true, beq_iff_eq, decide_eq_true_eq]
      exact ⟨fun h => ⟨h.1.symm, h.2.symm⟩, fun h => ⟨h.1.symm, h.2.symm⟩⟩
    rw [e]
theorem setK_repl (g : Gap) (clock : Nat) : ∀ (l : List Gap) (h : Gap), (l.map fun g => (g.t, g.p)).Nodup → h ∈ l → h.t = g.t → h.p = g.p → h.born = g.born → setK g.t g.p g.val clock (l.map Gap.ke) = (repl g l).map Gap.ke ∧ clockK g.t g.p clock (l.map Gap.ke) = clock := by
  intro l
  induction l with
  | nil => intro h _ hm; cases hm
  | cons x l ih =>
    intro h hn hm ht hp hb
    obtain ⟨h1, h2⟩ := List.nodup_cons.1 hn
    unfold setK clockK
    rw [findK_ke, List.findIdx?_cons]
    by_cases hx : x.t = g.t ∧ x.p = g.p
    · have hxh : x = h := by
        rcases List.mem_cons.1 hm with e | hm
        · exact e.symm
        · exact absurd (List.mem_map.2 ⟨h, hm, by show (h.t, h.p) = (x.t, x.p); rw [ht, hp, hx.1, hx.2]⟩) h1
      subst hxh
      rw [if_pos (decide_eq_true hx)]
      dsimp only
      refine ⟨?_, rfl⟩
      unfold repl
      rw [List.map_cons, List.map_cons, List.map_cons, if_pos hx]
      have hr : (l.map fun h => if h.t = g.t ∧ h.p = g.p then g else h) = l := by
        conv => rhs; rw [← List.map_id l]
        apply List.map_congr_left
        intro y hy
        rw [if_neg]
        · rfl
        · intro hh
          exact h1 (List.mem_map.2 ⟨y, hy, by show (y.t, y.p) = (x.t, x.p); rw [hh.1, hh.2, hx.1, hx.2]⟩)
      rw [hr]
      simp [Gap.ke, hx.1, hx.2, hb]
    · rw [if_neg (by rw [decide_eq_false hx]; simp)]
      have hml : h ∈ l := by
        rcases List.mem_cons.1 hm with rfl | hm
        · exact absurd ⟨ht, hp⟩ hx
        · exact hm
      obtain ⟨i1, i2⟩ := ih h h2 hml ht hp hb
      unfold setK at i1
      rw [findK_ke] at i1
      cases hf : l.findIdx? (fun y => decide (y.t = g.t ∧ y.p = g.p)) with
      | none =>
        rw [List.findIdx?_eq_none_iff] at hf
        have := hf h hml
        simp [ht, hp] at this
      | some j =>
        rw [hf] at i1
        dsimp only at i1
        dsimp only [Option.map_some]
        refine ⟨?_, rfl⟩
        unfold repl
        rw [List.map_cons, List.map_cons, List.map_cons, if_neg hx]
        rw [List.modify_succ_cons, i1]
        rfl
/-- A gap's pages are told: its block turns, and the map. -/
theorem WatchAt.turn {W w w5 : World} {B wb mb clock : Nat} {gs : List Gap} {br : Bool} (h : WatchAt w B wb mb gs clock br) {g g' : Gap} (hg : g ∈ gs) (ht : g'.t = g.t) (hp : g'.p = g.p) (hb : g'.born = g.born) (htb : g'.tb = g.tb) (hf : g'.first = g.first) (hl : g'.told.length = g.told.length)
    (hgr : w.grownBy w5 (some g.tb)) (ht5 : w5.heap[g.tb]? = some (.cells (boolsV g'.told) 4 (0, 0))) (hE : Ext W w) (hB : W.heap.size ≤ B) :
    WatchAt (setBlock w5 mb (.map (entsK ((repl g' gs).map Gap.ke)) clock)) B wb mb (repl g' gs) clock br ∧ KeepG w (setBlock w5 mb (.map (entsK ((repl g' gs).map Gap.ke)) clock)) ∧ Ext W (setBlock w5 mb (.map (entsK ((repl g' gs).map Gap.ke)) clock)) := by
  obtain ⟨n1, n2⟩ := h.ne_tb hg
  have hmb5 : mb < w5.heap.size := by have := (Array.getElem?_eq_some_iff.1 h.map).1; have := hgr.size; omega
  have hmem : ∀ x ∈ repl g' gs, x = g' ∨ (x ∈ gs ∧ x ≠ g ∧ x.tb ≠ g.tb) := by
    intro x hx
    obtain ⟨y, hy, rfl⟩ := List.mem_map.1 hx
    by_cases hk : y.t = g'.t ∧ y.p = g'.p
    · rw [if_pos hk]; exact .inl rfl
    · rw [if_neg hk]
      have hyg : y ≠ g := fun e => hk (by rw [e]; exact ⟨ht.symm, hp.symm⟩)
      exact .inr ⟨hy, hyg, fun e => hyg (inj_nodup h.tbs hy hg e)⟩
  have hmap : ∀ {β : Type} (f : Gap → β), f g' = f g → (repl g' gs).map f = gs.map f := by
    intro β f hfg
    unfold repl
    rw [List.map_map]
    apply List.map_congr_left
    intro y hy
    show f (if y.t = g'.t ∧ y.p = g'.p then g' else y) = f y
    by_cases hk : y.t = g'.t ∧ y.p = g'.p
    · rw [if_pos hk, hfg]
      have : y = g := inj_nodup h.keys hy hg (by rw [hk.1, hk.2, ht, hp])
      rw [this]
    · rw [if_neg hk]
  have h5 : ∀ (k : Nat) (ob : Obj), w.heap[k]? = some ob → k ≠ g.tb → w5.heap[k]? = some ob := fun k ob hk hne => (hgr.block k (Array.getElem?_eq_some_iff.1 hk).1 (by simpa using hne)).trans hk
  have hK5 : KeepG w w5 := KeepG.grow hgr (h.told g hg) fun hn => (hn.2 _ _).1 rfl
  have hK6 : KeepG w5 (setBlock w5 mb (.map (entsK ((repl g' gs).map Gap.ke)) clock)) := KeepG.grow (grow_setBlock w5 mb _) (h5 mb _ h.map (Ne.symm n2)) fun hn => hn.1 _ _ rfl
  refine ⟨{ hdr := ?_, map := ?_, told := ?_, tbs := ?_, borns := ?_, keys := ?_, fst := ?_, old := ?_, len := ?_, wbB := h.wbB, mbB := h.mbB, tbB := ?_ }, hK5.trans hK6, ?_⟩
  · rw [heap_setBlock, if_neg (fun hh => h.ne hh.1)]
    exact h5 wb _ h.hdr (Ne.symm n1)
  · rw [heap_setBlock, if_pos ⟨rfl, hmb5⟩]
  · intro x hx
    rcases hmem x hx with rfl | ⟨h1, h2, h3⟩
    · rw [heap_setBlock, if_neg (fun hh => n2 (by rw [← htb]; exact hh.1)), htb]
      exact ht5
    · rw [heap_setBlock, if_neg (fun hh => (h.ne_tb h1).2 hh.1)]
      exact h5 x.tb _ (h.told x h1) h3
  · rw [hmap Gap.tb htb]; exact h.tbs
  · rw [hmap Gap.born hb]; exact h.borns
  · rw [hmap (fun g => (g.t, g.p)) (by simp [ht, hp])]; exact h.keys
  · intro x hx
    rcases hmem x hx with rfl | ⟨h1, _, _⟩
    · rw [hf]; exact h.fst g hg
    · exact h.fst x h1
  · intro x hx
    rcases hmem x hx with rfl | ⟨h1, _, _⟩
    · rw [hb]; exact h.old g hg
    · exact h.old x h1
  · intro x hx
    rcases hmem x hx with rfl | ⟨h1, _, _⟩
    · rw [hl]; exact h.len g hg
    · exact h.len x h1
  · intro x hx
    rcases hmem x hx with rfl | ⟨h1, _, _⟩
    · rw [htb]; exact h.tbB g hg
    · exact h.tbB x h1
  · exact ext_grow (ext_grow hE hgr (Nat.le_trans hB (h.tbB g hg))) (grow_setBlock w5 mb _) (Nat.le_trans hB h.mbB)
theorem spot_check (w : World) (em : Bool) (a b : Int) : (Instr.checkKey em 10000 142 (key2 a b)).run Try.prog w = .ok () w := by
  show (Instr.checkKey em (9998 + 1 + 1) 142 (key2 a b)).run Try.prog w = .ok () w
  have h1 : ∀ x : Int, (Instr.checkKey em (9998 + 1) 3 (.int .i64 x)).run Try.prog w = .ok () w := fun x => by
    unfold Instr.checkKey
    simp [run_underlying Try.underlying3]
  unfold Instr.checkKey
  simp only [Sem.run_bind, run_underlying Try.underlying142, Result.andThen_ok]
  rw [← Array.forIn_toList]
  simp only [List.forIn_cons, List.forIn_nil, Sem.run_bind]
  simp [part_int, h1]
theorem spot_eq (w : World) (a b c d : Int) : (Op.equal 142 (key2 a b) (key2 c d)).run Try.prog w = .ok (a == c && b == d) w := by
  have h := run_equalIn_agg (P := Try.prog) w 9999 142 #[.int .i64 a, .int .i64 b] #[.int .i64 c, .int .i64 d] (by kernel_rfl) (by kernel_rfl)
  show (Op.equalIn (9999 + 1) 142 (key2 a b) (key2 c d)).run Try.prog w = _
  rw [h]
  go_simp
  by_cases h1 : a = c <;> by_cases h2 : b = d <;> simp [h1, h2]
theorem spotK : Key2 Try.prog 142 := ⟨spot_check, spot_eq, ⟨_, Try.underlying142⟩⟩

end Go.Proofs.Ythcdecgecabgaaa
