import Derived.Test.YthcdecgecabgaaaBRefbFoldpMore
import Derived.LaidEql
import Derived.Stop.Asserts
import Derived.RowKitTokens
import Derived.Test.YthcdecgecabgaaaMove
import Derived.Test.YthcdecgecabgaaaBStepsSamePart
import Derived.Test.YthcdecgecabgaaaBRefgCodeLawgNeed
import Derived.Test.YthcdecgecabgaaaPath
/- The contract of errors.Is at errors of the Go type api.Code. -/
namespace Go.Proofs.Ythcdecgecabgaaa
open Go.RowKit Go.Extern.Stop Go.Stop Go.Extern
set_option linter.unusedVariables false
set_option linter.unusedSimpArgs false

theorem no_Is (v : Value) (xT : TypeId) (w : World) : (Instr.typeAssert (.iface 59 v) xT 264 true).run Try.prog w = .ok (.tuple #[.nilIface, .bool false]) w := run_typeAssert_lacksB Try.underlying264 (by kernel_rfl) (by kernel_rfl) v xT w
theorem no_Unwrap (v : Value) (xT : TypeId) (w : World) : (Instr.typeAssert (.iface 59 v) xT 267 true).run Try.prog w = .ok (.tuple #[.nilIface, .bool false]) w := run_typeAssert_lacksB Try.underlying267 (by kernel_rfl) (by kernel_rfl) v xT w
theorem no_Unwraps (v : Value) (xT : TypeId) (w : World) : (Instr.typeAssert (.iface 59 v) xT 269 true).run Try.prog w = .ok (.tuple #[.nilIface, .bool false]) w := run_typeAssert_lacksB Try.underlying269 (by kernel_rfl) (by kernel_rfl) v xT w

/-- What reflectlite tells of a type: may its values be compared? -/
def cmpM : Array Value → Sem Value := Extern.ReflectliteType.method fun t => do Extern.Rtype.noPackHeld "Comparable" t; pure (.bool (← typeInfo t).comparable)
theorem code_type : ∃ p : Value, (∀ v w, (Extern.ReflectliteType.typeOf #[.iface 59 v]).run Try.prog w = .ok (.iface 262 (.agg #[p])) w) ∧ ∀ w, (cmpM #[.agg #[p]]).run Try.prog w = .ok (.bool true) w :=
  ⟨typeHandle Try.prog 59, fun v w => by kernel_rfl, fun w => by kernel_rfl⟩

theorem rtype_method (k : Nat) (v : Value) (w : World) : (Go.method (k + 1) 262 v "Comparable").run Try.prog w = .ok (226, v) w := by kernel_rfl
set_option maxRecDepth 100000 in
set_option maxHeartbeats 2000000 in
theorem errors_Is (w : World) (a b : Int) :
    Calls Try.prog 111 #[errW a, errW b] w fun e w' => e = .returned (.bool (a == b)) ∧ w' = w := by
  have h8 := @run_callFunc_extern Try.prog 145 _ Extern.ReflectliteType.typeOf Try.func145 (by kernel_rfl) (by kernel_rfl) (by kernel_rfl) (by kernel_rfl)
  have h32 := @run_callFunc_extern Try.prog 226 _ cmpM Try.func226 (by kernel_rfl) (by kernel_rfl) (by kernel_rfl) (by kernel_rfl)
  have heq := fun w => eql_err w a b
  obtain ⟨tp, tT, cT⟩ := code_type
  have mR := rtype_method
  have nE := no_Is
  have uE := no_Unwrap
  have vE := no_Unwraps
  by_cases hab : a = b
  · subst hab
    have hb : (a == a) = true := by simp
    go_enter Try.func111, Try.ntmps111
    go_wp2
    refine wp_loop_rounds 1 ?_
    rw [rounds_succ]
    go_wp2
    go_ret
    exact ⟨by rw [hb]; rfl, rfl⟩
  · have hb : (a == b) = false := by simpa using hab
    go_enter Try.func111, Try.ntmps111
    go_wp2
    refine wp_loop_rounds 1 ?_
    rw [rounds_succ]
    go_wp2
    go_ret
    exact ⟨by rw [hb]; rfl, rfl⟩

end Go.Proofs.Ythcdecgecabgaaa

/- The contracts of move.places$1, slices.IndexFunc and ContainsFunc at places. -/
namespace Go.Proofs.Ythcdecgecabgaaa
open Go.RowKit
set_option linter.unusedVariables false
set_option linter.unusedSimpArgs false
attribute [local go_sem] setCell_drewN alloc_drewN lt_moreE le_moreE lt_moreK le_moreK cell_more frozen_more set_more drew_more drewN_more

def sameP (tb pl : Int) (p : Place) : Bool := p.tb == tb && p.pl == pl
def placeAt (l : List Place) (tb pl : Int) : Nat → Nat → Int
  | 0, _ => -1
  | k + 1, i => if sameP tb pl (l.getD i zeroPl) = true then i else placeAt l tb pl k (i + 1)
theorem placeAt_any {l : List Place} {tb pl : Int} : ∀ (k i : Nat), i + k = l.length → decide (0 ≤ placeAt l tb pl k i) = (l.drop i).any (sameP tb pl) := by
  intro k
  induction k with
  | zero => intro i hi; rw [List.drop_of_length_le (by omega)]; rfl
  | succ k ih =>
    intro i hi
    have hd : l.drop i = l.getD i zeroPl :: l.drop (i + 1) := by rw [List.drop_eq_getElem_cons (by omega), List.getD_eq_getElem?_getD, List.getElem?_eq_getElem (by omega)]; rfl
    rw [hd, List.any_cons]
    unfold placeAt
    by_cases h : sameP tb pl (l.getD i zeroPl) = true
    · rw [if_pos h, h]; simp
    · rw [if_neg h, ih _ (by omega), Bool.not_eq_true _ |>.mp h, Bool.false_or]
/-- The cells of a place. -/
theorem place_at {w : World} {b o : Nat} {l : List Place} {q : Nat} {p : Place} (hq : l[q]? = some p) (h : ∀ j u, p.cells[j]? = some u → w.cell? ⟨b, o + (q * 11 + j), none⟩ = some u) :
    w.cell? ⟨b, o + q * 11, none⟩ = some (.int .i64 p.asid) ∧ w.cell? ⟨b, o + q * 11 + 1, none⟩ = some (.int .i64 p.page) ∧ w.cell? ⟨b, o + q * 11 + 2, none⟩ = some (.int .i64 p.tb) ∧ w.cell? ⟨b, o + q * 11 + 3, none⟩ = some (.int .i64 p.pl) ∧ w.cell? ⟨b, o + q * 11 + 4, none⟩ = some (.int .i64 p.says.fKind) ∧ w.cell? ⟨b, o + q * 11 + 5, none⟩ = some (.int .i64 p.says.fFrame) ∧ w.cell? ⟨b, o + q * 11 + 6, none⟩ = some (.bool p.says.fWrite) ∧ w.cell? ⟨b, o + q * 11 + 7, none⟩ = some (.bool p.says.fExec) ∧ w.cell? ⟨b, o + q * 11 + 8, none⟩ = some (.bool p.says.fSeen) ∧ w.cell? ⟨b, o + q * 11 + 9, none⟩ = some (.bool p.says.fFold) ∧ w.cell? ⟨b, o + q * 11 + 10, none⟩ = some (.int .i64 p.says.fSoft) := by
  have key := fun j u hj => h j u hj
  simp only [← Nat.add_assoc] at key
  exact ⟨key 0 _ rfl, key 1 _ rfl, key 2 _ rfl, key 3 _ rfl, key 4 _ rfl, key 5 _ rfl, key 6 _ rfl, key 7 _ rfl, key 8 _ rfl, key 9 _ rfl, key 10 _ rfl⟩

set_option maxHeartbeats 1000000 in
theorem move_places1 (w : World) (p : Place) (B : Nat) (tb pl : Int) (hb : B < w.heap.size) (hc : w.cell? ⟨B, 2, none⟩ = some (.int .i64 tb)) (hc3 : w.cell? ⟨B, 3, none⟩ = some (.int .i64 pl)) :
    Calls Try.prog 110 #[.agg p.cells.toArray, .pointer (some ⟨B, 0, none⟩)] w fun e w' => Ext w w' ∧ e = .returned (.bool (sameP tb pl p)) := by
  obtain ⟨k1, k2, k3⟩ := lt_facts hb
  obtain ⟨a, pg, t, q, d0, d1, d2, d3, d4, d5, d6⟩ := p
  simp only [Place.cells]
  by_cases ht : t = tb
  · subst ht
    by_cases hq : q = pl
    · subst hq
      have HS := Lib.hid (show sameP t q ⟨a, pg, t, q, d0, d1, d2, d3, d4, d5, d6⟩ = true from by simp [sameP])
      go_enter Try.func110, Try.ntmps110
      go_wp2_with fail
      all_goals first
        | (exfalso; simp_all; done)
        | (go_ret; exact ⟨(by repeat (first | exact Ext.refl _ | apply Ext.more | apply Ext.alloc | apply Ext.drew | apply Ext.drewN)), by rw [HS.out]; rfl⟩)
    · have hq2 : (q == pl) = false := beq_eq_false_iff_ne.mpr hq
      have HS := Lib.hid (show sameP t pl ⟨a, pg, t, q, d0, d1, d2, d3, d4, d5, d6⟩ = false from by simp [sameP, hq])
      go_enter Try.func110, Try.ntmps110
      go_wp2_with fail
      all_goals first
        | (exfalso; simp_all; done)
        | (go_ret; exact ⟨(by repeat (first | exact Ext.refl _ | apply Ext.more | apply Ext.alloc | apply Ext.drew | apply Ext.drewN)), by rw [HS.out]; rfl⟩)
        | (go_ret; exact ⟨(by repeat (first | exact Ext.refl _ | apply Ext.more | apply Ext.alloc | apply Ext.drew | apply Ext.drewN)), by rw [HS.out, hq2]⟩)
  · have ht2 : (t == tb) = false := beq_eq_false_iff_ne.mpr ht
    have HS := Lib.hid (show sameP tb pl ⟨a, pg, t, q, d0, d1, d2, d3, d4, d5, d6⟩ = false from by simp [sameP, ht])
    go_enter Try.func110, Try.ntmps110
    go_wp2_with fail
    all_goals first
      | (exfalso; simp_all; done)
      | (go_ret; exact ⟨(by repeat (first | exact Ext.refl _ | apply Ext.more | apply Ext.alloc | apply Ext.drew | apply Ext.drewN)), by rw [HS.out]; rfl⟩)
      | (go_ret; exact ⟨(by repeat (first | exact Ext.refl _ | apply Ext.more | apply Ext.alloc | apply Ext.drew | apply Ext.drewN)), by rw [HS.out, ht2]⟩)

set_option maxHeartbeats 2000000 in
theorem places_Index (w : World) (l : List Place) (v : Value) (hv : SlRd w v 11 (l.map Place.cells)) (B : Nat) (tb pl : Int) (hb : B < w.heap.size) (hc : w.cell? ⟨B, 2, none⟩ = some (.int .i64 tb)) (hc3 : w.cell? ⟨B, 3, none⟩ = some (.int .i64 pl)) :
    Calls Try.prog 144 #[v, .func (.func 110) #[] #[.pointer (some ⟨B, 0, none⟩)]] w fun e w' => Ext w w' ∧ e = .returned (.int .i64 (placeAt l tb pl l.length 0)) := by
  obtain ⟨fa, fcap, rfl, hfcap, hfc⟩ := hv.form
  rw [List.length_map] at *
  have hcap' : l.length ≤ 9223372036854775807 := by unfold maxLen at hfcap; exact hfcap
  have HFC := Lib.hid hfc
  have HF1 := Lib.hid (fun w' p hE => move_places1 w' p B tb pl (Nat.lt_of_lt_of_le hb (Ext.size hE)) ((Ext.grow hE).cell hc (by simp)) ((Ext.grow hE).cell hc3 (by simp)))
  clear hv hfc hfcap hc hc3 hb
  go_enter Try.func144, Try.ntmps144
  go_wp2_with fail
  go_loopw [8] (fun i wr => ∃ q : Nat, q ≤ l.length ∧ i = .int .i64 q ∧ Ext w wr ∧ Hid (placeAt l tb pl l.length 0 = placeAt l tb pl (l.length - q) q)) (fun i _ => l.length - (intOf i).toNat)
  case atStart => exact ⟨0, by omega, rfl, Ext.refl _, rfl⟩
  case round =>
    obtain ⟨q, hq, rfl, ⟨x, rfl⟩, HR⟩ := hrel
    by_cases hlt : q < l.length
    · have hz : l[q]? = some l[q] := List.getElem?_eq_getElem hlt
      obtain ⟨fb, fo, rfl, hfb, hcl⟩ := HFC.out q (Place.cells l[q]) (by rw [List.getElem?_map, hz]; rfl) (by simp [Place.cells])
      obtain ⟨k1, k2, k3⟩ := lt_facts hfb
      obtain ⟨x0, x1, x2, x3, x4, x5, x6, x7, x8, x9, x10⟩ := place_at hz hcl
      have HS := Lib.hid (show placeAt l tb pl (l.length - q) q = if sameP tb pl l[q] = true then (q : Int) else placeAt l tb pl (l.length - (q + 1)) (q + 1) from by
        obtain ⟨m, hm⟩ : ∃ m, l.length - q = m + 1 := ⟨l.length - q - 1, by omega⟩
        rw [hm, show l.length - (q + 1) = m by omega]
        conv => lhs; unfold placeAt
        rw [List.getD_eq_getElem?_getD, hz]; rfl)
      generalize l[q] = z at *
      clear hz hcl
      cases he : sameP tb pl z with
      | true =>
        have HS2 := Lib.hid (HR.out.trans (HS.out.trans (if_pos he)))
        have HF2 := Lib.hid (fun w' hE => HF1.out w' z hE)
        rw [he] at HF2
        clear HS HR he
        obtain ⟨a, pg, t, q', d0, d1, d2, d3, d4, d5, d6⟩ := z
        dsimp only at x0 x1 x2 x3 x4 x5 x6 x7 x8 x9 x10
        simp only [Place.cells] at HF2
        go_wp2_with fail
        refine (HF2.out _ (by repeat (first | exact Ext.refl _ | apply Ext.more | apply Ext.alloc | apply Ext.drew | apply Ext.drewN))).mono ?_
        rintro e w' ⟨⟨y2, rfl⟩, rfl⟩
        go_wp2_with fail
        go_ret
        exact ⟨(by repeat (first | exact Ext.refl _ | apply Ext.more | apply Ext.alloc | apply Ext.drew | apply Ext.drewN)), by rw [HS2.out]; rfl⟩
      | false =>
        have HS2 := Lib.hid (HR.out.trans (HS.out.trans (if_neg (by rw [he]; simp))))
        have HF2 := Lib.hid (fun w' hE => HF1.out w' z hE)
        rw [he] at HF2
        clear HS HR he
        obtain ⟨a, pg, t, q', d0, d1, d2, d3, d4, d5, d6⟩ := z
        dsimp only at x0 x1 x2 x3 x4 x5 x6 x7 x8 x9 x10
        simp only [Place.cells] at HF2
        go_wp2_with fail
        refine (HF2.out _ (by repeat (first | exact Ext.refl _ | apply Ext.more | apply Ext.alloc | apply Ext.drew | apply Ext.drewN))).mono ?_
        rintro e w' ⟨⟨y2, rfl⟩, rfl⟩
        go_wp2_with fail
        go_roundw
        case rel => exact ⟨q + 1, by omega, by go_num, (by repeat (first | exact Ext.refl _ | apply Ext.more | apply Ext.alloc | apply Ext.drew | apply Ext.drewN)), HS2⟩
        case measure => simp [intOf]; omega
    · obtain rfl : q = l.length := by omega
      have HS2 := Lib.hid (show placeAt l tb pl l.length 0 = -1 from HR.out.trans (by rw [Nat.sub_self]; rfl))
      clear HR
      go_wp2_with fail
      go_ret
      exact ⟨(by repeat (first | exact Ext.refl _ | apply Ext.more | apply Ext.alloc | apply Ext.drew | apply Ext.drewN)), by rw [HS2.out]; rfl⟩
theorem places_Contains (w : World) (l : List Place) (v : Value) (hv : SlRd w v 11 (l.map Place.cells)) (B : Nat) (tb pl : Int) (hb : B < w.heap.size) (hc : w.cell? ⟨B, 2, none⟩ = some (.int .i64 tb)) (hc3 : w.cell? ⟨B, 3, none⟩ = some (.int .i64 pl)) :
    Calls Try.prog 109 #[v, .func (.func 110) #[] #[.pointer (some ⟨B, 0, none⟩)]] w fun e w' => Ext w w' ∧ e = .returned (.bool (l.any (sameP tb pl))) := by
  have HI := Lib.hid (places_Index w l v hv B tb pl hb hc hc3)
  have HA := Lib.hid (placeAt_any (l := l) (tb := tb) (pl := pl) l.length 0 (by omega))
  generalize placeAt l tb pl l.length 0 = i at *
  clear hv hb hc hc3
  go_enter Try.func109, Try.ntmps109
  go_wp2_with fail
  refine HI.out.mono ?_
  rintro e w' ⟨⟨x1, rfl⟩, rfl⟩
  go_wp2_with fail
  go_ret
  refine ⟨(by repeat (first | exact Ext.refl _ | apply Ext.more | apply Ext.alloc | apply Ext.drew | apply Ext.drewN)), ?_⟩
  have h := HA.out
  rw [List.drop_zero] at h
  rw [← h]
  rfl

end Go.Proofs.Ythcdecgecabgaaa

/- The contracts of huge.has, huge.Split, paviorref16.Split. -/
namespace Go.Proofs.Ythcdecgecabgaaa
open Go.RowKit
set_option linter.unusedVariables false
set_option linter.unusedSimpArgs false
attribute [local go_sem] setCell_drewN alloc_drewN lt_moreE le_moreE lt_moreK le_moreK cell_more frozen_more set_more drew_more drewN_more

def HasP (n : Nat) (root asid page frame : Int) : Prop := 0 ≤ root ∧ root < n ∧ 0 ≤ page ∧ page < 4096 ∧ 0 ≤ frame ∧ frame < n ∧ 0 ≤ asid ∧ asid ≤ 255

def wordF (ws : List Int) (f : Found) : Int := ws.getD (f.fTable.toNat * 8 + f.fPlace.toNat) 0
/-- What Split tells. -/
def splitR (ws : List Int) (asid fresh : Int) : Option Found → StepsR
  | none => .no 2
  | some f => if f.fKind = 2 then .yes (splitS asid fresh f (decD 2 (wordF ws f))) else .no 7

/-- What the document's Split tells. -/
def RStepsRet (B : Nat) (w' : World) (r : StepsR) (e : Ending) : Prop := match r with
  | .yes s => ∃ a cap, e = .returned (.tuple #[.slice a s.length cap, .int .i64 0]) ∧ OwnS w' B (.slice a s.length cap) s
  | .no k => e = .returned (.tuple #[.slice none 0 0, .int .i64 k])
theorem rstepsRet_yes {B B' n : Nat} {w' : World} {r : StepsR} {s : List Step} {v : Value} {xs : List Value} (hr : r = .yes s) (h : w'.ownsRow B' 46 10 v n xs) (hb : B ≤ B') (hn : n = s.length) (hx : xs = (s.map Step.cells).flatten) : RStepsRet B w' r (.returned (.tuple #[v, .int .i64 0])) := by
  obtain ⟨a, cap, rfl⟩ := own_form h
  subst hn hx hr
  exact ⟨a, cap, rfl, own_low h hb⟩

end Go.Proofs.Ythcdecgecabgaaa

/- Steps that make pages a block: plain laws; the contracts of huge.pages, huge.away, huge.fill. -/
namespace Go.Proofs.Ythcdecgecabgaaa
open Go.RowKit
set_option linter.unusedVariables false
set_option linter.unusedSimpArgs false
attribute [local go_sem] setCell_drewN alloc_drewN lt_moreE le_moreE lt_moreK le_moreK cell_more frozen_more set_more drew_more drewN_more

/-- What a word of a table of the last level says. -/
def wordD (ws : List Int) (t : Int) (i : Nat) : Desc := decD 3 (ws.getD (t.toNat * 8 + i) 0)
/-- The pages that a table's first k words say; none: one says neither none nor a page. -/
def pagesN (ws : List Int) (t first : Int) : Nat → Option (List (Int × Int))
  | 0 => some []
  | k + 1 => (pagesN ws t first k).bind fun l => if (wordD ws t k).fKind = 0 then some l else if (wordD ws t k).fKind = 3 then some (l ++ [(first + k, (wordD ws t k).fFrame)]) else none
theorem pagesN_step {ws : List Int} {t first : Int} {q : Nat} {acc : List (Int × Int)} {d : Desc} (h : pagesN ws t first q = some acc) (hd : wordD ws t q = d) : pagesN ws t first (q + 1) = if d.fKind = 0 then some acc else if d.fKind = 3 then some (acc ++ [(first + q, d.fFrame)]) else none := by
  subst hd
  conv => lhs; unfold pagesN
  rw [h]; rfl
theorem pagesN_none {ws : List Int} {t first : Int} {k : Nat} (h : pagesN ws t first k = none) : ∀ j, pagesN ws t first (k + j) = none := by
  intro j
  induction j with
  | zero => exact h
  | succ j ih =>
    show pagesN ws t first ((k + j) + 1) = none
    conv => lhs; unfold pagesN
    rw [ih]; rfl
/-- The pages from the i-th word on. -/
def pgs (ws : List Int) (t first : Int) (i : Nat) : List (Int × Int) := ((List.range 8).drop i).filterMap fun j : Nat => if (wordD ws t j).fKind = 3 then some (first + (j : Int), (wordD ws t j).fFrame) else none
theorem pgs_yes {ws : List Int} {t first : Int} {i : Nat} (hi : i < 8) (h : (wordD ws t i).fKind = 3) : pgs ws t first i = (first + (i : Int), (wordD ws t i).fFrame) :: pgs ws t first (i + 1) := by
  unfold pgs
  rw [List.drop_eq_getElem_cons (by simpa using hi), List.getElem_range, List.filterMap_cons]
  rw [if_pos h]
theorem pgs_no {ws : List Int} {t first : Int} {i : Nat} (hi : i < 8) (h : (wordD ws t i).fKind ≠ 3) : pgs ws t first i = pgs ws t first (i + 1) := by
  unfold pgs
  rw [List.drop_eq_getElem_cons (by simpa using hi), List.getElem_range, List.filterMap_cons]
  rw [if_neg h]
theorem pgs_end {ws : List Int} {t first : Int} : pgs ws t first 8 = [] := by unfold pgs; rw [List.drop_of_length_le (by simp)]; rfl
theorem pgs_in {ws : List Int} {t first : Int} {i : Nat} : ∀ z ∈ pgs ws t first i, ∃ j : Nat, i ≤ j ∧ j < 8 ∧ (wordD ws t j).fKind = 3 ∧ z = (first + (j : Int), (wordD ws t j).fFrame) := by
  intro z hz
  unfold pgs at hz
  obtain ⟨j, hj, hf⟩ := List.mem_filterMap.1 hz
  obtain ⟨k, hk, rfl⟩ := List.getElem_of_mem hj
  rw [List.getElem_drop, List.getElem_range] at hf
  simp at hk
  split at hf
  · cases hf
    exact ⟨i + k, by omega, by omega, by rwa [List.getElem_drop, List.getElem_range] at *, by simp⟩
  · cases hf
theorem pgs_len {ws : List Int} {t first : Int} {i : Nat} : (pgs ws t first i).length ≤ 8 - i := by
  unfold pgs
  refine Nat.le_trans (List.length_filterMap_le _ _) (by simp)
theorem pagesN_pre {ws : List Int} {t first : Int} : ∀ (k : Nat) (l : List (Int × Int)), k ≤ 8 → pagesN ws t first k = some l → pgs ws t first 0 = l ++ pgs ws t first k ∧ ∀ j, j < k → (wordD ws t j).fKind = 0 ∨ (wordD ws t j).fKind = 3 := by
  intro k
  induction k with
  | zero => intro l _ h; cases h; exact ⟨by simp, fun j hj => by omega⟩
  | succ k ih =>
    intro l hk h
    cases hp : pagesN ws t first k with
    | none => unfold pagesN at h; rw [hp] at h; cases h
    | some acc =>
      rw [pagesN_step hp rfl] at h
      obtain ⟨h1, h2⟩ := ih acc (by omega) hp
      split at h
      · rename_i h0
        cases h
        refine ⟨by rw [h1, pgs_no (by omega) (by omega)], fun j hj => ?_⟩
        by_cases e : j = k
        · subst e; exact .inl h0
        · exact h2 j (by omega)
      · split at h
        · rename_i h3
          cases h
          refine ⟨by rw [h1, pgs_yes (by omega) h3]; simp, fun j hj => ?_⟩
          by_cases e : j = k
          · subst e; exact .inr h3
          · exact h2 j (by omega)
        · cases h
theorem pagesN_pgs {ws : List Int} {t first : Int} {l : List (Int × Int)} (h : pagesN ws t first 8 = some l) : l = pgs ws t first 0 ∧ ∀ j, j < 8 → (wordD ws t j).fKind = 0 ∨ (wordD ws t j).fKind = 3 := by
  obtain ⟨h1, h2⟩ := pagesN_pre 8 l (by omega) h
  rw [pgs_end, List.append_nil] at h1
  exact ⟨h1.symm, h2⟩
/-- The steps that take pages away. -/
def awayM (l : List (Int × Int)) (asid t first : Int) : List Step := (l.map fun z => wr0 asid 3 t (z.1 - first) z.1 0) ++ l.map fun z => tellS asid z.1
theorem awayM_len (l : List (Int × Int)) (asid t first : Int) : (awayM l asid t first).length = l.length + l.length := by simp [awayM]
def copyS (to frm : Int) (k : Int) : Step := ⟨5, 0, 0, 0, 0, 0, 0, to, frm, k⟩
def copiesN (to frm : Int) (k : Nat) : List Step := (List.range k).map fun i : Nat => copyS to frm i
theorem copiesN_succ (to frm : Int) (k : Nat) : copiesN to frm (k + 1) = copiesN to frm k ++ [copyS to frm k] := by unfold copiesN; rw [List.range_succ, List.map_append]; rfl
theorem copiesN_len (to frm : Int) (k : Nat) : (copiesN to frm k).length = k := by simp [copiesN]
/-- The steps that fill a block's frames. -/
def fillOne (ws : List Int) (t base : Int) (i : Nat) : List Step := if (wordD ws t i).fKind = 3 then copiesN (base + i) (wordD ws t i).fFrame 8 else [clearS (base + i)]
def fillN (ws : List Int) (t base : Int) : Nat → List Step
  | 0 => []
  | k + 1 => fillN ws t base k ++ fillOne ws t base k
theorem fillOne_len (ws : List Int) (t base : Int) (i : Nat) : 1 ≤ (fillOne ws t base i).length ∧ (fillOne ws t base i).length ≤ 8 := by
  unfold fillOne
  split
  · rw [copiesN_len]; omega
  · simp
theorem fillN_len (ws : List Int) (t base : Int) : ∀ k, k ≤ (fillN ws t base k).length ∧ (fillN ws t base k).length ≤ 8 * k := by
  intro k
  induction k with
  | zero => simp [fillN]
  | succ k ih => have := fillOne_len ws t base k; simp only [fillN, List.length_append]; omega

theorem el_Mapped : ElemAt Try.prog 79 171 (.agg #[.int .i64 0, .int .i64 0]) 2 16 := ⟨Try.underlying79, by kernel_rfl, rfl, by decide, by decide⟩
def PagesRet (B : Nat) (w' : World) (r : Option (List (Int × Int))) (e : Ending) : Prop := match r with
  | some l => ∃ a cap, e = .returned (.tuple #[.slice a l.length cap, .bool true]) ∧ w'.ownsRow B 171 2 (.slice a l.length cap) l.length (l.map slotC).flatten
  | none => e = .returned (.tuple #[.slice none 0 0, .bool false])
theorem pagesRet_some {B B' n : Nat} {w' : World} {r : Option (List (Int × Int))} {s : List (Int × Int)} {v : Value} {xs : List Value} (hr : r = some s) (h : w'.ownsRow B' 171 2 v n xs) (hb : B ≤ B') (hn : n = s.length) (hx : xs = (s.map slotC).flatten) : PagesRet B w' r (.returned (.tuple #[v, .bool true])) := by
  obtain ⟨a, cap, rfl⟩ := own_form h
  subst hn hx hr
  exact ⟨a, cap, rfl, own_low h hb⟩

end Go.Proofs.Ythcdecgecabgaaa

/- The contracts of huge.away, huge.fill. -/
namespace Go.Proofs.Ythcdecgecabgaaa
open Go.RowKit
set_option linter.unusedVariables false
set_option linter.unusedSimpArgs false
attribute [local go_sem] setCell_drewN alloc_drewN lt_moreE le_moreE lt_moreK le_moreK cell_more frozen_more set_more drew_more drewN_more

theorem cells2m {w : World} {n : Nat} {T : TypeId} {a0 a1 : Value} (h : w.heap[n]? = some (.cells #[a0, a1] T (0, 0))) :
    w.cell? ⟨n, 0, none⟩ = some a0 ∧ w.cell? ⟨n, 1, none⟩ = some a1 ∧ ∀ i, w.frozen? ⟨n, i, none⟩ = false := by
  have key := fun i => cell_of_row w n i _ _ _ h
  exact ⟨key 0, key 1, fun i => frozen_of_row w n i _ _ h⟩

/-- A slice's tail. -/
theorem rd_tail {w : World} {v : Value} {sz : Nat} {c : List Value} {css : List (List Value)} (h : SlRd w v sz (c :: css)) : ∃ b o s cap, v = .slice (some ⟨b, o, s⟩) (css.length + 1) cap ∧ css.length + 1 ≤ cap ∧ cap ≤ maxLen ∧
    (∀ j u, c[j]? = some u → s = none ∧ w.cell? ⟨b, o + j, none⟩ = some u) ∧
    (cap = 1 → SlRd w (.slice (some ⟨b, o, s⟩) 0 0) sz css) ∧ (cap ≠ 1 → SlRd w (.slice (some ((⟨b, o, s⟩ : Addr).add (1 * sz))) css.length (cap - 1)) sz css) := by
  rcases h with ⟨_, h⟩ | ⟨b, o, s, cap, rfl, h1, h2, h3⟩
  · cases h
  · rw [List.length_cons] at h1
    refine ⟨b, o, s, cap, rfl, h1, h2, fun j u hj => ?_, fun hc => ?_, fun hc => ?_⟩
    · have := h3 0 c j u rfl hj
      simpa using this
    · obtain rfl : css = [] := List.eq_nil_of_length_eq_zero (by omega)
      exact .inr ⟨b, o, s, 0, rfl, Nat.le_refl _, by simp, fun i c j u hi => by simp at hi⟩
    · by_cases hs : css = []
      · subst hs
        rcases hh : (⟨b, o, s⟩ : Addr).add (1 * sz) with ⟨b', o', s'⟩
        exact .inr ⟨b', o', s', cap - 1, rfl, by simp, by omega, fun i c j u hi => by simp at hi⟩
      · have key : ∀ i c' j u, css[i]? = some c' → c'[j]? = some u → s = none ∧ w.cell? ⟨b, o + ((i + 1) * sz + j), none⟩ = some u := fun i c' j u hi hj => h3 (i + 1) c' j u hi hj
        by_cases hn : s = none
        · subst hn
          have hadd : (⟨b, o, none⟩ : Addr).add (1 * sz) = ⟨b, o + 1 * sz, none⟩ := by unfold Addr.add; split <;> simp_all
          rw [hadd]
          refine .inr ⟨b, o + 1 * sz, none, cap - 1, rfl, by omega, by omega, fun i c' j u hi hj => ⟨rfl, ?_⟩⟩
          have := (key i c' j u hi hj).2
          rwa [show o + ((i + 1) * sz + j) = o + 1 * sz + (i * sz + j) by rw [Nat.add_mul]; omega] at this
        · rcases hh : (⟨b, o, s⟩ : Addr).add (1 * sz) with ⟨b', o', s'⟩
          exact .inr ⟨b', o', s', cap - 1, rfl, by omega, by omega, fun i c' j u hi hj => absurd (key i c' j u hi hj).1 hn⟩

end Go.Proofs.Ythcdecgecabgaaa

/- The contracts of the document's answers paviorref12.Many, paviorref12.Path. -/
namespace Go.Proofs.Ythcdecgecabgaaa
open Go.RowKit
set_option linter.unusedVariables false
set_option linter.unusedSimpArgs false
attribute [local go_sem] setCell_drewN alloc_drewN lt_moreE le_moreE lt_moreK le_moreK cell_more frozen_more set_more drew_more drewN_more

theorem spanL_succ (l : Nat) (hl : l ≤ 2) : spanL (l : Int) = 8 * spanL ((l + 1 : Nat) : Int) := by
  have hls : l = 0 ∨ l = 1 ∨ l = 2 := by omega
  rcases hls with rfl | rfl | rfl <;> decide
theorem way_place {ws : List Int} {n page : Int} : ∀ (k : Nat) (l tb : Int) (s : List (Int × Int)) (d : Desc), wayAt ws n page k l tb = some (s, d) → ∀ (i : Nat) (z : Int × Int), s[i]? = some z → z.2 = placeN (l + i) page := by
  intro k
  induction k with
  | zero => intro l tb s d h; simp [wayAt] at h
  | succ k ih =>
    intro l tb s d h i z hz
    rw [wayAt_in rfl rfl rfl] at h
    split at h
    · simp only [Option.some.injEq, Prod.mk.injEq] at h
      rw [← h.1] at hz
      cases i with
      | zero => simp at hz; rw [← hz]; simp
      | succ i => simp at hz
    · split at h
      · rw [Option.map_eq_some_iff] at h
        obtain ⟨⟨s', d'⟩, h1, h2⟩ := h
        simp only [Prod.mk.injEq] at h2
        rw [← h2.1] at hz
        cases i with
        | zero => simp at hz; rw [← hz]; simp
        | succ i =>
          have := ih _ _ _ _ h1 i z (by simpa using hz)
          rw [this]; congr 1; simp; omega
      · cases h

section
variable {P : Program} {fn : Func} {p q r : Tmp} {ty : TypeId}
/-- Two results: a slot, a struct in memory. -/
theorem results_tc (h : fn.results = #[.tmp q, .cell p ty]) (tmps : Array Value) (w : World) (g : Nat) (t : TypeId) (cs : Array Value) (fr : Nat × Nat) (d : TypeDesc)
    (hp : tmps.getD p undef = .pointer (some ⟨g, 0, none⟩)) (hg : w.heap[g]? = some (.cells cs t fr))
    (hu : P.underlying ty = some d) (hd : (match d with | .struct _ | .array _ _ => true | _ => false) = true) (hi : (P.info? ty).map (·.size) = some cs.size) :
    (results fn tmps).run P w = .ok (.tuple #[tmps.getD q undef, .agg cs]) w := by
  have hp' : tmps[p]?.getD undef = .pointer (some ⟨g, 0, none⟩) := by simpa using hp
  simp [results, h, hp', asAddr, run_loadVar_row w g t ty cs fr d hg hu hd hi]
end
def RPathRet (B : Nat) (w' : World) (t : List Step × (Int × Int)) (e : Ending) : Prop := ∃ a cap, e = .returned (.tuple #[.slice a t.1.length cap, .agg #[.int .i64 t.2.1, .int .i64 t.2.2]]) ∧ OwnS w' B (.slice a t.1.length cap) t.1
theorem rpathRet_yes {B B' n : Nat} {w' : World} {t : List Step × (Int × Int)} {v : Value} {xs : List Value} {x y : Int} (hxy : t.2 = (x, y)) (h : w'.ownsRow B' 46 10 v n xs) (hb : B ≤ B') (hn : n = t.1.length) (hx : xs = (t.1.map Step.cells).flatten) : RPathRet B w' t (.returned (.tuple #[v, .agg #[.int .i64 x, .int .i64 y]])) := by
  obtain ⟨a, cap, rfl⟩ := own_form h
  subst hn hx
  exact ⟨a, cap, by rw [hxy], own_low h hb⟩

end Go.Proofs.Ythcdecgecabgaaa

/- The law paviorlaw12.TreePaths. -/
namespace Go.Proofs.Ythcdecgecabgaaa
open Go.RowKit
set_option linter.unusedVariables false
set_option linter.unusedSimpArgs false
attribute [local go_sem] setCell_drewN alloc_drewN lt_moreE le_moreE lt_moreK le_moreK cell_more frozen_more set_more drew_more drewN_more
theorem cells2 {w : World} {n : Nat} {T : TypeId} {a0 a1 : Value} (h : w.heap[n]? = some (.cells #[a0, a1] T (0, 0))) :
    w.cell? ⟨n, 0, none⟩ = some a0 ∧ w.cell? ⟨n, 1, none⟩ = some a1 ∧ ∀ i, w.frozen? ⟨n, i, none⟩ = false := by
  have key := fun i => cell_of_row w n i _ _ _ h
  exact ⟨key 0, key 1, fun i => frozen_of_row w n i _ _ h⟩

end Go.Proofs.Ythcdecgecabgaaa
