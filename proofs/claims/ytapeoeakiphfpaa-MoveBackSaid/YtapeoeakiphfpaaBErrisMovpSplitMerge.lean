import Derived.Test.YtapeoeakiphfpaaBRefbFoldpMore
import Derived.LaidEql
import Derived.Stop.Asserts
import Derived.RowKitTokens
import Derived.Test.YtapeoeakiphfpaaMove
import Derived.Test.YtapeoeakiphfpaaBMorfBedsStepsSamePart
import Derived.Test.YtapeoeakiphfpaaBRefgCodeLawgNeed
import Derived.Test.YtapeoeakiphfpaaPath
/- The contract of errors.Is at errors of the Go type api.Code. -/
namespace Go.Proofs.Ytapeoeakiphfpaa
open Go.RowKit Go.Extern.Stop Go.Stop Go.Extern
set_option linter.unusedVariables false
set_option linter.unusedSimpArgs false

theorem no_Is (v : Value) (xT : TypeId) (w : World) : (Instr.typeAssert (.iface 41 v) xT 254 true).run Try.prog w = .ok (.tuple #[.nilIface, .bool false]) w := run_typeAssert_lacksB Try.underlying254 (by kernel_rfl) (by kernel_rfl) v xT w
theorem no_Unwrap (v : Value) (xT : TypeId) (w : World) : (Instr.typeAssert (.iface 41 v) xT 257 true).run Try.prog w = .ok (.tuple #[.nilIface, .bool false]) w := run_typeAssert_lacksB Try.underlying257 (by kernel_rfl) (by kernel_rfl) v xT w
theorem no_Unwraps (v : Value) (xT : TypeId) (w : World) : (Instr.typeAssert (.iface 41 v) xT 259 true).run Try.prog w = .ok (.tuple #[.nilIface, .bool false]) w := run_typeAssert_lacksB Try.underlying259 (by kernel_rfl) (by kernel_rfl) v xT w

/-- What reflectlite tells of a type: may its values be compared? -/
def cmpM : Array Value → Sem Value := Extern.ReflectliteType.method fun t => do Extern.Rtype.noPackHeld "Comparable" t; pure (.bool (← typeInfo t).comparable)
theorem code_type : ∃ p : Value, (∀ v w, (Extern.ReflectliteType.typeOf #[.iface 41 v]).run Try.prog w = .ok (.iface 252 (.agg #[p])) w) ∧ ∀ w, (cmpM #[.agg #[p]]).run Try.prog w = .ok (.bool true) w :=
  ⟨typeHandle Try.prog 41, fun v w => by kernel_rfl, fun w => by kernel_rfl⟩

theorem rtype_method (k : Nat) (v : Value) (w : World) : (Go.method (k + 1) 252 v "Comparable").run Try.prog w = .ok (183, v) w := by kernel_rfl
set_option maxRecDepth 100000 in
set_option maxHeartbeats 2000000 in
theorem errors_Is (w : World) (a b : Int) :
    Calls Try.prog 144 #[errW a, errW b] w fun e w' => e = .returned (.bool (a == b)) ∧ w' = w := by
  have h8 := @run_callFunc_extern Try.prog 158 _ Extern.ReflectliteType.typeOf Try.func158 (by kernel_rfl) (by kernel_rfl) (by kernel_rfl) (by kernel_rfl)
  have h32 := @run_callFunc_extern Try.prog 183 _ cmpM Try.func183 (by kernel_rfl) (by kernel_rfl) (by kernel_rfl) (by kernel_rfl)
  have heq := fun w => eql_err w a b
  obtain ⟨tp, tT, cT⟩ := code_type
  have mR := rtype_method
  have nE := no_Is
  have uE := no_Unwrap
  have vE := no_Unwraps
  by_cases hab : a = b
  · subst hab
    have hb : (a == a) = true := by simp
    go_enter Try.func144, Try.ntmps144
    go_wp2
    refine wp_loop_rounds 1 ?_
    rw [rounds_succ]
    go_wp2
    go_ret
    exact ⟨by rw [hb]; rfl, rfl⟩
  · have hb : (a == b) = false := by simpa using hab
    go_enter Try.func144, Try.ntmps144
    go_wp2
    refine wp_loop_rounds 1 ?_
    rw [rounds_succ]
    go_wp2
    go_ret
    exact ⟨by rw [hb]; rfl, rfl⟩

end Go.Proofs.Ytapeoeakiphfpaa

/- The contracts of move.places$1, slices.IndexFunc and ContainsFunc at places. -/
namespace Go.Proofs.Ytapeoeakiphfpaa
open Go.RowKit
set_option linter.unusedVariables false
set_option linter.unusedSimpArgs false
attribute [local go_sem] setCell_drewN alloc_drewN lt_moreE le_moreE lt_moreK le_moreK cell_more frozen_more set_more drew_more drewN_more

def sameP (tb pl : Int) (p : Place) : Bool := p.tb == tb && p.pl == pl
def placeAt (l : List Place) (tb pl : Int) : Nat → Nat → Int
  | 0, _ => -1
  | k + 1, i => if sameP tb pl (l.getD i zeroPl) = true then i else placeAt l tb pl k (i + 1)
theorem placeAt_any {l : List Place} {tb pl : Int} : ∀ (k i : Nat), i + k = l.length → decide (0 ≤ placeAt l tb pl k i) = (l.drop i).any (sameP tb pl) := by
  intro k
  induction k with
  | zero => intro i hi; rw [List.drop_of_length_le (by omega)]; rfl
  | succ k ih =>
    intro i hi
    have hd : l.drop i = l.getD i zeroPl :: l.drop (i + 1) := by rw [List.drop_eq_getElem_cons (by omega), List.getD_eq_getElem?_getD, List.getElem?_eq_getElem (by omega)]; rfl
    rw [hd, List.any_cons]
    unfold placeAt
    by_cases h : sameP tb pl (l.getD i zeroPl) = true
    · rw [if_pos h, h]; simp
    · rw [if_neg h, ih _ (by omega), Bool.not_eq_true _ |>.mp h, Bool.false_or]
/-- The cells of a place. -/
theorem place_at {w : World} {b o : Nat} {l : List Place} {q : Nat} {p : Place} (hq : l[q]? = some p) (h : ∀ j u, p.cells[j]? = some u → w.cell? ⟨b, o + (q * 11 + j), none⟩ = some u) :
    w.cell? ⟨b, o + q * 11, none⟩ = some (.int .i64 p.asid) ∧ w.cell? ⟨b, o + q * 11 + 1, none⟩ = some (.int .i64 p.page) ∧ w.cell? ⟨b, o + q * 11 + 2, none⟩ = some (.int .i64 p.tb) ∧ w.cell? ⟨b, o + q * 11 + 3, none⟩ = some (.int .i64 p.pl) ∧ w.cell? ⟨b, o + q * 11 + 4, none⟩ = some (.int .i64 p.says.fKind) ∧ w.cell? ⟨b, o + q * 11 + 5, none⟩ = some (.int .i64 p.says.fFrame) ∧ w.cell? ⟨b, o + q * 11 + 6, none⟩ = some (.bool p.says.fWrite) ∧ w.cell? ⟨b, o + q * 11 + 7, none⟩ = some (.bool p.says.fExec) ∧ w.cell? ⟨b, o + q * 11 + 8, none⟩ = some (.bool p.says.fSeen) ∧ w.cell? ⟨b, o + q * 11 + 9, none⟩ = some (.bool p.says.fFold) ∧ w.cell? ⟨b, o + q * 11 + 10, none⟩ = some (.int .i64 p.says.fSoft) := by
  have key := fun j u hj => h j u hj
  simp only [← Nat.add_assoc] at key
  exact ⟨key 0 _ rfl, key 1 _ rfl, key 2 _ rfl, key 3 _ rfl, key 4 _ rfl, key 5 _ rfl, key 6 _ rfl, key 7 _ rfl, key 8 _ rfl, key 9 _ rfl, key 10 _ rfl⟩

set_option maxHeartbeats 1000000 in
theorem move_places1 (w : World) (p : Place) (B : Nat) (tb pl : Int) (hb : B < w.heap.size) (hc : w.cell? ⟨B, 2, none⟩ = some (.int .i64 tb)) (hc3 : w.cell? ⟨B, 3, none⟩ = some (.int .i64 pl)) :
    Calls Try.prog 143 #[.agg p.cells.toArray, .pointer (some ⟨B, 0, none⟩)] w fun e w' => Ext w w' ∧ e = .returned (.bool (sameP tb pl p)) := by
  obtain ⟨k1, k2, k3⟩ := lt_facts hb
  obtain ⟨a, pg, t, q, d0, d1, d2, d3, d4, d5, d6⟩ := p
  simp only [Place.cells]
  by_cases ht : t = tb
  · subst ht
    by_cases hq : q = pl
    · subst hq
      have HS := Lib.hid (show sameP t q ⟨a, pg, t, q, d0, d1, d2, d3, d4, d5, d6⟩ = true from by simp [sameP])
      go_enter Try.func143, Try.ntmps143
      go_wp2_with fail
      all_goals first
        | (exfalso; simp_all; done)
        | (go_ret; exact ⟨(by repeat (first | exact Ext.refl _ | apply Ext.more | apply Ext.alloc | apply Ext.drew | apply Ext.drewN)), by rw [HS.out]; rfl⟩)
    · have hq2 : (q == pl) = false := beq_eq_false_iff_ne.mpr hq
      have HS := Lib.hid (show sameP t pl ⟨a, pg, t, q, d0, d1, d2, d3, d4, d5, d6⟩ = false from by simp [sameP, hq])
      go_enter Try.func143, Try.ntmps143
      go_wp2_with fail
      all_goals first
        | (exfalso; simp_all; done)
        | (go_ret; exact ⟨(by repeat (first | exact Ext.refl _ | apply Ext.more | apply Ext.alloc | apply Ext.drew | apply Ext.drewN)), by rw [HS.out]; rfl⟩)
        | (go_ret; exact ⟨(by repeat (first | exact Ext.refl _ | apply Ext.more | apply Ext.alloc | apply Ext.drew | apply Ext.drewN)), by rw [HS.out, hq2]⟩)
  · have ht2 : (t == tb) = false := beq_eq_false_iff_ne.mpr ht
    have HS := Lib.hid (show sameP tb pl ⟨a, pg, t, q, d0, d1, d2, d3, d4, d5, d6⟩ = false from by simp [sameP, ht])
    go_enter Try.func143, Try.ntmps143
    go_wp2_with fail
    all_goals first
      | (exfalso; simp_all; done)
      | (go_ret; exact ⟨(by repeat (first | exact Ext.refl _ | apply Ext.more | apply Ext.alloc | apply Ext.drew | apply Ext.drewN)), by rw [HS.out]; rfl⟩)
      | (go_ret; exact ⟨(by repeat (first | exact Ext.refl _ | apply Ext.more | apply Ext.alloc | apply Ext.drew | apply Ext.drewN)), by rw [HS.out, ht2]⟩)

set_option maxHeartbeats 2000000 in
theorem places_Index (w : World) (l : List Place) (v : Value) (hv : SlRd w v 11 (l.map Place.cells)) (B : Nat) (tb pl : Int) (hb : B < w.heap.size) (hc : w.cell? ⟨B, 2, none⟩ = some (.int .i64 tb)) (hc3 : w.cell? ⟨B, 3, none⟩ = some (.int .i64 pl)) :
    Calls Try.prog 157 #[v, .func (.func 143) #[] #[.pointer (some ⟨B, 0, none⟩)]] w fun e w' => Ext w w' ∧ e = .returned (.int .i64 (placeAt l tb pl l.length 0)) := by
  obtain ⟨fa, fcap, rfl, hfcap, hfc⟩ := hv.form
  rw [List.length_map] at *
  have hcap' : l.length ≤ 9223372036854775807 := by unfold maxLen at hfcap; exact hfcap
  have HFC := Lib.hid hfc
  have HF1 := Lib.hid (fun w' p hE => move_places1 w' p B tb pl (Nat.lt_of_lt_of_le hb (Ext.size hE)) ((Ext.grow hE).cell hc (by simp)) ((Ext.grow hE).cell hc3 (by simp)))
  clear hv hfc hfcap hc hc3 hb
  go_enter Try.func157, Try.ntmps157
  go_wp2_with fail
  go_loopw [8] (fun i wr => ∃ q : Nat, q ≤ l.length ∧ i = .int .i64 q ∧ Ext w wr ∧ Hid (placeAt l tb pl l.length 0 = placeAt l tb pl (l.length - q) q)) (fun i _ => l.length - (intOf i).toNat)
  case atStart => exact ⟨0, by omega, rfl, Ext.refl _, rfl⟩
  case round =>
    obtain ⟨q, hq, rfl, ⟨x, rfl⟩, HR⟩ := hrel
    by_cases hlt : q < l.length
    · have hz : l[q]? = some l[q] := List.getElem?_eq_getElem hlt
      obtain ⟨fb, fo, rfl, hfb, hcl⟩ := HFC.out q (Place.cells l[q]) (by rw [List.getElem?_map, hz]; rfl) (by simp [Place.cells])
      obtain ⟨k1, k2, k3⟩ := lt_facts hfb
      obtain ⟨x0, x1, x2, x3, x4, x5, x6, x7, x8, x9, x10⟩ := place_at hz hcl
      have HS := Lib.hid (show placeAt l tb pl (l.length - q) q = if sameP tb pl l[q] = true then (q : Int) else placeAt l tb pl (l.length - (q + 1)) (q + 1) from by
        obtain ⟨m, hm⟩ : ∃ m, l.length - q = m + 1 := ⟨l.length - q - 1, by omega⟩
        rw [hm, show l.length - (q + 1) = m by omega]
        conv => lhs; unfold placeAt
        rw [List.getD_eq_getElem?_getD, hz]; rfl)
      generalize l[q] = z at *
      clear hz hcl
      cases he : sameP tb pl z with
      | true =>
        have HS2 := Lib.hid (HR.out.trans (HS.out.trans (if_pos he)))
        have HF2 := Lib.hid (fun w' hE => HF1.out w' z hE)
        rw [he] at HF2
        clear HS HR he
        obtain ⟨a, pg, t, q', d0, d1, d2, d3, d4, d5, d6⟩ := z
        dsimp only at x0 x1 x2 x3 x4 x5 x6 x7 x8 x9 x10
        simp only [Place.cells] at HF2
        go_wp2_with fail
        refine (HF2.out _ (by repeat (first | exact Ext.refl _ | apply Ext.more | apply Ext.alloc | apply Ext.drew | apply Ext.drewN))).mono ?_
        rintro e w' ⟨⟨y2, rfl⟩, rfl⟩
        go_wp2_with fail
        go_ret
        exact ⟨(by repeat (first | exact Ext.refl _ | apply Ext.more | apply Ext.alloc | apply Ext.drew | apply Ext.drewN)), by rw [HS2.out]; rfl⟩
      | false =>
        have HS2 := Lib.hid (HR.out.trans (HS.out.trans (if_neg (by rw [he]; simp))))
        have HF2 := Lib.hid (fun w' hE => HF1.out w' z hE)
        rw [he] at HF2
        clear HS HR he
        obtain ⟨a, pg, t, q', d0, d1, d2, d3, d4, d5, d6⟩ := z
        dsimp only at x0 x1 x2 x3 x4 x5 x6 x7 x8 x9 x10
        simp only [Place.cells] at HF2
        go_wp2_with fail
        refine (HF2.out _ (by repeat (first | exact Ext.refl _ | apply Ext.more | apply Ext.alloc | apply Ext.drew | apply Ext.drewN))).mono ?_
        rintro e w' ⟨⟨y2, rfl⟩, rfl⟩
        go_wp2_with fail
        go_roundw
        case rel => exact ⟨q + 1, by omega, by go_num, (by repeat (first | exact Ext.refl _ | apply Ext.more | apply Ext.alloc | apply Ext.drew | apply Ext.drewN)), HS2⟩
        case measure => simp [intOf]; omega
    · obtain rfl : q = l.length := by omega
      have HS2 := Lib.hid (show placeAt l tb pl l.length 0 = -1 from HR.out.trans (by rw [Nat.sub_self]; rfl))
      clear HR
      go_wp2_with fail
      go_ret
      exact ⟨(by repeat (first | exact Ext.refl _ | apply Ext.more | apply Ext.alloc | apply Ext.drew | apply Ext.drewN)), by rw [HS2.out]; rfl⟩
theorem places_Contains (w : World) (l : List Place) (v : Value) (hv : SlRd w v 11 (l.map Place.cells)) (B : Nat) (tb pl : Int) (hb : B < w.heap.size) (hc : w.cell? ⟨B, 2, none⟩ = some (.int .i64 tb)) (hc3 : w.cell? ⟨B, 3, none⟩ = some (.int .i64 pl)) :
    Calls Try.prog 142 #[v, .func (.func 143) #[] #[.pointer (some ⟨B, 0, none⟩)]] w fun e w' => Ext w w' ∧ e = .returned (.bool (l.any (sameP tb pl))) := by
  have HI := Lib.hid (places_Index w l v hv B tb pl hb hc hc3)
  have HA := Lib.hid (placeAt_any (l := l) (tb := tb) (pl := pl) l.length 0 (by omega))
  generalize placeAt l tb pl l.length 0 = i at *
  clear hv hb hc hc3
  go_enter Try.func142, Try.ntmps142
  go_wp2_with fail
  refine HI.out.mono ?_
  rintro e w' ⟨⟨x1, rfl⟩, rfl⟩
  go_wp2_with fail
  go_ret
  refine ⟨(by repeat (first | exact Ext.refl _ | apply Ext.more | apply Ext.alloc | apply Ext.drew | apply Ext.drewN)), ?_⟩
  have h := HA.out
  rw [List.drop_zero] at h
  rw [← h]
  rfl

end Go.Proofs.Ytapeoeakiphfpaa

/- The contracts of huge.has, huge.Split, paviorref16.Split. -/
namespace Go.Proofs.Ytapeoeakiphfpaa
open Go.RowKit
set_option linter.unusedVariables false
set_option linter.unusedSimpArgs false
attribute [local go_sem] setCell_drewN alloc_drewN lt_moreE le_moreE lt_moreK le_moreK cell_more frozen_more set_more drew_more drewN_more

def HasP (n : Nat) (root asid page frame : Int) : Prop := 0 ≤ root ∧ root < n ∧ 0 ≤ page ∧ page < 4096 ∧ 0 ≤ frame ∧ frame < n ∧ 0 ≤ asid ∧ asid ≤ 255

set_option maxHeartbeats 1000000 in
theorem huge_has_yes (w : World) {b g n c : Nat} {ws : List Int} (hm : MemAt w b g n c ws) (root asid page frame : Int) (h : HasP n root asid page frame) :
    Calls Try.prog 88 #[.pointer (some ⟨b, 0, none⟩), .int .i64 root, .int .i64 asid, .int .i64 page, .int .i64 frame] w fun e w' => e = .returned (.bool true) ∧ w' = w := by
  have HF := Lib.hid (phys_Frames w hm)
  obtain ⟨h0, h1, h2, h3, h4, h5, h6, h7⟩ := h
  clear hm
  go_enter Try.func88, Try.ntmps88
  go_wp2_with (go_at_call 30; refine HF.out.mono ?_; rintro e w1 ⟨rfl, rfl⟩)
  go_ret
  exact ⟨rfl, rfl⟩
set_option maxHeartbeats 2000000 in
theorem huge_has_no (w : World) {b g n c : Nat} {ws : List Int} (hm : MemAt w b g n c ws) (root asid page frame : Int) (h : ¬ HasP n root asid page frame) :
    Calls Try.prog 88 #[.pointer (some ⟨b, 0, none⟩), .int .i64 root, .int .i64 asid, .int .i64 page, .int .i64 frame] w fun e w' => e = .returned (.bool false) ∧ w' = w := by
  have HF := Lib.hid (phys_Frames w hm)
  have h' : root < 0 ∨ (0 ≤ root ∧ (n : Int) ≤ root) ∨ (0 ≤ root ∧ root < n ∧ page < 0) ∨ (0 ≤ root ∧ root < n ∧ 0 ≤ page ∧ 4096 ≤ page) ∨ (0 ≤ root ∧ root < n ∧ 0 ≤ page ∧ page < 4096 ∧ frame < 0) ∨ (0 ≤ root ∧ root < n ∧ 0 ≤ page ∧ page < 4096 ∧ 0 ≤ frame ∧ (n : Int) ≤ frame) ∨ (0 ≤ root ∧ root < n ∧ 0 ≤ page ∧ page < 4096 ∧ 0 ≤ frame ∧ frame < n ∧ asid < 0) ∨ (0 ≤ root ∧ root < n ∧ 0 ≤ page ∧ page < 4096 ∧ 0 ≤ frame ∧ frame < n ∧ 0 ≤ asid ∧ 255 < asid) := by unfold HasP at h; omega
  clear hm h
  rcases h' with h | ⟨h0, h⟩ | ⟨h0, h1, h⟩ | ⟨h0, h1, h2, h⟩ | ⟨h0, h1, h2, h3, h⟩ | ⟨h0, h1, h2, h3, h4, h⟩ | ⟨h0, h1, h2, h3, h4, h5, h⟩ | ⟨h0, h1, h2, h3, h4, h5, h6, h⟩
  all_goals
    go_enter Try.func88, Try.ntmps88
    go_wp2_with (go_at_call 30; refine HF.out.mono ?_; rintro e w1 ⟨rfl, rfl⟩)
    go_ret
    exact ⟨by first | rfl | exact ret_bool (by simp; omega), rfl⟩

def wordF (ws : List Int) (f : Found) : Int := ws.getD (f.fTable.toNat * 8 + f.fPlace.toNat) 0
/-- What Split tells. -/
def splitR (ws : List Int) (asid fresh : Int) : Option Found → StepsR
  | none => .no 2
  | some f => if f.fKind = 2 then .yes (splitS asid fresh f (decD 2 (wordF ws f))) else .no 7

theorem huge_Split_no (w : World) {b g n c : Nat} {ws : List Int} (hm : MemAt w b g n c ws) (root asid page fresh : Int) (h : ¬ HasP n root asid page fresh) :
    Calls Try.prog 42 #[.pointer (some ⟨b, 0, none⟩), .int .i64 root, .int .i64 asid, .int .i64 page, .int .i64 fresh] w fun e w' => Ext w w' ∧ e = .returned (.tuple #[.slice none 0 0, errW 1]) := by
  have HH := Lib.hid (huge_has_no w hm root asid page fresh h)
  clear hm h
  go_enter Try.func42, Try.ntmps42
  go_wp2_with fail
  refine HH.out.mono ?_
  rintro e w' ⟨rfl, rfl⟩
  go_wp2_with fail
  go_ret2
  exact ⟨(by repeat (first | exact Ext.refl _ | apply Ext.more | apply Ext.alloc | apply Ext.drew | apply Ext.drewN)), rfl⟩
theorem huge_Split_nil (w : World) (root asid page fresh : Int) :
    Calls Try.prog 42 #[.pointer none, .int .i64 root, .int .i64 asid, .int .i64 page, .int .i64 fresh] w fun e w' => Ext w w' ∧ e = .returned (.tuple #[.slice none 0 0, errW 1]) := by
  have HH : Calls Try.prog 88 #[.pointer none, .int .i64 root, .int .i64 asid, .int .i64 page, .int .i64 fresh] w fun e w' => e = .returned (.bool false) ∧ w' = w := by
    go_enter Try.func88, Try.ntmps88
    go_wp2_with fail
    go_ret
    exact ⟨rfl, rfl⟩
  go_enter Try.func42, Try.ntmps42
  go_wp2_with fail
  refine HH.mono ?_
  rintro e w' ⟨rfl, rfl⟩
  go_wp2_with fail
  go_ret2
  exact ⟨(by repeat (first | exact Ext.refl _ | apply Ext.more | apply Ext.alloc | apply Ext.drew | apply Ext.drewN)), rfl⟩

set_option maxRecDepth 100000 in
set_option maxHeartbeats 4000000 in
theorem huge_Split (w : World) {b g n c : Nat} {ws : List Int} (hm : MemAt w b g n c ws) (hw : WOk ws) (root asid page fresh : Int) (h : HasP n root asid page fresh) (r : Option Found) (hr : walkAt ws n page 4 0 root = r) :
    Calls Try.prog 42 #[.pointer (some ⟨b, 0, none⟩), .int .i64 root, .int .i64 asid, .int .i64 page, .int .i64 fresh] w fun e w' => Ext w w' ∧ StepsRet w.heap.size w' (splitR ws asid fresh r) e := by
  have HH := Lib.hid (huge_has_yes w hm root asid page fresh h)
  obtain ⟨r0, r1, p0, p1, f0, f1, a0, a1⟩ := h
  have HK := Lib.hid (extC (walk_Walk w hm hw root page r0 r1 p0 p1))
  rw [hr] at HK
  have HM := Lib.hid hm
  have HW := Lib.hid hw
  have HR := Lib.hid hr
  have hle := hm.le
  clear hm hw hr
  cases r with
  | none =>
    rw [walkV_n] at HK
    go_enter Try.func42, Try.ntmps42
    go_wp2_with fail
    refine HH.out.mono ?_
    rintro e w' ⟨rfl, hww⟩
    subst w'
    go_wp2_with fail
    refine HK.out.mono ?_
    rintro e w' ⟨⟨ex1, rfl⟩, rfl⟩
    go_wp2_with fail
    go_ret2
    exact ⟨(by repeat (first | exact Ext.refl _ | apply Ext.more | apply Ext.alloc | apply Ext.drew | apply Ext.drewN)), rfl⟩
  | some f =>
    by_cases hk : f.fKind = 2
    · obtain ⟨q1, q2, q3, q4, q5, q6, d, hd, hok, hdk⟩ := walk_block HR.out hk
      have HV := Lib.hid (show splitR ws asid fresh (some f) = .yes (splitS asid fresh f d) from by unfold splitR wordF; dsimp only; rw [if_pos hk, hd])
      have hfp : f.fFirst + 7 < 4096 ∧ 0 ≤ f.fFirst := by omega
      have hXb := HW.out.getD (f.fTable.toNat * 8 + f.fPlace.toNat)
      obtain ⟨F0, F1, F2, F3, F4, F5, F6, F7, F8, F9, F10⟩ := f
      dsimp only at hk q1 q2 q3 q4 q5 q6 hd hfp hXb
      subst hk q1
      rw [walkV_s] at HK
      obtain ⟨T, rfl⟩ := Int.eq_ofNat_of_zero_le q3
      obtain ⟨Pl, rfl⟩ := Int.eq_ofNat_of_zero_le q5
      have HL := Lib.hid (fun w (hm : MemAt w b g n c ws) => phys_Load_is w hm (T : Int) (Pl : Int) _ q3 q4 q5 q6 rfl)
      generalize hX : ws.getD ((T : Int).toNat * 8 + (Pl : Int).toNat) 0 = X at *
      have HD := Lib.hid (fun w => extC (pte_Decode w 2 X (by omega) (by omega) hXb.1 hXb.2))
      rw [hd] at HD
      have HE := Lib.hid (fun (i : Nat) (hi : i < 8) w => extC (pte_Encode_yes w 3 _ (okD_part hok hdk i hi)))
      have HT := Lib.hid (fun w => extC (pte_Encode_yes w 2 _ (okD_tab (level := 2) (by omega) (by omega) f0 (show fresh < 512 by omega))))
      obtain ⟨fo, hmod, hd0, hd1⟩ := okD_block hok hdk
      obtain ⟨d0, d1, d2, d3, d4, d5, d6⟩ := d
      dsimp only at hdk fo hmod hd0 hd1
      subst hdk fo
      obtain ⟨hf1, hf0⟩ := hfp
      clear hX hd hok hXb q2 hmod
      go_enter Try.func42, Try.ntmps42
      go_wp2_with fail
      refine HH.out.mono ?_
      rintro e w' ⟨rfl, hww⟩
      subst w'
      go_wp2_with fail
      refine HK.out.mono ?_
      rintro e w' ⟨⟨ex1, rfl⟩, rfl⟩
      go_wp2_with fail
      refine (HL.out _ (by repeat (first | exact HM.out | apply MemAt.more | apply MemAt.alloc | apply MemAt.drew | apply MemAt.drewN))).mono ?_
      rintro e w' ⟨rfl, hww⟩
      subst w'
      go_wp2_with fail
      refine (HD.out _).mono ?_
      rintro e w' ⟨⟨ex2, rfl⟩, rfl⟩
      go_wp2_with fail
      have hE1 : Ext w ((more ((more w ex1).alloc (.cells #[.int .i64 2, .int .i64 2, .int .i64 T, .int .i64 Pl, .int .i64 F4, .int .i64 F5, .int .i64 F6, .int .i64 F7, .bool F8, .bool F9, .bool F10] 80)) ex2).alloc (.cells #[.int .i64 3, .int .i64 d1, .bool d2, .bool d3, .bool d4, .bool false, .int .i64 d6] 107)) := (by repeat (first | exact Ext.refl _ | apply Ext.more | apply Ext.alloc | apply Ext.drew | apply Ext.drewN))
      have e2 : ((more ((more w ex1).alloc (.cells #[.int .i64 2, .int .i64 2, .int .i64 T, .int .i64 Pl, .int .i64 F4, .int .i64 F5, .int .i64 F6, .int .i64 F7, .bool F8, .bool F9, .bool F10] 80)) ex2).alloc (.cells #[.int .i64 3, .int .i64 d1, .bool d2, .bool d3, .bool d4, .bool false, .int .i64 d6] 107)).cell? ⟨(more w ex1).heap.size, 2, none⟩ = some (.int .i64 T) := by go_simp
      have e3 : ((more ((more w ex1).alloc (.cells #[.int .i64 2, .int .i64 2, .int .i64 T, .int .i64 Pl, .int .i64 F4, .int .i64 F5, .int .i64 F6, .int .i64 F7, .bool F8, .bool F9, .bool F10] 80)) ex2).alloc (.cells #[.int .i64 3, .int .i64 d1, .bool d2, .bool d3, .bool d4, .bool false, .int .i64 d6] 107)).cell? ⟨(more w ex1).heap.size, 3, none⟩ = some (.int .i64 Pl) := by go_simp
      have e6 : ((more ((more w ex1).alloc (.cells #[.int .i64 2, .int .i64 2, .int .i64 T, .int .i64 Pl, .int .i64 F4, .int .i64 F5, .int .i64 F6, .int .i64 F7, .bool F8, .bool F9, .bool F10] 80)) ex2).alloc (.cells #[.int .i64 3, .int .i64 d1, .bool d2, .bool d3, .bool d4, .bool false, .int .i64 d6] 107)).cell? ⟨(more w ex1).heap.size, 6, none⟩ = some (.int .i64 F6) := by go_simp
      have hb := cells7 (w := ((more ((more w ex1).alloc (.cells #[.int .i64 2, .int .i64 2, .int .i64 T, .int .i64 Pl, .int .i64 F4, .int .i64 F5, .int .i64 F6, .int .i64 F7, .bool F8, .bool F9, .bool F10] 80)) ex2).alloc (.cells #[.int .i64 3, .int .i64 d1, .bool d2, .bool d3, .bool d4, .bool false, .int .i64 d6] 107))) (heap_alloc_new _ _)
      have hs1 : ((more ((more w ex1).alloc (.cells #[.int .i64 2, .int .i64 2, .int .i64 T, .int .i64 Pl, .int .i64 F4, .int .i64 F5, .int .i64 F6, .int .i64 F7, .bool F8, .bool F9, .bool F10] 80)) ex2).alloc (.cells #[.int .i64 3, .int .i64 d1, .bool d2, .bool d3, .bool d4, .bool false, .int .i64 d6] 107)).heap.size = (more ((more w ex1).alloc (.cells #[.int .i64 2, .int .i64 2, .int .i64 T, .int .i64 Pl, .int .i64 F4, .int .i64 F5, .int .i64 F6, .int .i64 F7, .bool F8, .bool F9, .bool F10] 80)) ex2).heap.size + 1 := by simp
      have hl1 : (more w ex1).heap.size < ((more ((more w ex1).alloc (.cells #[.int .i64 2, .int .i64 2, .int .i64 T, .int .i64 Pl, .int .i64 F4, .int .i64 F5, .int .i64 F6, .int .i64 F7, .bool F8, .bool F9, .bool F10] 80)) ex2).alloc (.cells #[.int .i64 3, .int .i64 d1, .bool d2, .bool d3, .bool d4, .bool false, .int .i64 d6] 107)).heap.size := by simp [size_more]; omega
      generalize ((more ((more w ex1).alloc (.cells #[.int .i64 2, .int .i64 2, .int .i64 T, .int .i64 Pl, .int .i64 F4, .int .i64 F5, .int .i64 F6, .int .i64 F7, .bool F8, .bool F9, .bool F10] 80)) ex2).alloc (.cells #[.int .i64 3, .int .i64 d1, .bool d2, .bool d3, .bool d4, .bool false, .int .i64 d6] 107)) = W1 at *
      generalize (more ((more w ex1).alloc (.cells #[.int .i64 2, .int .i64 2, .int .i64 T, .int .i64 Pl, .int .i64 F4, .int .i64 F5, .int .i64 F6, .int .i64 F7, .bool F8, .bool F9, .bool F10] 80)) ex2).heap.size = db at *
      generalize (more w ex1).heap.size = fb at *
      have hl2 : db < W1.heap.size := by omega
      have HE1 := Lib.hid hE1
      have HS1 := Lib.hid hs1
      obtain ⟨b0, b1, b2, b3, b4, b5, b6, bf⟩ := hb
      clear hE1 hs1
      go_loopw [16, 70] (fun o i wr => ∃ q : Nat, q ≤ 8 ∧ i = .int .i64 q ∧ Ext W1 wr ∧ Hid (wr.ownsRow W1.heap.size 73 10 o (1 + q) ((clearS fresh).cells ++ CS (partsN asid fresh F6 ⟨2, d1, d2, d3, d4, false, d6⟩ q)))) (fun _ i _ => 8 - (intOf i).toNat)
      case atStart => exact ⟨0, by omega, rfl, (by repeat (first | exact Ext.refl _ | apply Ext.more | apply Ext.alloc | apply Ext.drew | apply Ext.drewN)), by show World.ownsRow _ _ _ _ _ _ _; exact own_lit' HS1.out.symm (Nat.le_refl _) rfl (by decide) rfl (by simp [CS, partsN, clearS, Step.cells])⟩
      case round =>
        obtain ⟨q, hq, rfl, ⟨x, rfl⟩, HO⟩ := hrel
        by_cases hlt : q < 8
        · have E := Lib.hid (show CS (partsN asid fresh F6 ⟨2, d1, d2, d3, d4, false, d6⟩ (q + 1)) = CS (partsN asid fresh F6 ⟨2, d1, d2, d3, d4, false, d6⟩ q) ++ (wr0 asid 3 fresh q (F6 + q) (encW ⟨3, d1 + q, d2, d3, d4, false, d6⟩)).cells from by rw [partsN_succ, CS_snoc]; rfl)
          have HEq := Lib.hid (fun w => HE.out q hlt w)
          generalize hEW : encW ⟨3, d1 + q, d2, d3, d4, false, d6⟩ = EW at *
          have hEW' : encW (partD ⟨2, d1, d2, d3, d4, false, d6⟩ q) = EW := hEW
          rw [hEW'] at HEq
          clear hEW hEW'
          have HEq' := Lib.hid (fun w => (show Calls Try.prog 91 #[.int .i64 3, .agg #[.int .i64 3, .int .i64 (d1 + q), .bool d2, .bool d3, .bool d4, .bool false, .int .i64 d6]] w _ from HEq.out w))
          clear HEq
          go_wp2_with fail
          refine (HEq'.out _).mono ?_
          rintro e w' ⟨⟨ex3, rfl⟩, rfl⟩
          go_wp2_with ((at_builtin; refine wpList_append_new W1 el_Step rfl _ _ rfl u16 (1 + q) _ rfl (by repeat (first | exact HO.out | apply own_more | apply own_alloc | apply own_drew | apply own_drewN)) (by repeat (first | exact Ext.refl _ | apply Ext.more | apply Ext.alloc | apply Ext.drew | apply Ext.drewN)) _ _ 1 _ rfl (by simp) rfl rfl (by omega) ?_); intro v' x' HO' keep; clear keep)
          go_roundw
          case rel => exact ⟨q + 1, by omega, by go_num, (by repeat (first | exact Ext.refl _ | apply Ext.more | apply Ext.alloc | apply Ext.drew | apply Ext.drewN)), by
            show World.ownsRow _ _ _ _ _ _ _
            rw [E.out, ← List.append_assoc]
            exact HO'.out⟩
          case measure => simp [intOf]; omega
        · obtain rfl : q = 8 := by omega
          have HSw := Lib.hid (fun w => huge_swap w asid T Pl F6 (fresh * 4096 + 3) hf0 hf1)
          go_wp2_with fail
          refine (HT.out _).mono ?_
          rintro e w' ⟨⟨ex3, rfl⟩, rfl⟩
          rw [show encW (tableD fresh) = fresh * 4096 + 3 from rfl]
          go_wp2_with fail
          refine (HSw.out _).mono ?_
          rintro e w' ⟨⟨ex4, rfl⟩, a2, c2, rfl, hO2⟩
          have HO2 := Lib.hid hO2
          clear hO2
          go_wp2_with (at_builtin; refine wpList_append_row W1 el_Step rfl _ _ rfl u16 (1 + 8) _ rfl (by repeat (first | exact HO.out | apply own_more | apply own_alloc | apply own_drew | apply own_drewN)) (by repeat (first | exact Ext.refl _ | apply Ext.more | apply Ext.alloc | apply Ext.drew | apply Ext.drewN)) _ _ 10 _ rfl (by repeat (first | exact HO2.out | apply own_more | apply own_alloc | apply own_drew | apply own_drewN)) (by omega) (CS_one _) (by omega) ?_; intro v1 x1' HO1 keep; clear keep)
          go_ret2
          refine ⟨(by repeat (first | exact HE1.out | apply Ext.more | apply Ext.alloc | apply Ext.drew | apply Ext.drewN)), ?_⟩
          rw [HV.out]
          exact stepsRet_yes rfl HO1.out (Ext.size HE1.out) rfl (by simp [splitS, CS])
    · have HV := Lib.hid (show splitR ws asid fresh (some f) = .no 7 from by unfold splitR; dsimp only; rw [if_neg hk])
      obtain ⟨F0, F1, F2, F3, F4, F5, F6, F7, F8, F9, F10⟩ := f
      dsimp only at hk
      have z2 : (F0 != 2) = true := by simpa using hk
      rw [walkV_s] at HK
      clear HR hk
      go_enter Try.func42, Try.ntmps42
      go_wp2_with fail
      refine HH.out.mono ?_
      rintro e w' ⟨rfl, hww⟩
      subst w'
      go_wp2_with fail
      refine HK.out.mono ?_
      rintro e w' ⟨⟨ex1, rfl⟩, rfl⟩
      go_wp2_with fail
      go_ret2
      rw [HV.out]
      exact ⟨(by repeat (first | exact Ext.refl _ | apply Ext.more | apply Ext.alloc | apply Ext.drew | apply Ext.drewN)), rfl⟩

/-- What the document's Split tells. -/
def RStepsRet (B : Nat) (w' : World) (r : StepsR) (e : Ending) : Prop := match r with
  | .yes s => ∃ a cap, e = .returned (.tuple #[.slice a s.length cap, .int .i64 0]) ∧ OwnS w' B (.slice a s.length cap) s
  | .no k => e = .returned (.tuple #[.slice none 0 0, .int .i64 k])
theorem rstepsRet_yes {B B' n : Nat} {w' : World} {r : StepsR} {s : List Step} {v : Value} {xs : List Value} (hr : r = .yes s) (h : w'.ownsRow B' 73 10 v n xs) (hb : B ≤ B') (hn : n = s.length) (hx : xs = (s.map Step.cells).flatten) : RStepsRet B w' r (.returned (.tuple #[v, .int .i64 0])) := by
  obtain ⟨a, cap, rfl⟩ := own_form h
  subst hn hx hr
  exact ⟨a, cap, rfl, own_low h hb⟩

end Go.Proofs.Ytapeoeakiphfpaa

/- Steps that make pages a block: plain laws; the contracts of huge.pages, huge.away, huge.fill. -/
namespace Go.Proofs.Ytapeoeakiphfpaa
open Go.RowKit
set_option linter.unusedVariables false
set_option linter.unusedSimpArgs false
attribute [local go_sem] setCell_drewN alloc_drewN lt_moreE le_moreE lt_moreK le_moreK cell_more frozen_more set_more drew_more drewN_more

/-- What a word of a table of the last level says. -/
def wordD (ws : List Int) (t : Int) (i : Nat) : Desc := decD 3 (ws.getD (t.toNat * 8 + i) 0)
/-- The pages that a table's first k words say; none: one says neither none nor a page. -/
def pagesN (ws : List Int) (t first : Int) : Nat → Option (List (Int × Int))
  | 0 => some []
  | k + 1 => (pagesN ws t first k).bind fun l => if (wordD ws t k).fKind = 0 then some l else if (wordD ws t k).fKind = 3 then some (l ++ [(first + k, (wordD ws t k).fFrame)]) else none
theorem pagesN_step {ws : List Int} {t first : Int} {q : Nat} {acc : List (Int × Int)} {d : Desc} (h : pagesN ws t first q = some acc) (hd : wordD ws t q = d) : pagesN ws t first (q + 1) = if d.fKind = 0 then some acc else if d.fKind = 3 then some (acc ++ [(first + q, d.fFrame)]) else none := by
  subst hd
  conv => lhs; unfold pagesN
  rw [h]; rfl
theorem pagesN_none {ws : List Int} {t first : Int} {k : Nat} (h : pagesN ws t first k = none) : ∀ j, pagesN ws t first (k + j) = none := by
  intro j
  induction j with
  | zero => exact h
  | succ j ih =>
    show pagesN ws t first ((k + j) + 1) = none
    conv => lhs; unfold pagesN
    rw [ih]; rfl
/-- The pages from the i-th word on. -/
def pgs (ws : List Int) (t first : Int) (i : Nat) : List (Int × Int) := ((List.range 8).drop i).filterMap fun j : Nat => if (wordD ws t j).fKind = 3 then some (first + (j : Int), (wordD ws t j).fFrame) else none
theorem pgs_yes {ws : List Int} {t first : Int} {i : Nat} (hi : i < 8) (h : (wordD ws t i).fKind = 3) : pgs ws t first i = (first + (i : Int), (wordD ws t i).fFrame) :: pgs ws t first (i + 1) := by
  unfold pgs
  rw [List.drop_eq_getElem_cons (by simpa using hi), List.getElem_range, List.filterMap_cons]
  rw [if_pos h]
theorem pgs_no {ws : List Int} {t first : Int} {i : Nat} (hi : i < 8) (h : (wordD ws t i).fKind ≠ 3) : pgs ws t first i = pgs ws t first (i + 1) := by
  unfold pgs
  rw [List.drop_eq_getElem_cons (by simpa using hi), List.getElem_range, List.filterMap_cons]
  rw [if_neg h]
theorem pgs_end {ws : List Int} {t first : Int} : pgs ws t first 8 = [] := by unfold pgs; rw [List.drop_of_length_le (by simp)]; rfl
theorem pgs_in {ws : List Int} {t first : Int} {i : Nat} : ∀ z ∈ pgs ws t first i, ∃ j : Nat, i ≤ j ∧ j < 8 ∧ (wordD ws t j).fKind = 3 ∧ z = (first + (j : Int), (wordD ws t j).fFrame) := by
  intro z hz
  unfold pgs at hz
  obtain ⟨j, hj, hf⟩ := List.mem_filterMap.1 hz
  obtain ⟨k, hk, rfl⟩ := List.getElem_of_mem hj
  rw [List.getElem_drop, List.getElem_range] at hf
  simp at hk
  split at hf
  · cases hf
    exact ⟨i + k, by omega, by omega, by rwa [List.getElem_drop, List.getElem_range] at *, by simp⟩
  · cases hf
theorem pgs_len {ws : List Int} {t first : Int} {i : Nat} : (pgs ws t first i).length ≤ 8 - i := by
  unfold pgs
  refine Nat.le_trans (List.length_filterMap_le _ _) (by simp)
theorem pagesN_pre {ws : List Int} {t first : Int} : ∀ (k : Nat) (l : List (Int × Int)), k ≤ 8 → pagesN ws t first k = some l → pgs ws t first 0 = l ++ pgs ws t first k ∧ ∀ j, j < k → (wordD ws t j).fKind = 0 ∨ (wordD ws t j).fKind = 3 := by
  intro k
  induction k with
  | zero => intro l _ h; cases h; exact ⟨by simp, fun j hj => by omega⟩
  | succ k ih =>
    intro l hk h
    cases hp : pagesN ws t first k with
    | none => unfold pagesN at h; rw [hp] at h; cases h
    | some acc =>
      rw [pagesN_step hp rfl] at h
      obtain ⟨h1, h2⟩ := ih acc (by omega) hp
      split at h
      · rename_i h0
        cases h
        refine ⟨by rw [h1, pgs_no (by omega) (by omega)], fun j hj => ?_⟩
        by_cases e : j = k
        · subst e; exact .inl h0
        · exact h2 j (by omega)
      · split at h
        · rename_i h3
          cases h
          refine ⟨by rw [h1, pgs_yes (by omega) h3]; simp, fun j hj => ?_⟩
          by_cases e : j = k
          · subst e; exact .inr h3
          · exact h2 j (by omega)
        · cases h
theorem pagesN_pgs {ws : List Int} {t first : Int} {l : List (Int × Int)} (h : pagesN ws t first 8 = some l) : l = pgs ws t first 0 ∧ ∀ j, j < 8 → (wordD ws t j).fKind = 0 ∨ (wordD ws t j).fKind = 3 := by
  obtain ⟨h1, h2⟩ := pagesN_pre 8 l (by omega) h
  rw [pgs_end, List.append_nil] at h1
  exact ⟨h1.symm, h2⟩
/-- The steps that take pages away. -/
def awayM (l : List (Int × Int)) (asid t first : Int) : List Step := (l.map fun z => wr0 asid 3 t (z.1 - first) z.1 0) ++ l.map fun z => tellS asid z.1
theorem awayM_len (l : List (Int × Int)) (asid t first : Int) : (awayM l asid t first).length = l.length + l.length := by simp [awayM]
def copyS (to frm : Int) (k : Int) : Step := ⟨5, 0, 0, 0, 0, 0, 0, to, frm, k⟩
def copiesN (to frm : Int) (k : Nat) : List Step := (List.range k).map fun i : Nat => copyS to frm i
theorem copiesN_succ (to frm : Int) (k : Nat) : copiesN to frm (k + 1) = copiesN to frm k ++ [copyS to frm k] := by unfold copiesN; rw [List.range_succ, List.map_append]; rfl
theorem copiesN_len (to frm : Int) (k : Nat) : (copiesN to frm k).length = k := by simp [copiesN]
/-- The steps that fill a block's frames. -/
def fillOne (ws : List Int) (t base : Int) (i : Nat) : List Step := if (wordD ws t i).fKind = 3 then copiesN (base + i) (wordD ws t i).fFrame 8 else [clearS (base + i)]
def fillN (ws : List Int) (t base : Int) : Nat → List Step
  | 0 => []
  | k + 1 => fillN ws t base k ++ fillOne ws t base k
theorem fillOne_len (ws : List Int) (t base : Int) (i : Nat) : 1 ≤ (fillOne ws t base i).length ∧ (fillOne ws t base i).length ≤ 8 := by
  unfold fillOne
  split
  · rw [copiesN_len]; omega
  · simp
theorem fillN_len (ws : List Int) (t base : Int) : ∀ k, k ≤ (fillN ws t base k).length ∧ (fillN ws t base k).length ≤ 8 * k := by
  intro k
  induction k with
  | zero => simp [fillN]
  | succ k ih => have := fillOne_len ws t base k; simp only [fillN, List.length_append]; omega

theorem el_Mapped : ElemAt Try.prog 100 104 (.agg #[.int .i64 0, .int .i64 0]) 2 16 := ⟨Try.underlying100, by kernel_rfl, rfl, by decide, by decide⟩
def PagesRet (B : Nat) (w' : World) (r : Option (List (Int × Int))) (e : Ending) : Prop := match r with
  | some l => ∃ a cap, e = .returned (.tuple #[.slice a l.length cap, .bool true]) ∧ w'.ownsRow B 104 2 (.slice a l.length cap) l.length (l.map slotC).flatten
  | none => e = .returned (.tuple #[.slice none 0 0, .bool false])
theorem pagesRet_some {B B' n : Nat} {w' : World} {r : Option (List (Int × Int))} {s : List (Int × Int)} {v : Value} {xs : List Value} (hr : r = some s) (h : w'.ownsRow B' 104 2 v n xs) (hb : B ≤ B') (hn : n = s.length) (hx : xs = (s.map slotC).flatten) : PagesRet B w' r (.returned (.tuple #[v, .bool true])) := by
  obtain ⟨a, cap, rfl⟩ := own_form h
  subst hn hx hr
  exact ⟨a, cap, rfl, own_low h hb⟩

set_option maxRecDepth 100000 in
set_option maxHeartbeats 4000000 in
theorem huge_pages (w : World) {b g n c : Nat} {ws : List Int} (hm : MemAt w b g n c ws) (hw : WOk ws) (t first : Int) (t0 : 0 ≤ t) (t1 : t < n) (f0 : 0 ≤ first) (f1 : first < 4096) (r : Option (List (Int × Int))) (hr : pagesN ws t first 8 = r) :
    Calls Try.prog 107 #[.pointer (some ⟨b, 0, none⟩), .int .i64 t, .int .i64 first] w fun e w' => Ext w w' ∧ PagesRet w.heap.size w' r e := by
  have HM := Lib.hid hm
  have HW := Lib.hid hw
  have HR := Lib.hid hr
  clear hm hw hr
  go_enter Try.func107, Try.ntmps107
  go_wp2_with fail
  go_loopw [8, 13] (fun o i wr => ∃ (q : Nat) (acc : List (Int × Int)), q ≤ 8 ∧ acc.length ≤ q ∧ i = .int .i64 q ∧ Ext w wr ∧ Hid (pagesN ws t first q = some acc) ∧ Hid (wr.ownsRow w.heap.size 104 2 o acc.length (acc.map slotC).flatten)) (fun _ i _ => 8 - (intOf i).toNat)
  case atStart => exact ⟨0, [], by omega, by simp, rfl, (by repeat (first | exact Ext.refl _ | apply Ext.more | apply Ext.alloc | apply Ext.drew | apply Ext.drewN)), rfl, World.ownsRow_nil _ _ _ _⟩
  case round =>
    obtain ⟨q, acc, hq, hac, rfl, ⟨x, rfl⟩, HP, HO⟩ := hrel
    by_cases hlt : q < 8
    · have hx := HW.out.getD (t.toNat * 8 + q)
      have HS := Lib.hid (pagesN_step HP.out rfl)
      unfold wordD at HS
      have HL := Lib.hid (fun w hm => phys_Load_is w (b := b) (g := g) (n := n) (c := c) (ws := ws) hm t (q : Int) (ws.getD (t.toNat * 8 + q) 0) t0 t1 (by omega) (by omega) rfl)
      generalize ws.getD (t.toNat * 8 + q) 0 = X at *
      obtain ⟨x0, x1⟩ := hx
      have HDc := Lib.hid (fun w => extC (pte_Decode w 3 X (by omega) (by omega) x0 x1))
      generalize decD 3 X = d at *
      obtain ⟨d0, d1, d2, d3, d4, d5, d6⟩ := d
      dsimp only at HS
      by_cases h0 : d0 = 0
      · have HS' := Lib.hid (HS.out.trans (if_pos h0))
        subst h0
        clear HS HP
        go_wp2_with fail
        refine (HL.out _ (by repeat (first | exact HM.out | apply MemAt.more | apply MemAt.alloc | apply MemAt.drew | apply MemAt.drewN))).mono ?_
        rintro e w' ⟨rfl, hww⟩
        subst w'
        go_wp2_with fail
        refine (HDc.out _).mono ?_
        rintro e w' ⟨⟨ex2, rfl⟩, rfl⟩
        go_wp2_with fail
        go_roundw
        case rel => exact ⟨q + 1, acc, by omega, by omega, by go_num, (by repeat (first | exact Ext.refl _ | apply Ext.more | apply Ext.alloc | apply Ext.drew | apply Ext.drewN)), HS', (by repeat (first | exact HO.out | apply own_more | apply own_alloc | apply own_drew | apply own_drewN))⟩
        case measure => simp [intOf]; omega
      · have b0 : (d0 != 0) = true := by simpa using h0
        by_cases h3 : d0 = 3
        · have HS' := Lib.hid (HS.out.trans ((if_neg h0).trans (if_pos h3)))
          subst h3
          clear HS HP h0
          go_wp2_with fail
          refine (HL.out _ (by repeat (first | exact HM.out | apply MemAt.more | apply MemAt.alloc | apply MemAt.drew | apply MemAt.drewN))).mono ?_
          rintro e w' ⟨rfl, hww⟩
          subst w'
          go_wp2_with fail
          refine (HDc.out _).mono ?_
          rintro e w' ⟨⟨ex2, rfl⟩, rfl⟩
          go_wp2_with ((at_builtin; refine wpList_append_new w el_Mapped rfl _ _ rfl u8 acc.length _ rfl (by repeat (first | exact HO.out | apply own_more | apply own_alloc | apply own_drew | apply own_drewN)) (by repeat (first | exact Ext.refl _ | apply Ext.more | apply Ext.alloc | apply Ext.drew | apply Ext.drewN)) _ _ 1 _ rfl (by simp) rfl rfl (by omega) ?_); intro v' x' HO' keep; clear keep)
          go_roundw
          case rel => exact ⟨q + 1, acc ++ [(first + q, d1)], by omega, by simp only [List.length_append, List.length_cons, List.length_nil]; omega, by go_num, (by repeat (first | exact Ext.refl _ | apply Ext.more | apply Ext.alloc | apply Ext.drew | apply Ext.drewN)), HS', (by show World.ownsRow _ _ _ _ _ _ _; simpa [slotC] using HO'.out)⟩
          case measure => simp [intOf]; omega
        · have b3 : (d0 != 3) = true := by simpa using h3
          have HS' := Lib.hid (show r = none from HR.out.symm.trans (by
            have := pagesN_none (HS.out.trans ((if_neg h0).trans (if_neg h3))) (7 - q)
            rwa [show q + 1 + (7 - q) = 8 by omega] at this))
          clear HS HP h0 h3
          go_wp2_with fail
          refine (HL.out _ (by repeat (first | exact HM.out | apply MemAt.more | apply MemAt.alloc | apply MemAt.drew | apply MemAt.drewN))).mono ?_
          rintro e w' ⟨rfl, hww⟩
          subst w'
          go_wp2_with fail
          refine (HDc.out _).mono ?_
          rintro e w' ⟨⟨ex2, rfl⟩, rfl⟩
          go_wp2_with fail
          go_ret2
          exact ⟨(by repeat (first | exact Ext.refl _ | apply Ext.more | apply Ext.alloc | apply Ext.drew | apply Ext.drewN)), by rw [HS'.out]; rfl⟩
    · obtain rfl : q = 8 := by omega
      go_wp2_with fail
      go_ret2
      exact ⟨(by repeat (first | exact Ext.refl _ | apply Ext.more | apply Ext.alloc | apply Ext.drew | apply Ext.drewN)), pagesRet_some (HR.out.symm.trans HP.out) HO.out (Nat.le_refl _) rfl rfl⟩

end Go.Proofs.Ytapeoeakiphfpaa
