import Derived.Test.YthcdecgecabgaaaBErrisMovpSplitMergeMergfPathrPatht
import Derived.Test.YthcdecgecabgaaaPrune
import Derived.Test.YthcdecgecabgaaaOpen
import Derived.Test.YthcdecgecabgaaaBPtdFound
import Derived.Test.YthcdecgecabgaaaBMorfBeds
import Derived.Deep.QuietTactic
import Derived.BigQuiet
import Derived.Test.YthcdecgecabgaaaBRefgCodeLawgNeed
import Derived.Test.YthcdecgecabgaaaWipe
/- The contract of huge.Merge. -/
namespace Go.Proofs.Ythcdecgecabgaaa
open Go.RowKit
set_option linter.unusedVariables false
set_option linter.unusedSimpArgs false
attribute [local go_sem] setCell_drewN alloc_drewN lt_moreE le_moreE lt_moreK le_moreK cell_more frozen_more set_more drew_more drewN_more

theorem results_tmp4 {fn : Func} {t u v x : Tmp} (h : fn.results = #[.tmp t, .tmp u, .tmp v, .tmp x]) (tmps : Array Value) (P : Program) (w : World) :
    (results fn tmps).run P w = .ok (.tuple #[tmps.getD t undef, tmps.getD u undef, tmps.getD v undef, tmps.getD x undef]) w := by
  simp [results, h]
theorem way_take {ws : List Int} {n page : Int} : ∀ (k : Nat) (l tb : Int) (s : List (Int × Int)) (d : Desc), 1 ≤ k → wayAt ws n page (k + 1) l tb = some (s, d) → s.length = k + 1 → ∃ d', wayAt ws n page k l tb = some (s.take k, d') := by
  intro k
  induction k with
  | zero => intro l tb s d h; omega
  | succ k ih =>
    intro l tb s d _ h hl
    rw [wayAt_in rfl rfl rfl] at h
    split at h
    · simp only [Option.some.injEq, Prod.mk.injEq] at h
      rw [← h.1] at hl
      simp at hl
    · rename_i hc
      split at h
      · rename_i ht
        rw [Option.map_eq_some_iff] at h
        obtain ⟨⟨s', d'⟩, h1, h2⟩ := h
        simp only [Prod.mk.injEq] at h2
        obtain ⟨rfl, rfl⟩ := h2
        simp at hl
        rw [wayAt_in rfl rfl rfl]
        by_cases hk : k = 0
        · subst hk
          rw [if_pos (.inl rfl)]
          exact ⟨decD l (ws.getD (tb.toNat * 8 + (placeN l page).toNat) 0), by simp⟩
        · rw [if_neg (by intro e; rcases e with e | e; exact hk e; exact hc (.inr e)), if_pos ht]
          obtain ⟨d2, h3⟩ := ih _ _ _ _ (by omega) h1 (by omega)
          rw [h3]
          exact ⟨d2, by simp⟩
      · cases h
def blockD (base : Int) (wr ex : Bool) : Desc := ⟨2, base, wr, ex, false, false, 0⟩
def MayM (n : Nat) (root asid page base : Int) : Prop := HasP n root asid page base ∧ base + 7 < n ∧ base % 8 = 0 ∧ page % 8 = 0
def mergeS (ws : List Int) (asid page base : Int) (wr ex : Bool) (t tb : Int) (l : List (Int × Int)) : List Step := ((awayM l asid t page ++ fillN ws t base 8) ++ swapS asid tb (placeN 2 page) page (encW (blockD base wr ex))) ++ [dropS t]
/-- What Merge tells. -/
inductive MergeR where
  | yes (s : List Step) (t : Int) (l : List (Int × Int))
  | no (k : Nat)
def MergeRet (B : Nat) (w' : World) (nok : Value) (r : MergeR) (e : Ending) (err : Nat → Value) : Prop := match r with
  | .yes s t l => ∃ a cap a2 cap2, e = .returned (.tuple #[.slice a s.length cap, .int .i64 t, .slice a2 l.length cap2, nok]) ∧ OwnS w' B (.slice a s.length cap) s ∧ w'.ownsRow B 171 2 (.slice a2 l.length cap2) l.length (l.map slotC).flatten
  | .no k => e = .returned (.tuple #[.slice none 0 0, .int .i64 0, .slice none 0 0, err k])
theorem mergeRet_yes {B B1 B2 n m : Nat} {w' : World} {r : MergeR} {s : List Step} {t : Int} {l : List (Int × Int)} {v u nok : Value} {xs ys : List Value} {err : Nat → Value} (hr : r = .yes s t l) (h : w'.ownsRow B1 46 10 v n xs) (h2 : w'.ownsRow B2 171 2 u m ys) (hb : B ≤ B1) (hb2 : B ≤ B2)
    (hn : n = s.length) (hx : xs = CS s) (hm : m = l.length) (hy : ys = (l.map slotC).flatten) : MergeRet B w' nok r (.returned (.tuple #[v, .int .i64 t, u, nok])) err := by
  obtain ⟨a, cap, rfl⟩ := own_form h
  obtain ⟨a2, cap2, rfl⟩ := own_form h2
  subst hn hx hm hy hr
  exact ⟨a, cap, a2, cap2, rfl, own_low h hb, own_low h2 hb2⟩
def mergeRes (ws : List Int) (asid page base : Int) (wr ex : Bool) : Option (List (Int × Int) × Desc) → MergeR
  | none => .no 2
  | some (s, d) => if s.length < 4 then .no 7 else match pagesN ws (s.getD 3 (0, 0)).1 page 8 with
    | none => .no 7
    | some l => .yes (mergeS ws asid page base wr ex (s.getD 3 (0, 0)).1 (s.getD 2 (0, 0)).1 l) (s.getD 3 (0, 0)).1 l
theorem okD_blk {base : Int} {wr ex : Bool} (h0 : 0 ≤ base) (h1 : base < 512) (h2 : base % 8 = 0) : okD 2 (blockD base wr ex) = true := by
  unfold okD mayD blockD
  simp
  omega
theorem okD_blk_no {base : Int} {wr ex : Bool} (h : okD 2 (blockD base wr ex) = true) : 0 ≤ base ∧ base < 512 ∧ base % 8 = 0 := by
  obtain ⟨h1, h2, h3, h4⟩ := okD_block h rfl
  obtain ⟨_, _, h5, h6, _⟩ := okD_parts h
  exact ⟨h3, h6, h2⟩

end Go.Proofs.Ythcdecgecabgaaa

/- Plain laws on areas: of which area's block a page may be. -/
namespace Go.Proofs.Ythcdecgecabgaaa
open Go.RowKit
set_option linter.unusedVariables false
set_option linter.unusedSimpArgs false
end Go.Proofs.Ythcdecgecabgaaa

/- The contracts of huge.Fits and of the document's answer paviorref16.Fits; the head of layer 16's laws; the law paviorlaw16.HugeFits. -/
namespace Go.Proofs.Ythcdecgecabgaaa
open Go.RowKit
set_option linter.unusedVariables false
set_option linter.unusedSimpArgs false
attribute [local go_sem] setCell_drewN alloc_drewN lt_moreE le_moreE lt_moreK le_moreK cell_more frozen_more set_more drew_more drewN_more
def idxR : Option Nat → Int
  | some k => k
  | none => -1

end Go.Proofs.Ythcdecgecabgaaa

/- The head of layer 16's laws; the laws paviorlaw16.HugeFits, paviorlaw16.HugeSplits. -/
namespace Go.Proofs.Ythcdecgecabgaaa
open Go.RowKit
set_option linter.unusedVariables false
set_option linter.unusedSimpArgs false
attribute [local go_sem] setCell_drewN alloc_drewN lt_moreE le_moreE lt_moreK le_moreK cell_more frozen_more set_more drew_more drewN_more
end Go.Proofs.Ythcdecgecabgaaa

/- The law paviorlaw16.HugeSplits. -/
namespace Go.Proofs.Ythcdecgecabgaaa
open Go.RowKit
set_option linter.unusedVariables false
set_option linter.unusedSimpArgs false
attribute [local go_sem] setCell_drewN alloc_drewN lt_moreE le_moreE lt_moreK le_moreK cell_more frozen_more set_more drew_more drewN_more
theorem splitR_no {ws : List Int} {asid fresh : Int} {r : Option Found} {k : Nat} (h : splitR ws asid fresh r = .no k) : k = 2 ∨ k = 7 := by
  unfold splitR at h
  split at h
  · cases h; exact .inl rfl
  · split at h
    · cases h
    · cases h; exact .inr rfl
theorem splitR_len {ws : List Int} {asid fresh : Int} {r : Option Found} {s : List Step} (h : splitR ws asid fresh r = .yes s) : s.length = 19 := by
  unfold splitR at h
  split at h
  · cases h
  · split at h
    · cases h; exact splitS_len _ _ _ _
    · cases h

end Go.Proofs.Ythcdecgecabgaaa

/- The law paviorlaw16.HugeStays. -/
namespace Go.Proofs.Ythcdecgecabgaaa
open Go.RowKit
set_option linter.unusedVariables false
set_option linter.unusedSimpArgs false
attribute [local go_sem] setCell_drewN alloc_drewN lt_moreE le_moreE lt_moreK le_moreK cell_more frozen_more set_more drew_more drewN_more

/-- An error, or none: compared with nil. -/
theorem nil_told {ev : Value} (h : ev = .nilIface ∨ ∃ k : Nat, ev = errW k) : ∃ b : Bool, (∀ w, (binOp .eql 33 ev .nilIface).run Try.prog w = .ok (.bool b) w) ∧ ∀ x c w, (eqGuard .eql 33 x (.const c) ev .nilIface).run Try.prog w = .ok () w := by
  have h1 : ∀ (w : World) (d : Nat) (tp : TypeId) (v : Value), (Op.equalIn (d + 1) 33 (.iface tp v) .nilIface).run Try.prog w = .ok false w := fun w d tp v => by simp [Op.equalIn, run_underlying Try.underlying33]
  have h2 : ∀ (w : World) (d : Nat), (Op.equalIn (d + 1) 33 .nilIface .nilIface).run Try.prog w = .ok true w := fun w d => by simp [Op.equalIn, run_underlying Try.underlying33]
  rcases h with rfl | ⟨k, rfl⟩
  · exact ⟨true, fun w => by simp only [binOp]; simp [Op.equal, Op.maxDepth, h2 w 9999], fun x c w => by simp [eqGuard]⟩
  · exact ⟨false, fun w => by simp only [binOp]; simp [Op.equal, Op.maxDepth, h1 w 9999], fun x c w => by simp [eqGuard]⟩
theorem first_split (ws : List Int) (asid fresh : Int) (r : Option Found) : FirstK 4 (splitR ws asid fresh r) := by
  intro s hs
  have hl := splitR_len hs
  refine ⟨by omega, fun h hh => ?_⟩
  unfold splitR at hs
  split at hs
  · cases hs
  · split at hs
    · cases hs
      simp [splitS] at hh
      rw [← hh]; rfl
    · cases hs
/-- What was told of a merging. -/
def ToldM (k j : Nat) (ev : Value) (B : Nat) (w' : World) (e : Ending) : Prop := ∃ a cap t a2 cap2, e = .returned (.tuple #[.slice a k cap, .int .i64 t, .slice a2 j cap2, ev]) ∧ Row w' B 171 2 (.slice a2 j cap2) j ∧ j ≤ cap2 ∧ cap2 ≤ maxLen
/-- A row's cells at the q-th element of two. -/
theorem row_two {w : World} {g n : Nat} (h : ∀ j, j < n * 2 → ∃ u, w.cell? ⟨g, j, none⟩ = some u) (q : Nat) (hq : q < n) : ∃ u0 u1, w.cell? ⟨g, q * 2, none⟩ = some u0 ∧ w.cell? ⟨g, q * 2 + 1, none⟩ = some u1 := by
  obtain ⟨u0, h0⟩ := h (q * 2) (by omega)
  obtain ⟨u1, h1⟩ := h (q * 2 + 1) (by omega)
  exact ⟨u0, u1, h0, h1⟩
theorem row_aside {w : World} {B sz n g : Nat} {T : TypeId} {v : Value} (h : Row w B T sz v n) (hg : g < B) (j : Nat) (u : Value) : Row (w.setCell ⟨g, j, none⟩ u) B T sz v n := ⟨_, ownsRow_setCell_below h.choose_spec (a := ⟨g, j, none⟩) hg u⟩

end Go.Proofs.Ythcdecgecabgaaa

/- The contract of move.places. -/
namespace Go.Proofs.Ythcdecgecabgaaa
open Go.RowKit
set_option linter.unusedVariables false
set_option linter.unusedSimpArgs false
attribute [local go_sem] setCell_drewN alloc_drewN lt_moreE le_moreE lt_moreK le_moreK cell_more frozen_more set_more drew_more drewN_more

/-- What move.places holds while it reads the pages. -/
structure PSt where
  out : List Place
  s1 : Bool
  s2 : Bool
  s3 : Bool
def stepP (t : PSt) : FindR → PSt
  | .yes p => ⟨t.out ++ [p], t.s1, t.s2, t.s3 || t.out.any (sameP p.tb p.pl)⟩
  | .no k => if k = 1 then ⟨t.out, true, t.s2, t.s3⟩ else if k = 2 then ⟨t.out, t.s1, true, t.s3⟩ else ⟨t.out, t.s1, t.s2, true⟩
def placesF (f : Int × Int → FindR) (pages : List (Int × Int)) : PSt := pages.foldl (fun t x => stepP t (f x)) ⟨[], false, false, false⟩
theorem placesF_snoc {f : Int × Int → FindR} {pages : List (Int × Int)} {q : Nat} {z : Int × Int} (h : pages[q]? = some z) : placesF f (pages.take (q + 1)) = stepP (placesF f (pages.take q)) (f z) := by
  unfold placesF
  rw [take_snoc h, List.foldl_append]
  rfl
abbrev OwnPl (w : World) (B : Nat) (v : Value) (l : List Place) : Prop := w.ownsRow B 130 11 v l.length (l.map Place.cells).flatten
def PlacesRet (B : Nat) (w' : World) (t : PSt) (e : Ending) : Prop :=
  if t.s1 = true then e = .returned (.tuple #[.slice none 0 0, errW 1]) else if t.s2 = true then e = .returned (.tuple #[.slice none 0 0, errW 2]) else if t.s3 = true then e = .returned (.tuple #[.slice none 0 0, errW 7])
  else ∃ a cap, e = .returned (.tuple #[.slice a t.out.length cap, .nilIface]) ∧ OwnPl w' B (.slice a t.out.length cap) t.out
theorem el_Place : ElemAt Try.prog 122 130 (.agg zeroPl.cells.toArray) 11 64 := ⟨Try.underlying122, by kernel_rfl, rfl, by decide, by decide⟩
theorem places_snoc (l : List Place) (p : Place) : ((l ++ [p]).map Place.cells).flatten = (l.map Place.cells).flatten ++ p.cells := by simp

set_option maxRecDepth 100000 in
set_option maxHeartbeats 8000000 in
theorem move_places (w : World) {b g n c : Nat} {ws : List Int} (hm : MemAt w b g n c ws) (hw : WOk ws) (roots : List (Int × Int)) (rv : Value) (hrv : SlRd w rv 2 (roots.map slotC)) (pages : List (Int × Int)) (pv : Value) (hpv : SlRd w pv 2 (pages.map slotC)) (hpl : pages.length ≤ 1000000) (frm : Int) :
    Calls Try.prog 65 #[.pointer (some ⟨b, 0, none⟩), rv, pv, .int .i64 frm] w fun e w' => Ext w w' ∧ PlacesRet w.heap.size w' (placesF (fun x => findR ws n roots x.1 x.2 frm) pages) e := by
  have HM := Lib.hid hm
  have HW := Lib.hid hw
  have HV := Lib.hid hrv
  obtain ⟨ra, rcap, rfl, hrcap, _⟩ := hrv.form
  obtain ⟨fa, fcap, rfl, hfcap, hfc⟩ := hpv.form
  rw [List.length_map] at *
  have HFC := Lib.hid hfc
  have HFd := Lib.hid (fun w' hm' hv' a pg => move_find w' (b := b) (g := g) (n := n) (c := c) (ws := ws) hm' hw roots (.slice ra roots.length rcap) hv' a pg frm _ rfl)
  generalize hf : (fun x : Int × Int => findR ws n roots x.1 x.2 frm) = f
  have HF := Lib.hid (fun a pg => (congrFun hf (a, pg) : findR ws n roots a pg frm = f (a, pg)))
  clear hm hw hrv hpv hfc hfcap hrcap hf
  go_enter Try.func65, Try.ntmps65
  go_wp2_with fail
  go_loopw [10, 11, 12, 13, 20] (fun o b1 b2 b3 i wr => ∃ q : Nat, ∃ t : PSt, q ≤ pages.length ∧ t.out.length ≤ q ∧ i = .int .i64 q ∧ Ext w wr ∧ b1 = .bool t.s1 ∧ b2 = .bool t.s2 ∧ b3 = .bool t.s3 ∧ Hid (placesF f (pages.take q) = t) ∧ Hid (OwnPl wr w.heap.size o t.out)) (fun _ _ _ _ i _ => pages.length - (intOf i).toNat)
  case atStart => exact ⟨0, ⟨[], false, false, false⟩, by omega, by simp, rfl, Ext.refl _, rfl, rfl, rfl, rfl, World.ownsRow_nil _ _ _ _⟩
  case round =>
    obtain ⟨q, ⟨out, s1, s2, s3⟩, hq, hlen, rfl, ⟨x, rfl⟩, rfl, rfl, rfl, HS, HO⟩ := hrel
    dsimp only at hlen HO
    by_cases hlt : q < pages.length
    · have hz : pages[q]? = some pages[q] := List.getElem?_eq_getElem hlt
      obtain ⟨fb, fo, rfl, hfb, hcl⟩ := HFC.out q (slotC pages[q]) (by rw [List.getElem?_map, hz]; rfl) (by simp [slotC])
      obtain ⟨k1, k2, k3⟩ := lt_facts hfb
      have x0 := hcl 0 _ rfl
      have x1 := hcl 1 _ rfl
      rw [← Nat.add_assoc] at x0 x1
      simp only [Nat.add_zero] at x0
      have HS1 := Lib.hid ((placesF_snoc (f := f) hz).trans (congrArg (fun t => stepP t (f pages[q])) HS.out))
      generalize pages[q] = z at *
      obtain ⟨za, zp⟩ := z
      dsimp only at x0 x1 HS1
      have HG := Lib.hid (fun w' hm' hv' => HFd.out w' hm' hv' za zp)
      rw [HF.out] at HG
      clear hz hcl HS
      generalize f (za, zp) = R at *
      cases R with
      | yes p =>
        obtain ⟨pa, pp, pt, pq, d0, d1, d2, d3, d4, d5, d6⟩ := p
        have E := Lib.hid (places_snoc out ⟨pa, pp, pt, pq, d0, d1, d2, d3, d4, d5, d6⟩)
        simp only [findV, Place.cells] at HG
        cases s3 with
        | true =>
          have HS2 := Lib.hid (show placesF f (pages.take (q + 1)) = ⟨out ++ [⟨pa, pp, pt, pq, d0, d1, d2, d3, d4, d5, d6⟩], s1, s2, true⟩ from HS1.out)
          clear HS1
          go_wp2_with fail
          refine (HG.out _ (by repeat (first | exact HM.out | apply MemAt.more | apply MemAt.alloc | apply MemAt.drew | apply MemAt.drewN)) (by repeat (first | exact HV.out | apply rd_more | apply rd_alloc | apply rd_drew | apply rd_drewN))).mono ?_
          rintro e w' ⟨⟨x1', rfl⟩, rfl⟩
          go_wp2_with ((at_builtin; refine wpList_append_new w el_Place rfl _ _ rfl u10 out.length _ rfl (by repeat (first | exact HO.out | apply own_more | apply own_alloc | apply own_drew | apply own_drewN)) (by repeat (first | exact Ext.refl _ | apply Ext.more | apply Ext.alloc | apply Ext.drew | apply Ext.drewN)) _ _ 1 _ rfl (by simp) rfl rfl (by omega) ?_); intro v' x' HO' keep; clear keep)
          go_roundw
          case rel => exact ⟨q + 1, _, by omega, by simp only [List.length_append, List.length_cons, List.length_nil]; omega, by go_num, (by repeat (first | exact Ext.refl _ | apply Ext.more | apply Ext.alloc | apply Ext.drew | apply Ext.drewN)), rfl, rfl, rfl, HS2, by
            show World.ownsRow _ _ _ _ _ _ _
            rw [E.out, List.length_append]
            exact HO'.out⟩
          case measure => simp [intOf]; omega
        | false =>
          have HS2 := Lib.hid (show placesF f (pages.take (q + 1)) = ⟨out ++ [⟨pa, pp, pt, pq, d0, d1, d2, d3, d4, d5, d6⟩], s1, s2, out.any (sameP pt pq)⟩ from HS1.out.trans (by unfold stepP; simp))
          have HC := Lib.hid (fun w' v hv B hb hc hc3 => places_Contains w' out v hv B pt pq hb hc hc3)
          generalize out.any (sameP pt pq) = y at *
          have HRd := Lib.hid (show SlRd (more w x) u10 11 (out.map Place.cells) from own_rd HO.out (by simp) rfl (by intro c hc; obtain ⟨p, _, rfl⟩ := List.mem_map.1 hc; rfl))
          clear HS1
          go_wp2_with fail
          refine (HG.out _ (by repeat (first | exact HM.out | apply MemAt.more | apply MemAt.alloc | apply MemAt.drew | apply MemAt.drewN)) (by repeat (first | exact HV.out | apply rd_more | apply rd_alloc | apply rd_drew | apply rd_drewN))).mono ?_
          rintro e w' ⟨⟨x1', rfl⟩, rfl⟩
          go_wp2_with fail
          refine (HC.out _ _ (by repeat (first | exact HRd.out | apply rd_more | apply rd_alloc | apply rd_drew | apply rd_drewN)) _ (by simp) (by simp [go_sem]) (by simp [go_sem])).mono ?_
          rintro e w' ⟨⟨x2', rfl⟩, rfl⟩
          go_wp2_with ((at_builtin; refine wpList_append_new w el_Place rfl _ _ rfl u10 out.length _ rfl (by repeat (first | exact HO.out | apply own_more | apply own_alloc | apply own_drew | apply own_drewN)) (by repeat (first | exact Ext.refl _ | apply Ext.more | apply Ext.alloc | apply Ext.drew | apply Ext.drewN)) _ _ 1 _ rfl (by simp) rfl rfl (by omega) ?_); intro v' x' HO' keep; clear keep)
          go_roundw
          case rel => exact ⟨q + 1, _, by omega, by simp only [List.length_append, List.length_cons, List.length_nil]; omega, by go_num, (by repeat (first | exact Ext.refl _ | apply Ext.more | apply Ext.alloc | apply Ext.drew | apply Ext.drewN)), rfl, rfl, rfl, HS2, by
            show World.ownsRow _ _ _ _ _ _ _
            rw [E.out, List.length_append]
            exact HO'.out⟩
          case measure => simp [intOf]; omega
      | no k =>
        have HI1 := Lib.hid (fun w' => errors_Is w' k 1)
        have HI2 := Lib.hid (fun w' => errors_Is w' k 2)
        simp only [findV, zeroPl, noneD, Place.cells] at HG
        by_cases h1 : k = 1
        · subst h1
          have HS2 := Lib.hid (show placesF f (pages.take (q + 1)) = ⟨out, true, s2, s3⟩ from HS1.out)
          rw [show (((1 : Nat) : Int) == 1) = true from rfl] at HI1
          clear HS1
          go_wp2_with fail
          refine (HG.out _ (by repeat (first | exact HM.out | apply MemAt.more | apply MemAt.alloc | apply MemAt.drew | apply MemAt.drewN)) (by repeat (first | exact HV.out | apply rd_more | apply rd_alloc | apply rd_drew | apply rd_drewN))).mono ?_
          rintro e w' ⟨⟨x1', rfl⟩, rfl⟩
          go_wp2_with fail
          refine (HI1.out _).mono ?_
          rintro e w' ⟨rfl, rfl⟩
          go_wp2_with fail
          go_roundw
          case rel => exact ⟨q + 1, _, by omega, by dsimp only; omega, by go_num, (by repeat (first | exact Ext.refl _ | apply Ext.more | apply Ext.alloc | apply Ext.drew | apply Ext.drewN)), rfl, rfl, rfl, HS2, (by repeat (first | exact HO.out | apply own_more | apply own_alloc | apply own_drew | apply own_drewN))⟩
          case measure => simp [intOf]; omega
        · rw [show ((k : Int) == 1) = false from by simpa using (show ¬ (k : Int) = 1 by omega)] at HI1
          by_cases h2 : k = 2
          · subst h2
            have HS2 := Lib.hid (show placesF f (pages.take (q + 1)) = ⟨out, s1, true, s3⟩ from HS1.out)
            rw [show (((2 : Nat) : Int) == 2) = true from rfl] at HI2
            clear HS1
            go_wp2_with fail
            refine (HG.out _ (by repeat (first | exact HM.out | apply MemAt.more | apply MemAt.alloc | apply MemAt.drew | apply MemAt.drewN)) (by repeat (first | exact HV.out | apply rd_more | apply rd_alloc | apply rd_drew | apply rd_drewN))).mono ?_
            rintro e w' ⟨⟨x1', rfl⟩, rfl⟩
            go_wp2_with fail
            refine (HI1.out _).mono ?_
            rintro e w' ⟨rfl, rfl⟩
            go_wp2_with fail
            refine (HI2.out _).mono ?_
            rintro e w' ⟨rfl, rfl⟩
            go_wp2_with fail
            go_roundw
            case rel => exact ⟨q + 1, _, by omega, by dsimp only; omega, by go_num, (by repeat (first | exact Ext.refl _ | apply Ext.more | apply Ext.alloc | apply Ext.drew | apply Ext.drewN)), rfl, rfl, rfl, HS2, (by repeat (first | exact HO.out | apply own_more | apply own_alloc | apply own_drew | apply own_drewN))⟩
            case measure => simp [intOf]; omega
          · rw [show ((k : Int) == 2) = false from by simpa using (show ¬ (k : Int) = 2 by omega)] at HI2
            have HS2 := Lib.hid (show placesF f (pages.take (q + 1)) = ⟨out, s1, s2, true⟩ from HS1.out.trans (by unfold stepP; dsimp only; rw [if_neg h1, if_neg h2]))
            clear HS1
            go_wp2_with fail
            refine (HG.out _ (by repeat (first | exact HM.out | apply MemAt.more | apply MemAt.alloc | apply MemAt.drew | apply MemAt.drewN)) (by repeat (first | exact HV.out | apply rd_more | apply rd_alloc | apply rd_drew | apply rd_drewN))).mono ?_
            rintro e w' ⟨⟨x1', rfl⟩, rfl⟩
            go_wp2_with fail
            refine (HI1.out _).mono ?_
            rintro e w' ⟨rfl, rfl⟩
            go_wp2_with fail
            refine (HI2.out _).mono ?_
            rintro e w' ⟨rfl, rfl⟩
            go_wp2_with fail
            go_roundw
            case rel => exact ⟨q + 1, _, by omega, by dsimp only; omega, by go_num, (by repeat (first | exact Ext.refl _ | apply Ext.more | apply Ext.alloc | apply Ext.drew | apply Ext.drewN)), rfl, rfl, rfl, HS2, (by repeat (first | exact HO.out | apply own_more | apply own_alloc | apply own_drew | apply own_drewN))⟩
            case measure => simp [intOf]; omega
    · obtain rfl : q = pages.length := by omega
      have HS2 := Lib.hid (show placesF f pages = ⟨out, s1, s2, s3⟩ from by have h := HS.out; rwa [List.take_of_length_le (Nat.le_refl _)] at h)
      clear HS
      obtain ⟨oa, ocap, rfl⟩ := own_form HO.out
      cases s1 <;> cases s2 <;> cases s3
      all_goals
        go_wp2_with fail
        go_ret2
        refine ⟨(by repeat (first | exact Ext.refl _ | apply Ext.more | apply Ext.alloc | apply Ext.drew | apply Ext.drewN)), ?_⟩
        rw [HS2.out]
        unfold PlacesRet
        first
          | rfl
          | exact ⟨oa, ocap, rfl, HO.out⟩

end Go.Proofs.Ythcdecgecabgaaa
