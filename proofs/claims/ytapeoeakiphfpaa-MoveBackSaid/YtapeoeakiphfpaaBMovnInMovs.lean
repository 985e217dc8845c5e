import Derived.Test.YtapeoeakiphfpaaMovm
import Derived.Test.YtapeoeakiphfpaaBMorfBedsStepsSamePart
import Derived.Test.YtapeoeakiphfpaaWipe
import Derived.Test.YtapeoeakiphfpaaBRefgCodeLawgNeed
/- The contract of move.Move at whatever it is given. -/
namespace Go.Proofs.Ytapeoeakiphfpaa
open Go.RowKit
set_option linter.unusedVariables false
set_option linter.unusedSimpArgs false
attribute [local go_sem] setCell_drewN alloc_drewN lt_moreE le_moreE lt_moreK le_moreK cell_more frozen_more set_more drew_more drewN_more

/-- Where a page's word stands, and what it says. -/
structure PlaceOk (ws : List Int) (n : Nat) (roots : List (Int × Int)) (frm : Int) (x : Int × Int) (p : Place) : Prop where
  asid : p.asid = x.1
  page : p.page = x.2
  a0 : 0 ≤ x.1
  a1 : x.1 ≤ 255
  p0 : 0 ≤ x.2
  p1 : x.2 < 4096
  root : ∃ (q : Nat) (f : Found), q < roots.length ∧ (roots.getD q (0, 0)).1 = x.1 ∧ (∀ j : Nat, j < q → (roots.getD j (0, 0)).1 ≠ x.1) ∧ walkAt ws n x.2 4 0 (roots.getD q (0, 0)).2 = some f ∧ f.fKind = 3 ∧ f.fOrder = 0 ∧ f.fFrame = frm ∧ p.tb = f.fTable ∧ p.pl = f.fPlace
  says : p.says = decD 3 (ws.getD (p.tb.toNat * 8 + p.pl.toNat) 0)
theorem find_ok {ws : List Int} {n : Nat} {roots : List (Int × Int)} {frm : Int} {x : Int × Int} {p : Place} (h : findR ws n roots x.1 x.2 frm = .yes p) : PlaceOk ws n roots frm x p := by
  unfold findR at h
  split at h
  · cases h
  · rename_i h1
    split at h
    · rename_i h2
      unfold findW at h
      split at h
      · cases h
      · rename_i f hf
        split at h
        · rename_i h3
          injection h with h
          subst h
          obtain ⟨hr, _⟩ | ⟨q, _, hq, hqe, hq1, hq2⟩ := rootAt_spec (roots := roots) (space := x.1) roots.length 0 (by omega)
          · omega
          · refine ⟨rfl, rfl, by omega, by omega, h2.2.2.1, h2.2.2.2, ⟨q, f, hq, hq1, fun j hj => hq2 j (by omega) hj, ?_, h3.1, h3.2.1, h3.2.2, rfl, rfl⟩, rfl⟩
            rw [hqe, Int.toNat_natCast] at hf
            exact hf
        · cases h
    · cases h
theorem places_go {f : Int × Int → FindR} : ∀ (pages : List (Int × Int)) (t : PSt), (∀ p ∈ (pages.foldl (fun t x => stepP t (f x)) t).out, p ∈ t.out ∨ ∃ x ∈ pages, f x = .yes p) ∧ (pages.foldl (fun t x => stepP t (f x)) t).out.length ≤ t.out.length + pages.length := by
  intro pages
  induction pages with
  | nil => intro t; exact ⟨fun p hp => .inl hp, by simp⟩
  | cons x xs ih =>
    intro t
    obtain ⟨h1, h2⟩ := ih (stepP t (f x))
    have hlen : (stepP t (f x)).out.length ≤ t.out.length + 1 := by
      unfold stepP
      split
      · simp
      · split
        · simp
        · split <;> simp
    refine ⟨fun p hp => ?_, by simp only [List.foldl_cons, List.length_cons]; omega⟩
    rcases h1 p hp with h | ⟨y, hy, he⟩
    · cases hf : f x with
      | yes p' =>
        rw [hf] at h
        rcases List.mem_append.1 (show p ∈ t.out ++ [p'] from h) with h | h
        · exact .inl h
        · rw [List.mem_singleton.1 h]
          exact .inr ⟨x, .head _, hf⟩
      | no k =>
        rw [hf] at h
        left
        unfold stepP at h
        dsimp only at h
        split at h
        · exact h
        · split at h <;> exact h
    · exact .inr ⟨y, .tail _ hy, he⟩
theorem held_ok {ws : List Int} {n : Nat} {roots : List (Int × Int)} {frm to : Int} {x : Int × Int} {p : Place} (h : PlaceOk ws n roots frm x p) (t0 : 0 ≤ to) (t1 : to < 512) : okD 3 p.says = true ∧ p.says.fKind = 3 ∧ p.says.fFold = false ∧ p.says.fFrame = frm ∧ okD 3 (heldD p.says) = true ∧ okD 3 (movedD p.says to) = true := by
  obtain ⟨q, f, _, _, _, hw, hk, ho, hfr, htb, hpl⟩ := h.root
  obtain ⟨hl, _, d, hd, hok, hdk, hf⟩ := walk_page hw hk
  have hs : p.says = d := by rw [h.says, htb, hpl, hd]
  have hfold : d.fFold = false := by
    cases hc : d.fFold with
    | false => rfl
    | true =>
      rw [hf] at ho
      unfold foundD at ho
      rw [if_neg (by omega), if_pos hdk, hc] at ho
      simp at ho
  have hframe : d.fFrame = frm := by
    rw [← hfr, hf]
    unfold foundD
    rw [if_neg (by omega), if_pos hdk]
    split <;> rfl
  rw [hs]
  refine ⟨hok, hdk, hfold, hframe, ?_, ?_⟩
  · obtain ⟨k, fr, w, e, s, fo, so⟩ := d
    dsimp only at hdk hfold
    subst hdk hfold
    show okD 3 ⟨4, fr, w, e, false, false, so⟩ = true
    simp [okD, mayD] at hok ⊢
    omega
  · obtain ⟨k, fr, w, e, s, fo, so⟩ := d
    dsimp only at hdk hfold
    subst hdk hfold
    show okD 3 ⟨3, to, w, e, s, false, so⟩ = true
    simp [okD, mayD] at hok ⊢
    omega

def moveRes (ws : List Int) (n : Nat) (roots pages : List (Int × Int)) (frm to : Int) : StepsR :=
  if frm < 0 ∨ (n : Int) ≤ frm ∨ to < 0 ∨ (n : Int) ≤ to ∨ frm = to ∨ pages.length = 0 then .no 1
  else if (placesF (fun x => findR ws n roots x.1 x.2 frm) pages).s1 = true then .no 1
  else if (placesF (fun x => findR ws n roots x.1 x.2 frm) pages).s2 = true then .no 2
  else if (placesF (fun x => findR ws n roots x.1 x.2 frm) pages).s3 = true then .no 7
  else .yes (moveL to frm (placesF (fun x => findR ws n roots x.1 x.2 frm) pages).out)
set_option maxRecDepth 100000 in
set_option maxHeartbeats 2000000 in
theorem move_Move_nil (w : World) (rv pv : Value) (frm to : Int) : Calls Try.prog 62 #[.pointer none, rv, pv, .int .i64 frm, .int .i64 to] w fun e w' => Ext w w' ∧ e = .returned (.tuple #[.slice none 0 0, errW 1]) := by
  go_enter Try.func62, Try.ntmps62
  go_wp2_with fail
  go_ret2
  exact ⟨(by repeat (first | exact Ext.refl _ | apply Ext.more | apply Ext.alloc | apply Ext.drew | apply Ext.drewN)), rfl⟩
set_option maxRecDepth 100000 in
set_option maxHeartbeats 4000000 in
theorem move_Move_any (w : World) {b g n c : Nat} {ws : List Int} (hm : MemAt w b g n c ws) (hw : WOk ws) (roots : List (Int × Int)) (rv : Value) (hrv : SlRd w rv 2 (roots.map slotC)) (pages : List (Int × Int)) (pv : Value) (hpv : SlRd w pv 2 (pages.map slotC)) (hpl : pages.length ≤ 10000) (frm to : Int) (R : StepsR) (hR : moveRes ws n roots pages frm to = R) :
    Calls Try.prog 62 #[.pointer (some ⟨b, 0, none⟩), rv, pv, .int .i64 frm, .int .i64 to] w fun e w' => Ext w w' ∧ StepsRet w.heap.size w' R e := by
  by_cases hb : frm < 0 ∨ (n : Int) ≤ frm ∨ to < 0 ∨ (n : Int) ≤ to ∨ frm = to ∨ pages.length = 0
  · have HV := Lib.hid (show R = .no 1 from by rw [← hR]; unfold moveRes; rw [if_pos hb])
    have HF := Lib.hid (phys_Frames w hm)
    obtain ⟨fa, fcap, rfl, hfcap, _⟩ := hpv.form
    rw [List.length_map] at *
    have hcs : frm < 0 ∨ (0 ≤ frm ∧ (n : Int) ≤ frm) ∨ (0 ≤ frm ∧ frm < n ∧ to < 0) ∨ (0 ≤ frm ∧ frm < n ∧ 0 ≤ to ∧ (n : Int) ≤ to) ∨ (0 ≤ frm ∧ frm < n ∧ 0 ≤ to ∧ to < n ∧ (frm == to) = true) ∨ (0 ≤ frm ∧ frm < n ∧ 0 ≤ to ∧ to < n ∧ (frm == to) = false ∧ ((pages.length : Int) == 0) = true) := by
      by_cases h1 : frm < 0
      · exact .inl h1
      · by_cases h2 : (n : Int) ≤ frm
        · exact .inr (.inl ⟨by omega, h2⟩)
        · by_cases h3 : to < 0
          · exact .inr (.inr (.inl ⟨by omega, by omega, h3⟩))
          · by_cases h4 : (n : Int) ≤ to
            · exact .inr (.inr (.inr (.inl ⟨by omega, by omega, by omega, h4⟩)))
            · by_cases h5 : frm = to
              · exact .inr (.inr (.inr (.inr (.inl ⟨by omega, by omega, by omega, by omega, by simpa using h5⟩))))
              · exact .inr (.inr (.inr (.inr (.inr ⟨by omega, by omega, by omega, by omega, by simpa using h5, by
                  have : pages.length = 0 := by omega
                  simpa using (show (pages.length : Int) = 0 by omega)⟩))))
    clear hm hw hrv hpv hR hb hfcap
    rcases hcs with h1 | ⟨h1, h2⟩ | ⟨h1, h2, h3⟩ | ⟨h1, h2, h3, h4⟩ | ⟨h1, h2, h3, h4, h5⟩ | ⟨h1, h2, h3, h4, h5, h6⟩
    all_goals
      go_enter Try.func62, Try.ntmps62
      go_wp2_with ((with_reducible show Calls _ _ #[_] _ _); go_at_call 30; refine HF.out.mono ?_; rintro e w' ⟨rfl, hww⟩; subst w')
      go_ret2
      exact ⟨(by repeat (first | exact Ext.refl _ | apply Ext.more | apply Ext.alloc | apply Ext.drew | apply Ext.drewN)), by rw [HV.out]; rfl⟩
  · have f0 : 0 ≤ frm := by omega
    have f1 : frm < n := by omega
    have t0 : 0 ≤ to := by omega
    have t1 : to < n := by omega
    have hne : frm ≠ to := by omega
    have hp0 : 0 < pages.length := by omega
    have hn5 := hm.le
    obtain ⟨hgo, hgl⟩ := places_go (f := fun x => findR ws n roots x.1 x.2 frm) pages ⟨[], false, false, false⟩
    have hR1 : (if (placesF (fun x => findR ws n roots x.1 x.2 frm) pages).s1 = true then StepsR.no 1
      else if (placesF (fun x => findR ws n roots x.1 x.2 frm) pages).s2 = true then .no 2
      else if (placesF (fun x => findR ws n roots x.1 x.2 frm) pages).s3 = true then .no 7
      else .yes (moveL to frm (placesF (fun x => findR ws n roots x.1 x.2 frm) pages).out)) = R := by rw [← hR]; unfold moveRes; rw [if_neg hb]
    have hgo2 : ∀ p ∈ (placesF (fun x => findR ws n roots x.1 x.2 frm) pages).out, okD 3 (heldD p.says) = true ∧ okD 3 (movedD p.says to) = true := fun p hp => by
      rcases hgo p hp with h | ⟨x, _, hx⟩
      · cases h
      · obtain ⟨_, _, _, _, h1, h2⟩ := held_ok (to := to) (find_ok hx) t0 (by omega)
        exact ⟨h1, h2⟩
    have hgl2 : (placesF (fun x => findR ws n roots x.1 x.2 frm) pages).out.length ≤ 10000 := by
      have h9 : (placesF (fun x => findR ws n roots x.1 x.2 frm) pages).out.length ≤ ([] : List Place).length + pages.length := hgl
      rw [List.length_nil] at h9
      omega
    have HP0 := move_places w hm hw roots rv hrv pages pv hpv (by omega) frm
    obtain ⟨t, ht⟩ : ∃ t, placesF (fun x => findR ws n roots x.1 x.2 frm) pages = t := ⟨_, rfl⟩
    rw [ht] at hR1 hgo2 hgl2 HP0
    obtain ⟨out, s1, s2, s3⟩ := t
    dsimp only at hR1 hgo2 hgl2
    by_cases hs : s1 = false ∧ s2 = false ∧ s3 = false
    · obtain ⟨rfl, rfl, rfl⟩ := hs
      rw [← hR1]
      exact move_Move w hm hw roots rv hrv pages pv hpv hpl hp0 frm to f0 f1 t0 t1 hne out ht hgl2 hgo2
    · have HF := Lib.hid (phys_Frames w hm)
      obtain ⟨k, hk⟩ : ∃ k, R = .no k ∧ ∀ B w' e, PlacesRet B w' ⟨out, s1, s2, s3⟩ e → e = .returned (.tuple #[.slice none 0 0, errW k]) := by
        unfold PlacesRet
        cases s1 with
        | true => exact ⟨1, by rw [← hR1]; rfl, fun B w' e h => h⟩
        | false =>
          cases s2 with
          | true => exact ⟨2, by rw [← hR1]; rfl, fun B w' e h => h⟩
          | false =>
            cases s3 with
            | true => exact ⟨7, by rw [← hR1]; rfl, fun B w' e h => h⟩
            | false => exact absurd ⟨rfl, rfl, rfl⟩ hs
      obtain ⟨hk1, hk2⟩ := hk
      have HV := Lib.hid hk1
      have HPl := Lib.hid (HP0.mono fun e w' h => (⟨h.1, hk2 _ _ _ h.2⟩ : Ext w w' ∧ e = .returned (.tuple #[.slice none 0 0, errW k])))
      obtain ⟨fa, fcap, rfl, hfcap, _⟩ := hpv.form
      rw [List.length_map] at *
      have hq : ((pages.length : Int) == 0) = false := by simpa using (show ¬ (pages.length : Int) = 0 by omega)
      have hne' : (frm == to) = false := by simpa using hne
      clear hm hw hrv hpv hR hR1 hb hfcap HP0 hk1 hk2 ht hgo hgl hgo2 hs hne
      go_enter Try.func62, Try.ntmps62
      go_wp2_with ((with_reducible show Calls _ _ #[_] _ _); go_at_call 30; refine HF.out.mono ?_; rintro e w' ⟨rfl, hww⟩; subst w')
      refine HPl.out.mono ?_
      rintro e w' ⟨⟨x1, rfl⟩, rfl⟩
      go_wp2_with fail
      go_ret2
      exact ⟨(by repeat (first | exact Ext.refl _ | apply Ext.more | apply Ext.alloc | apply Ext.drew | apply Ext.drewN)), by rw [HV.out]; rfl⟩

end Go.Proofs.Ytapeoeakiphfpaa

/- A slice that came in is appended to a row of the call's own. -/
namespace Go.Proofs.Ytapeoeakiphfpaa
open Go.RowKit
set_option linter.unusedVariables false
set_option linter.unusedSimpArgs false

theorem rd_news {w : World} {b o sz : Nat} {s : Option Nat} {css : List (List Value)} (hz : 0 < sz) (hcs : ∀ c ∈ css, c.length = sz)
    (h : ∀ i c j u, css[i]? = some c → c[j]? = some u → s = none ∧ w.cell? ⟨b, o + (i * sz + j), none⟩ = some u) : ∀ j u, css.flatten[j]? = some u → w.cell? ((⟨b, o, s⟩ : Addr).add j) = some u := by
  intro j u hu
  have hl : css.flatten.length = css.length * sz := by
    clear h hu
    induction css with
    | nil => simp
    | cons c t ih => rw [List.flatten_cons, List.length_append, ih (fun c hc => hcs c (.tail _ hc)), hcs c (.head _), List.length_cons, Nat.add_mul]; omega
  have hj : j < css.length * sz := by have := (List.getElem?_eq_some_iff.1 hu).1; omega
  have hi : j / sz < css.length := (Nat.div_lt_iff_lt_mul hz).2 hj
  have hr : j % sz < sz := Nat.mod_lt _ hz
  have hc : css[j / sz]? = some css[j / sz] := List.getElem?_eq_getElem hi
  have hlc : (css[j / sz]).length = sz := hcs _ (List.getElem_mem hi)
  have hu' : (css[j / sz])[j % sz]? = some (css[j / sz])[j % sz] := List.getElem?_eq_getElem (by omega)
  have hf := flatten_at sz css (j / sz) (j % sz) _ _ hcs hc hu'
  have e : j / sz * sz + j % sz = j := by rw [Nat.mul_comm]; exact Nat.div_add_mod j sz
  rw [e, hu] at hf
  obtain ⟨rfl, hcell⟩ := h _ _ _ _ hc hu'
  rw [e] at hcell
  have hadd : (⟨b, o, none⟩ : Addr).add j = ⟨b, o + j, none⟩ := by unfold Addr.add; split <;> simp_all
  rw [hadd, hcell, Option.some.inj hf]

theorem wpList_append_in {P : Program} (W : World) {w : World} {ops : Array Oper} {rest : List Oper} {o : Oper} {a : Act} {Q : Exit → Act → World → Prop} {t e : TypeId} {z : Value} {size bytes : Nat} (el : ElemAt P t e z size bytes)
    (hgd : o.guard = none) (s x : Operand) (ho : o.op = .call { callee := .builtin .append, args := #[s, x], argTypes := #[t, t] })
    (v : Value) (n : Nat) (xs : List Value) (hs : a.eval s = v) (hown : w.ownsRow W.heap.size e size v n xs) (hW : Ext W w)
    (v2 : Value) (css : List (List Value)) (hx : a.eval x = v2) (hrd : SlRd w v2 size css) (hcs : ∀ c ∈ css, c.length = size) (h1 : css.flatten.all Value.oneCell' = true) (hn : n + css.length ≤ 1000000)
    (h : ∀ v' x', Hid ((more W x').ownsRow W.heap.size e size v' (n + css.length) (xs ++ css.flatten)) → (∀ k ob, w.heap[k]? = some ob → v.ownBlock ≠ some k → (more W x').heap[k]? = some ob) → wpList P ops Q rest (a.put o.dst v') (more W x')) : wpList P ops Q (o :: rest) a w := by
  obtain ⟨i, hi, hz, h3, h4⟩ := info_parts el.info
  rcases hrd with ⟨rfl, rfl⟩ | ⟨b, of, s', cap, rfl, g1, g2, g3⟩
  · obtain ⟨x', rfl⟩ := hW
    refine wpList_append_own_none hgd s x t ho W.heap.size e i size el.sl hi v n xs hs hown hx ?_
    exact h v x' (show World.ownsRow _ _ _ _ _ _ _ by simpa using hown) (fun k ob hk _ => hk)
  · have hb : (n + css.length) * bytes ≤ 1000000 * 1000 := Nat.mul_le_mul hn el.small
    have hl : css.flatten.length = css.length * size := by
      clear h hx g1 g3 hn hb h1
      induction css with
      | nil => simp
      | cons c t ih => rw [List.flatten_cons, List.length_append, ih (fun c hc => hcs c (.tail _ hc)), hcs c (.head _), List.length_cons, Nat.add_mul]; omega
    refine wpList_append_own w hgd s x t ho W.heap.size e i z size bytes el.sl hi hz h3 h4 el.zs el.pos v n xs hs hown ⟨b, of, s'⟩ css.length cap css.flatten hx hl
      (rd_news el.pos hcs g3) (by intro u hu; exact List.all_eq_true.1 h1 u hu) (by unfold maxLen; omega) (by omega) hW.size ?_
    intro v' w' ho' hg' _
    obtain ⟨x', rfl⟩ := more_of_grow (grow_row hW.grow hown hg')
    exact h v' x' ho' fun k ob hk hne => (hg'.block k (Array.getElem?_eq_some_iff.1 hk).1 (fun e => hne e.symm)).trans hk
theorem ints_flat (l : List Int) : (l.map intCells).flatten.all Value.oneCell' = true := all_flat intCells _ (fun a => rfl) l
theorem ints_one (l : List Int) : ∀ c ∈ l.map intCells, c.length = 1 := by
  intro c hc
  obtain ⟨x, _, rfl⟩ := List.mem_map.1 hc
  rfl

end Go.Proofs.Ytapeoeakiphfpaa

/- The head of layer 18's laws; the law paviorlaw18.MoveStays. -/
namespace Go.Proofs.Ytapeoeakiphfpaa
open Go.RowKit
set_option linter.unusedVariables false
set_option linter.unusedSimpArgs false
attribute [local go_sem] setCell_drewN alloc_drewN lt_moreE le_moreE lt_moreK le_moreK cell_more frozen_more set_more drew_more drewN_more

def ApartP (p q : Place) : Prop := ¬ (p.tb = q.tb ∧ p.pl = q.pl)
/-- All pages' places, where nothing is amiss. -/
theorem places_all {f : Int × Int → FindR} : ∀ (xs : List (Int × Int)) (t : PSt), (xs.foldl (fun t x => stepP t (f x)) t).s1 = false → (xs.foldl (fun t x => stepP t (f x)) t).s2 = false → (xs.foldl (fun t x => stepP t (f x)) t).s3 = false →
    t.s1 = false ∧ t.s2 = false ∧ t.s3 = false ∧ ∃ ps, (xs.foldl (fun t x => stepP t (f x)) t).out = t.out ++ ps ∧ ps.length = xs.length ∧ (∀ (i : Nat) x p, xs[i]? = some x → ps[i]? = some p → f x = .yes p) ∧ (t.out.Pairwise ApartP → (t.out ++ ps).Pairwise ApartP) := by
  intro xs
  induction xs with
  | nil => intro t h1 h2 h3; exact ⟨h1, h2, h3, [], by simp, rfl, fun i x p hx => by simp at hx, fun h => by simpa using h⟩
  | cons x xs ih =>
    intro t h1 h2 h3
    rw [List.foldl_cons] at h1 h2 h3
    obtain ⟨g1, g2, g3, ps, hps, hl, hi, hp⟩ := ih (stepP t (f x)) h1 h2 h3
    cases hf : f x with
    | no k =>
      exfalso
      rw [hf] at g1 g2 g3
      unfold stepP at g1 g2 g3
      dsimp only at g1 g2 g3
      by_cases k1 : k = 1
      · rw [if_pos k1] at g1; cases g1
      · by_cases k2 : k = 2
        · rw [if_neg k1, if_pos k2] at g2; cases g2
        · rw [if_neg k1, if_neg k2] at g3; cases g3
    | yes p =>
      rw [hf] at g1 g2 g3 hps hp
      have g3' : (t.s3 || t.out.any (sameP p.tb p.pl)) = false := g3
      rw [Bool.or_eq_false_iff] at g3'
      have hps' : (xs.foldl (fun t x => stepP t (f x)) (stepP t (.yes p))).out = (t.out ++ [p]) ++ ps := hps
      refine ⟨g1, g2, g3'.1, p :: ps, ?_, by simp [hl], fun i y q hy hq => ?_, fun h => ?_⟩
      · rw [List.foldl_cons, hf, hps', List.append_assoc]; rfl
      · cases i with
        | zero =>
          simp at hy hq
          rw [← hy, ← hq, hf]
        | succ i => exact hi i y q (by simpa using hy) (by simpa using hq)
      · have hp' : (t.out ++ [p]).Pairwise ApartP → ((t.out ++ [p]) ++ ps).Pairwise ApartP := hp
        rw [List.append_assoc] at hp'
        refine hp' (List.pairwise_append.2 ⟨h, by simp, fun a ha b hb => ?_⟩)
        rw [List.mem_singleton.1 hb]
        rintro ⟨e1, e2⟩
        have := List.any_eq_false.1 g3'.2 a ha
        simp [sameP, e1, e2] at this
/-- What Move's steps are of. -/
structure MovesAt (ws : List Int) (n : Nat) (roots pages : List (Int × Int)) (frm to : Int) (out : List Place) : Prop where
  f0 : 0 ≤ frm
  f1 : frm < n
  t0 : 0 ≤ to
  t1 : to < n
  ne : frm ≠ to
  pos : 0 < pages.length
  len : out.length = pages.length
  ok : ∀ (i : Nat) x p, pages[i]? = some x → out[i]? = some p → PlaceOk ws n roots frm x p
  apart : out.Pairwise ApartP
theorem move_yes {ws : List Int} {n : Nat} {roots pages : List (Int × Int)} {frm to : Int} {s : List Step} (h : moveRes ws n roots pages frm to = .yes s) : ∃ out, s = moveL to frm out ∧ MovesAt ws n roots pages frm to out := by
  unfold moveRes at h
  split at h
  · cases h
  · rename_i hb
    split at h
    · cases h
    · rename_i h1
      split at h
      · cases h
      · rename_i h2
        split at h
        · cases h
        · rename_i h3
          injection h with h
          obtain ⟨_, _, _, ps, hps, hl, hi, hp⟩ := places_all (f := fun x => findR ws n roots x.1 x.2 frm) pages ⟨[], false, false, false⟩ (by simpa [placesF] using h1) (by simpa [placesF] using h2) (by simpa [placesF] using h3)
          have hps' : (placesF (fun x => findR ws n roots x.1 x.2 frm) pages).out = ps := hps
          refine ⟨ps, by rw [← h, hps'], ⟨by omega, by omega, by omega, by omega, by omega, by omega, hl, fun i x p hx hp => find_ok (hi i x p hx hp), ?_⟩⟩
          have := hp List.Pairwise.nil
          simpa using this
theorem moveL_len (to frm : Int) (l : List Place) : (moveL to frm l).length = 3 * l.length + 8 := by
  unfold moveL
  simp only [List.length_append, heldL_len, toldP_len, doneL_len, copiesN_len]
  omega
theorem first_move {ws : List Int} {n : Nat} {roots pages : List (Int × Int)} {frm to : Int} (hp : pages.length ≤ 10000) : FirstK 1 (moveRes ws n roots pages frm to) := by
  intro s hs
  obtain ⟨out, rfl, hM⟩ := move_yes hs
  have h1 := hM.len
  have h2 := hM.pos
  refine ⟨by rw [moveL_len]; omega, fun h hh => ?_⟩
  cases out with
  | nil => rw [← h1] at h2; simp at h2
  | cons p ps =>
    simp [moveL, heldL] at hh
    rw [← hh]
    rfl
def rootP (r : Root) : Int × Int := (r.fAsid, r.fFrame)
def whereP (r : Where) : Int × Int := (r.fSpace, r.fPage)
theorem roots_slots (l : List Root) : l.map Root.cells = (l.map rootP).map slotC := by rw [List.map_map]; rfl
theorem wheres_slots (l : List Where) : l.map Where.cells = (l.map whereP).map slotC := by rw [List.map_map]; rfl
theorem el_Root : ElemAt Try.prog 110 114 (.agg #[.int .i64 0, .int .i64 0]) 2 16 := ⟨Try.underlying110, by kernel_rfl, rfl, by decide, by decide⟩
theorem el_Where : ElemAt Try.prog 111 116 (.agg #[.int .i64 0, .int .i64 0]) 2 16 := ⟨Try.underlying111, by kernel_rfl, rfl, by decide, by decide⟩
theorem slots_one (l : List (Int × Int)) : ∀ c ∈ l.map slotC, c.length = 2 := by
  intro c hc
  obtain ⟨x, _, rfl⟩ := List.mem_map.1 hc
  rfl
theorem slots_flat (l : List (Int × Int)) : (l.map slotC).flatten.all Value.oneCell' = true := all_flat slotC _ (fun a => rfl) l

set_option maxRecDepth 100000 in
set_option maxHeartbeats 2000000 in
theorem law18_up (w : World) : Calls Try.prog 60 #[] w fun e w' => Ext w w' ∧ e = .returned (.bool true) := by
  have heq := fun (w : World) => eql_err w 1 1
  have hzw : WOk (List.replicate 16 (0 : Int)) := fun x hx => by rw [List.eq_of_mem_replicate hx]; omega
  generalize hZ : List.replicate 16 (0 : Int) = Z at *
  have HZ := Lib.hid hZ
  clear hZ
  go_enter Try.func60, Try.ntmps60
  go_wp2_with fail
  refine (phys_New_yes _ 2 (by omega) (by omega)).mono ?_
  rintro e w1 ⟨b, g, rfl, hm, hgr, _, _⟩
  rw [show 2 * 8 = 16 from rfl, HZ.out] at hm
  have HM := Lib.hid hm
  obtain ⟨ex0, rfl⟩ := more_of_grow hgr
  have HF := Lib.hid (fun w (hm : MemAt w b g 2 2 Z) => move_Move_any w hm hzw [] (.slice none 0 0) (.inl ⟨rfl, rfl⟩) [] (.slice none 0 0) (.inl ⟨rfl, rfl⟩) (by simp) 0 1 (.no 1) (by unfold moveRes; rw [if_pos (by simp)]))
  clear hgr hm
  go_wp2_with fail
  refine (HF.out _ (by repeat (first | exact HM.out | apply MemAt.more | apply MemAt.alloc | apply MemAt.drew | apply MemAt.drewN))).mono ?_
  rintro e w' ⟨⟨ex1, rfl⟩, hq⟩
  replace hq : e = .returned (.tuple #[.slice none 0 0, errW 1]) := hq
  subst hq
  go_wp2_with fail
  go_ret
  exact ⟨(by repeat (first | exact Ext.refl _ | apply Ext.more | apply Ext.alloc | apply Ext.drew | apply Ext.drewN)), rfl⟩

/-- The cells of an element of two. -/
theorem slotZ_at {w : World} {b o : Nat} {z : Int × Int} {q : Nat} (h : ∀ j u, (slotC z)[j]? = some u → w.cell? ⟨b, o + (q * 2 + j), none⟩ = some u) : w.cell? ⟨b, o + q * 2, none⟩ = some (.int .i64 z.1) ∧ w.cell? ⟨b, o + q * 2 + 1, none⟩ = some (.int .i64 z.2) := by
  have x0 := h 0 _ rfl
  have x1 := h 1 _ rfl
  rw [← Nat.add_assoc] at x0 x1
  exact ⟨x0, x1⟩

set_option maxRecDepth 100000 in
set_option maxHeartbeats 8000000 in
theorem law18_MoveStays (w : World) (fr : Int) (hfr : (Lit.int .i64 fr).wf = true) (l : List Laid) (hl : ∀ d ∈ l, d.wf) (v : Value) (hv : SlRd w v 3 (l.map Laid.cells)) (roots : List Root) (_ : ∀ d ∈ roots, d.wf) (rv : Value) (hrv : SlRd w rv 2 (roots.map Root.cells)) (pages : List Where) (_ : ∀ d ∈ pages, d.wf) (pv : Value) (hpv : SlRd w pv 2 (pages.map Where.cells)) (frm : Int) (_ : (Lit.int .i64 frm).wf = true) (to : Int) (_ : (Lit.int .i64 to).wf = true) :
    Calls Try.prog 12 #[.int .i64 fr, v, rv, pv, .int .i64 frm, .int .i64 to] w fun e w' => e = .returned (.bool true) ∧ w.grownBy w' none := by
  refine growC (R := fun e _ => e = .returned (.bool true)) ?_
  rw [roots_slots] at hrv
  rw [wheres_slots] at hpv
  generalize roots.map rootP = rs at *
  generalize pages.map whereP = ps at *
  have hw := WOk_layW (layN fr) l hl
  have HL := Lib.hid hl
  have HV := Lib.hid hv
  have HR := Lib.hid hfr
  have HRv := Lib.hid hrv
  have HPv := Lib.hid hpv
  obtain ⟨ra, rcap, rfl, hrcap, hrc⟩ := hrv.form
  obtain ⟨fa, fcap, rfl, hfcap, hfc⟩ := hpv.form
  have HRC := Lib.hid hrc
  have HFC := Lib.hid hfc
  clear hl hv hfr hrv hpv hrc hfc
  rw [List.length_map] at *
  try simp only [List.length_map] at HRv HPv
  go_enter Try.func12, Try.ntmps12
  go_wp2_with fail
  refine (law18_up _).mono ?_
  rintro e w1 ⟨⟨ex1, rfl⟩, rfl⟩
  go_wp2_with fail
  refine (lay_ext _ fr HR.out l HL.out v (by repeat (first | exact HV.out | apply rd_more | apply rd_alloc | apply rd_drew | apply rd_drewN))).mono ?_
  rintro e w2 ⟨b, g, h, hc, gb, gc, rfl, hm2, hr2, hE⟩
  have hE2 : Ext w w2 := Ext.trans (by repeat (first | exact Ext.refl _ | apply Ext.more | apply Ext.alloc | apply Ext.drew | apply Ext.drewN)) hE
  have HM := Lib.hid hm2
  have HE2 := Lib.hid hE2
  clear HL HV HR hE hE2 hr2 hm2
  generalize layW (layN fr) l = ws at *
  generalize layN fr = n at *
  by_cases h8 : 8 < rs.length
  · go_wp2_with fail
    go_ret
    exact ⟨(by repeat (first | exact HE2.out | apply Ext.more | apply Ext.alloc | apply Ext.drew | apply Ext.drewN)), rfl⟩
  by_cases h20 : 20 < ps.length
  · go_wp2_with fail
    go_ret
    exact ⟨(by repeat (first | exact HE2.out | apply Ext.more | apply Ext.alloc | apply Ext.drew | apply Ext.drewN)), rfl⟩
  have h8' : rs.length ≤ 8 := by omega
  have h20' : ps.length ≤ 20 := by omega
  clear h8 h20
  obtain ⟨n1, ev1, hn1, hv1, hT⟩ := told_of (first_move (ws := ws) (n := n) (roots := rs) (pages := ps) (frm := frm) (to := to) (by omega))
  have HT := Lib.hid (fun w b g c (hm : MemAt w b g n c ws) rv hrv pv hpv => (move_Move_any w hm hw rs rv hrv ps pv hpv (by omega) frm to _ rfl).mono fun e w' h => (⟨h.1, hT _ _ _ h.2⟩ : Ext w w' ∧ Told 1 n1 ev1 w.heap.size w' e))
  have HV1 := Lib.hid hv1
  clear hT hv1 hw
  go_wp2_with fail
  refine (extC (R := fun e w' => ∃ b' g' c', e = .returned (.pointer (some ⟨b', 0, none⟩)) ∧ MemAt w' b' g' n c' ws) ((phys_Clone _ HM.out).mono fun e w' ⟨b', g', c', he, hm, hg, _⟩ => ⟨⟨b', g', c', he, hm⟩, hg⟩)).mono ?_
  rintro e w3 ⟨hE3, cb, cg, cc, rfl, hc3⟩
  have HM3 := Lib.hid (HM.out.kept0 hE3.grow)
  have HC := Lib.hid hc3
  have HE3 := Lib.hid (HE2.out.trans hE3)
  have HRv3 := Lib.hid (HRv.out.kept0 HE3.out.grow)
  have HPv3 := Lib.hid (HPv.out.kept0 HE3.out.grow)
  clear HM HE2 hE3 hc3
  go_wp2_with (at_builtin; refine wpList_append_in w3 el_Root rfl _ _ rfl (.slice (some ⟨w3.heap.size, 0, none⟩) 0 0) 0 [] rfl (own_lit' rfl (Nat.le_refl _) rfl (by decide) rfl rfl) (by repeat (first | exact Ext.refl _ | apply Ext.more | apply Ext.alloc | apply Ext.drew | apply Ext.drewN)) _ (rs.map slotC) rfl (by repeat (first | exact HRv3.out | apply rd_more | apply rd_alloc | apply rd_drew | apply rd_drewN)) (slots_one _) (slots_flat _) (by simp; omega) ?_; intro v1 x1 HO1 keep; clear keep; refine of_hold ?_)
  have HM4 := Lib.hid (HM3.out.more x1)
  have HC4 := Lib.hid (HC.out.more x1)
  have HE4 := Lib.hid (HE3.out.more x1)
  have HRv4 := Lib.hid (rd_more HRv3.out x1)
  have HPv4 := Lib.hid (rd_more HPv3.out x1)
  have ho1 := HO1.out
  rw [List.length_map, Nat.zero_add, List.nil_append] at ho1
  have HO4 := Lib.hid ho1
  clear HM3 HC HE3 HRv3 HPv3 HO1 ho1
  generalize w3.heap.size = B3 at *
  generalize more w3 x1 = w4 at *
  obtain ⟨aa, acap, rfl⟩ := own_form HO4.out
  unfold Hold
  go_wp2_with (at_builtin; refine wpList_append_in w4 el_Where rfl _ _ rfl (.slice (some ⟨w4.heap.size, 0, none⟩) 0 0) 0 [] rfl (own_lit' rfl (Nat.le_refl _) rfl (by decide) rfl rfl) (by repeat (first | exact Ext.refl _ | apply Ext.more | apply Ext.alloc | apply Ext.drew | apply Ext.drewN)) _ (ps.map slotC) rfl (by repeat (first | exact HPv4.out | apply rd_more | apply rd_alloc | apply rd_drew | apply rd_drewN)) (slots_one _) (slots_flat _) (by simp; omega) ?_; intro v2 x2 HO2 keep; clear keep; refine of_hold ?_)
  have HM5 := Lib.hid (HM4.out.more x2)
  have HC5 := Lib.hid (HC4.out.more x2)
  have HE5 := Lib.hid (HE4.out.more x2)
  have HRv5 := Lib.hid (rd_more HRv4.out x2)
  have HPv5 := Lib.hid (rd_more HPv4.out x2)
  have HO45 := Lib.hid (own_more HO4.out x2)
  have ho2 := HO2.out
  rw [List.length_map, Nat.zero_add, List.nil_append] at ho2
  have HO5 := Lib.hid ho2
  clear HM4 HC4 HE4 HRv4 HPv4 HO4 HO2 ho2
  generalize w4.heap.size = B4 at *
  generalize more w4 x2 = w5 at *
  obtain ⟨ba, bcap, rfl⟩ := own_form HO5.out
  have HA5 := Lib.hid (show SlRd w5 (.slice aa rs.length acap) 2 (rs.map slotC) from own_rd HO45.out (by simp) rfl (slots_one _))
  have HB5 := Lib.hid (show SlRd w5 (.slice ba ps.length bcap) 2 (ps.map slotC) from own_rd HO5.out (by simp) rfl (slots_one _))
  clear HO45 HO5 HRC HFC
  unfold Hold
  go_wp2_with fail
  refine (HT.out _ _ _ _ (by repeat (first | exact HM5.out | apply MemAt.more | apply MemAt.alloc | apply MemAt.drew | apply MemAt.drewN)) _ HA5.out _ HB5.out).mono ?_
  rintro e w6 ⟨hE6, a6, c6, rfl, hR6, hc6, hm6, _⟩
  have HR6 := Lib.hid hR6
  have HE6 := Lib.hid hE6
  unfold maxLen at hm6
  obtain ⟨_, _, hae, _, hac⟩ := (HA5.out.kept0 hE6.grow).form
  obtain ⟨_, _, hbe, _, hbc⟩ := (HB5.out.kept0 hE6.grow).form
  obtain ⟨_, _, hre, _, hrc⟩ := (HRv5.out.kept0 hE6.grow).form
  obtain ⟨_, _, hpe, _, hpc⟩ := (HPv5.out.kept0 hE6.grow).form
  rw [List.length_map] at hae hbe hre hpe
  cases hae
  cases hbe
  cases hre
  cases hpe
  have HAC := Lib.hid hac
  have HBC := Lib.hid hbc
  have HRC := Lib.hid hrc
  have HFC := Lib.hid hpc
  clear hR6 HA5 HB5 hE6 hac hbc hrc hpc
  generalize hBw : w5.heap.size = Bw at *
  have HBw := Lib.hid hBw
  clear hBw
  go_wp2_with fail
  go_loopw [22] (fun i wr => ∃ q : Nat, q ≤ rs.length ∧ i = .int .i64 q ∧ Ext w6 wr) (fun i _ => rs.length - (intOf i).toNat)
  case atStart => exact ⟨0, by omega, rfl, Ext.refl _⟩
  case round =>
    obtain ⟨q, hq, rfl, ⟨x, rfl⟩⟩ := hrel
    by_cases hlt : q < rs.length
    · have hz : rs[q]? = some rs[q] := List.getElem?_eq_getElem hlt
      obtain ⟨b1, o1, rfl, hb1, hc1⟩ := HAC.out q (slotC rs[q]) (by rw [List.getElem?_map, hz]; rfl) (by simp [slotC])
      obtain ⟨b2, o2, rfl, hb2, hc2⟩ := HRC.out q (slotC rs[q]) (by rw [List.getElem?_map, hz]; rfl) (by simp [slotC])
      obtain ⟨k1, k2, k3⟩ := lt_facts hb1
      obtain ⟨k4, k5, k6⟩ := lt_facts hb2
      obtain ⟨x0, x1⟩ := slotZ_at hc1
      obtain ⟨y0, y1⟩ := slotZ_at hc2
      have hqi : (q : Int) < rs.length := by omega
      have hqi0 : 0 ≤ (q : Int) := by omega
      generalize rs[q] = z at *
      obtain ⟨za, zb⟩ := z
      dsimp only at x0 x1 y0 y1
      clear hz hc1 hc2
      go_wp2_with fail
      go_region
      all_goals
        go_wp2_with fail
        go_roundw
        case rel => exact ⟨q + 1, by omega, by go_num, (by repeat (first | exact Ext.refl _ | apply Ext.more | apply Ext.alloc | apply Ext.drew | apply Ext.drewN))⟩
        case measure => simp [intOf]; omega
    · obtain rfl : q = rs.length := by omega
      clear hlt HAC HRC
      go_wp2_with fail
      go_loopw [23] (fun i wr => ∃ q : Nat, q ≤ ps.length ∧ i = .int .i64 q ∧ Ext w6 wr) (fun i _ => ps.length - (intOf i).toNat)
      case atStart => exact ⟨0, by omega, rfl, (by repeat (first | exact Ext.refl _ | apply Ext.more | apply Ext.alloc | apply Ext.drew | apply Ext.drewN))⟩
      case round =>
        obtain ⟨q, hq, rfl, ⟨x, rfl⟩⟩ := hrel
        by_cases hlt : q < ps.length
        · have hz : ps[q]? = some ps[q] := List.getElem?_eq_getElem hlt
          obtain ⟨b1, o1, rfl, hb1, hc1⟩ := HBC.out q (slotC ps[q]) (by rw [List.getElem?_map, hz]; rfl) (by simp [slotC])
          obtain ⟨b2, o2, rfl, hb2, hc2⟩ := HFC.out q (slotC ps[q]) (by rw [List.getElem?_map, hz]; rfl) (by simp [slotC])
          obtain ⟨k1, k2, k3⟩ := lt_facts hb1
          obtain ⟨k4, k5, k6⟩ := lt_facts hb2
          obtain ⟨x0, x1⟩ := slotZ_at hc1
          obtain ⟨y0, y1⟩ := slotZ_at hc2
          have hqi : (q : Int) < ps.length := by omega
          have hqi0 : 0 ≤ (q : Int) := by omega
          generalize ps[q] = z at *
          obtain ⟨za, zb⟩ := z
          dsimp only at x0 x1 y0 y1
          clear hz hc1 hc2
          go_wp2_with fail
          go_region
          all_goals
            go_wp2_with fail
            go_roundw
            case rel => exact ⟨q + 1, by omega, by go_num, (by repeat (first | exact Ext.refl _ | apply Ext.more | apply Ext.alloc | apply Ext.drew | apply Ext.drewN))⟩
            case measure => simp [intOf]; omega
        · obtain rfl : q = ps.length := by omega
          clear hlt HBC HFC
          have HR7 := Lib.hid (show Row (more w6 x) Bw 73 10 (.slice a6 n1 c6) n1 from Row.more HR6.out x)
          have HE7 := Lib.hid (show Ext w5 (more w6 x) from HE6.out.more x)
          clear HR6 HE6
          generalize more w6 x = w7 at *
          go_wp2_with fail
          go_loopw [24] (fun i wr => ∃ q : Nat, q ≤ n1 ∧ i = .int .i64 q ∧ Ext w5 wr ∧ Hid (Row wr Bw 73 10 (.slice a6 n1 c6) n1)) (fun i _ => n1 - (intOf i).toNat)
          case atStart => exact ⟨0, by omega, rfl, HE7.out, HR7⟩
          case round =>
            obtain ⟨q, hq, rfl, hE, HRa⟩ := hrel
            have HE := Lib.hid hE
            clear hE HR7 HE7
            by_cases hlt : q < n1
            · obtain ⟨g', rfl, hBg', hg, hcell, hfz⟩ := HRa.out.cells (by omega)
              obtain ⟨u0, u1, u2, u3, u4, u5, u6, u7, u8, u9, y0, y1, y2, y3, y4, y5, y6, y7, y8, y9⟩ := row_ten hcell q hlt
              have hBg : w5.heap.size ≤ g' := by rw [HBw.out]; exact hBg'
              clear hcell
              go_wp2_with fail
              go_roundw
              case rel => exact ⟨q + 1, by omega, by go_num, (by repeat (first | (with_reducible exact HE.out) | (with_reducible refine ext_set ?_ hBg _ _) | (with_reducible apply Ext.more) | (with_reducible apply Ext.alloc) | (with_reducible apply Ext.drew) | (with_reducible apply Ext.drewN))), (by show Row _ _ _ _ _ _; repeat (first | (with_reducible exact HRa.out) | (with_reducible apply Row.set) | (with_reducible apply Row.more) | (with_reducible apply Row.alloc) | (with_reducible apply Row.drew) | (with_reducible apply Row.drewN)))⟩
              case measure => simp [intOf]; omega
            · obtain rfl : q = n1 := by omega
              obtain ⟨x, rfl⟩ := HE.out
              clear hlt hq HRa HE
              go_wp2_with fail
              refine (HT.out _ _ _ _ (by repeat (first | exact HM5.out | apply MemAt.more | apply MemAt.alloc | apply MemAt.drew | apply MemAt.drewN)) _ (by repeat (first | exact HRv5.out | apply rd_more | apply rd_alloc | apply rd_drew | apply rd_drewN)) _ (by repeat (first | exact HPv5.out | apply rd_more | apply rd_alloc | apply rd_drew | apply rd_drewN))).mono ?_
              rintro e w' ⟨⟨x5, rfl⟩, a3, c3, rfl, _, hc3, hm3, hk3⟩
              have HK3 := Lib.hid hk3
              unfold maxLen at hm3
              clear hk3
              by_cases hz : q = 0
              · subst hz
                rcases HV1.out with rfl | ⟨k1, rfl⟩
                all_goals
                  go_wp2_with fail
                  go_quiet ((go_at_call 63; exact Calls.quiet_of (phys_Same_yes _ (by repeat (first | exact HM5.out | apply MemAt.more | apply MemAt.alloc | apply MemAt.drew | apply MemAt.drewN)) (by repeat (first | exact HC5.out | apply MemAt.more | apply MemAt.alloc | apply MemAt.drew | apply MemAt.drewN)))))
                  go_wp2_with fail
                  go_ret
                  exact ⟨(by repeat (first | exact HE5.out | apply Ext.more | apply Ext.alloc | apply Ext.drew | apply Ext.drewN)), rfl⟩
              · obtain ⟨g', rfl, hBg, hg, y0⟩ := HK3.out (by omega)
                have hz' : ((q : Int) == 0) = false := by simpa using hz
                have hz2 : 1 ≤ q := by omega
                clear hz
                rcases HV1.out with rfl | ⟨k1, rfl⟩
                all_goals
                  go_wp2_with fail
                  go_quiet ((go_at_call 63; exact Calls.quiet_of (phys_Same_yes _ (by repeat (first | exact HM5.out | apply MemAt.more | apply MemAt.alloc | apply MemAt.drew | apply MemAt.drewN)) (by repeat (first | exact HC5.out | apply MemAt.more | apply MemAt.alloc | apply MemAt.drew | apply MemAt.drewN)))))
                  go_wp2_with fail
                  go_ret
                  exact ⟨(by repeat (first | exact HE5.out | apply Ext.more | apply Ext.alloc | apply Ext.drew | apply Ext.drewN)), rfl⟩

end Go.Proofs.Ytapeoeakiphfpaa
