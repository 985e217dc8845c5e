import Derived.Test.YthcdecgecabgaaaMovm
import Derived.Test.YthcdecgecabgaaaBMorfBeds
import Derived.Test.YthcdecgecabgaaaWipe
import Derived.Test.YthcdecgecabgaaaBRefgCodeLawgNeed
/- The contract of move.Move at whatever it is given. -/
namespace Go.Proofs.Ythcdecgecabgaaa
open Go.RowKit
set_option linter.unusedVariables false
set_option linter.unusedSimpArgs false
attribute [local go_sem] setCell_drewN alloc_drewN lt_moreE le_moreE lt_moreK le_moreK cell_more frozen_more set_more drew_more drewN_more

/-- Where a page's word stands, and what it says. -/
structure PlaceOk (ws : List Int) (n : Nat) (roots : List (Int × Int)) (frm : Int) (x : Int × Int) (p : Place) : Prop where
  asid : p.asid = x.1
  page : p.page = x.2
  a0 : 0 ≤ x.1
  a1 : x.1 ≤ 255
  p0 : 0 ≤ x.2
  p1 : x.2 < 4096
  root : ∃ (q : Nat) (f : Found), q < roots.length ∧ (roots.getD q (0, 0)).1 = x.1 ∧ (∀ j : Nat, j < q → (roots.getD j (0, 0)).1 ≠ x.1) ∧ walkAt ws n x.2 4 0 (roots.getD q (0, 0)).2 = some f ∧ f.fKind = 3 ∧ f.fOrder = 0 ∧ f.fFrame = frm ∧ p.tb = f.fTable ∧ p.pl = f.fPlace
  says : p.says = decD 3 (ws.getD (p.tb.toNat * 8 + p.pl.toNat) 0)
theorem find_ok {ws : List Int} {n : Nat} {roots : List (Int × Int)} {frm : Int} {x : Int × Int} {p : Place} (h : findR ws n roots x.1 x.2 frm = .yes p) : PlaceOk ws n roots frm x p := by
  unfold findR at h
  split at h
  · cases h
  · rename_i h1
    split at h
    · rename_i h2
      unfold findW at h
      split at h
      · cases h
      · rename_i f hf
        split at h
        · rename_i h3
          injection h with h
          subst h
          obtain ⟨hr, _⟩ | ⟨q, _, hq, hqe, hq1, hq2⟩ := rootAt_spec (roots := roots) (space := x.1) roots.length 0 (by omega)
          · omega
          · refine ⟨rfl, rfl, by omega, by omega, h2.2.2.1, h2.2.2.2, ⟨q, f, hq, hq1, fun j hj => hq2 j (by omega) hj, ?_, h3.1, h3.2.1, h3.2.2, rfl, rfl⟩, rfl⟩
            rw [hqe, Int.toNat_natCast] at hf
            exact hf
        · cases h
    · cases h
theorem places_go {f : Int × Int → FindR} : ∀ (pages : List (Int × Int)) (t : PSt), (∀ p ∈ (pages.foldl (fun t x => stepP t (f x)) t).out, p ∈ t.out ∨ ∃ x ∈ pages, f x = .yes p) ∧ (pages.foldl (fun t x => stepP t (f x)) t).out.length ≤ t.out.length + pages.length := by
  intro pages
  induction pages with
  | nil => intro t; exact ⟨fun p hp => .inl hp, by simp⟩
  | cons x xs ih =>
    intro t
    obtain ⟨h1, h2⟩ := ih (stepP t (f x))
    have hlen : (stepP t (f x)).out.length ≤ t.out.length + 1 := by
      unfold stepP
      split
      · simp
      · split
        · simp
        · split <;> simp
    refine ⟨fun p hp => ?_, by simp only [List.foldl_cons, List.length_cons]; omega⟩
    rcases h1 p hp with h | ⟨y, hy, he⟩
    · cases hf : f x with
      | yes p' =>
        rw [hf] at h
        rcases List.mem_append.1 (show p ∈ t.out ++ [p'] from h) with h | h
        · exact .inl h
        · rw [List.mem_singleton.1 h]
          exact .inr ⟨x, .head _, hf⟩
      | no k =>
        rw [hf] at h
        left
        unfold stepP at h
        dsimp only at h
        split at h
        · exact h
        · split at h <;> exact h
    · exact .inr ⟨y, .tail _ hy, he⟩
theorem held_ok {ws : List Int} {n : Nat} {roots : List (Int × Int)} {frm to : Int} {x : Int × Int} {p : Place} (h : PlaceOk ws n roots frm x p) (t0 : 0 ≤ to) (t1 : to < 512) : okD 3 p.says = true ∧ p.says.fKind = 3 ∧ p.says.fFold = false ∧ p.says.fFrame = frm ∧ okD 3 (heldD p.says) = true ∧ okD 3 (movedD p.says to) = true := by
  obtain ⟨q, f, _, _, _, hw, hk, ho, hfr, htb, hpl⟩ := h.root
  obtain ⟨hl, _, d, hd, hok, hdk, hf⟩ := walk_page hw hk
  have hs : p.says = d := by rw [h.says, htb, hpl, hd]
  have hfold : d.fFold = false := by
    cases hc : d.fFold with
    | false => rfl
    | true =>
      rw [hf] at ho
      unfold foundD at ho
      rw [if_neg (by omega), if_pos hdk, hc] at ho
      simp at ho
  have hframe : d.fFrame = frm := by
    rw [← hfr, hf]
    unfold foundD
    rw [if_neg (by omega), if_pos hdk]
    split <;> rfl
  rw [hs]
  refine ⟨hok, hdk, hfold, hframe, ?_, ?_⟩
  · obtain ⟨k, fr, w, e, s, fo, so⟩ := d
    dsimp only at hdk hfold
    subst hdk hfold
    show okD 3 ⟨4, fr, w, e, false, false, so⟩ = true
    simp [okD, mayD] at hok ⊢
    omega
  · obtain ⟨k, fr, w, e, s, fo, so⟩ := d
    dsimp only at hdk hfold
    subst hdk hfold
    show okD 3 ⟨3, to, w, e, s, false, so⟩ = true
    simp [okD, mayD] at hok ⊢
    omega

def moveRes (ws : List Int) (n : Nat) (roots pages : List (Int × Int)) (frm to : Int) : StepsR :=
  if frm < 0 ∨ (n : Int) ≤ frm ∨ to < 0 ∨ (n : Int) ≤ to ∨ frm = to ∨ pages.length = 0 then .no 1
  else if (placesF (fun x => findR ws n roots x.1 x.2 frm) pages).s1 = true then .no 1
  else if (placesF (fun x => findR ws n roots x.1 x.2 frm) pages).s2 = true then .no 2
  else if (placesF (fun x => findR ws n roots x.1 x.2 frm) pages).s3 = true then .no 7
  else .yes (moveL to frm (placesF (fun x => findR ws n roots x.1 x.2 frm) pages).out)
set_option maxRecDepth 100000 in
set_option maxHeartbeats 2000000 in
theorem move_Move_nil (w : World) (rv pv : Value) (frm to : Int) : Calls Try.prog 15 #[.pointer none, rv, pv, .int .i64 frm, .int .i64 to] w fun e w' => Ext w w' ∧ e = .returned (.tuple #[.slice none 0 0, errW 1]) := by
  go_enter Try.func15, Try.ntmps15
  go_wp2_with fail
  go_ret2
  exact ⟨(by repeat (first | exact Ext.refl _ | apply Ext.more | apply Ext.alloc | apply Ext.drew | apply Ext.drewN)), rfl⟩
set_option maxRecDepth 100000 in
set_option maxHeartbeats 4000000 in
theorem move_Move_any (w : World) {b g n c : Nat} {ws : List Int} (hm : MemAt w b g n c ws) (hw : WOk ws) (roots : List (Int × Int)) (rv : Value) (hrv : SlRd w rv 2 (roots.map slotC)) (pages : List (Int × Int)) (pv : Value) (hpv : SlRd w pv 2 (pages.map slotC)) (hpl : pages.length ≤ 10000) (frm to : Int) (R : StepsR) (hR : moveRes ws n roots pages frm to = R) :
    Calls Try.prog 15 #[.pointer (some ⟨b, 0, none⟩), rv, pv, .int .i64 frm, .int .i64 to] w fun e w' => Ext w w' ∧ StepsRet w.heap.size w' R e := by
  by_cases hb : frm < 0 ∨ (n : Int) ≤ frm ∨ to < 0 ∨ (n : Int) ≤ to ∨ frm = to ∨ pages.length = 0
  · have HV := Lib.hid (show R = .no 1 from by rw [← hR]; unfold moveRes; rw [if_pos hb])
    have HF := Lib.hid (phys_Frames w hm)
    obtain ⟨fa, fcap, rfl, hfcap, _⟩ := hpv.form
    rw [List.length_map] at *
    have hcs : frm < 0 ∨ (0 ≤ frm ∧ (n : Int) ≤ frm) ∨ (0 ≤ frm ∧ frm < n ∧ to < 0) ∨ (0 ≤ frm ∧ frm < n ∧ 0 ≤ to ∧ (n : Int) ≤ to) ∨ (0 ≤ frm ∧ frm < n ∧ 0 ≤ to ∧ to < n ∧ (frm == to) = true) ∨ (0 ≤ frm ∧ frm < n ∧ 0 ≤ to ∧ to < n ∧ (frm == to) = false ∧ ((pages.length : Int) == 0) = true) := by
      by_cases h1 : frm < 0
      · exact .inl h1
      · by_cases h2 : (n : Int) ≤ frm
        · exact .inr (.inl ⟨by omega, h2⟩)
        · by_cases h3 : to < 0
          · exact .inr (.inr (.inl ⟨by omega, by omega, h3⟩))
          · by_cases h4 : (n : Int) ≤ to
            · exact .inr (.inr (.inr (.inl ⟨by omega, by omega, by omega, h4⟩)))
            · by_cases h5 : frm = to
              · exact .inr (.inr (.inr (.inr (.inl ⟨by omega, by omega, by omega, by omega, by simpa using h5⟩))))
              · exact .inr (.inr (.inr (.inr (.inr ⟨by omega, by omega, by omega, by omega, by simpa using h5, by
                  have : pages.length = 0 := by omega
                  simpa using (show (pages.length : Int) = 0 by omega)⟩))))
    clear hm hw hrv hpv hR hb hfcap
    rcases hcs with h1 | ⟨h1, h2⟩ | ⟨h1, h2, h3⟩ | ⟨h1, h2, h3, h4⟩ | ⟨h1, h2, h3, h4, h5⟩ | ⟨h1, h2, h3, h4, h5, h6⟩
    all_goals
      go_enter Try.func15, Try.ntmps15
      go_wp2_with ((with_reducible show Calls _ _ #[_] _ _); go_at_call 33; refine HF.out.mono ?_; rintro e w' ⟨rfl, hww⟩; subst w')
      go_ret2
      exact ⟨(by repeat (first | exact Ext.refl _ | apply Ext.more | apply Ext.alloc | apply Ext.drew | apply Ext.drewN)), by rw [HV.out]; rfl⟩
  · have f0 : 0 ≤ frm := by omega
    have f1 : frm < n := by omega
    have t0 : 0 ≤ to := by omega
    have t1 : to < n := by omega
    have hne : frm ≠ to := by omega
    have hp0 : 0 < pages.length := by omega
    have hn5 := hm.le
    obtain ⟨hgo, hgl⟩ := places_go (f := fun x => findR ws n roots x.1 x.2 frm) pages ⟨[], false, false, false⟩
    have hR1 : (if (placesF (fun x => findR ws n roots x.1 x.2 frm) pages).s1 = true then StepsR.no 1
      else if (placesF (fun x => findR ws n roots x.1 x.2 frm) pages).s2 = true then .no 2
      else if (placesF (fun x => findR ws n roots x.1 x.2 frm) pages).s3 = true then .no 7
      else .yes (moveL to frm (placesF (fun x => findR ws n roots x.1 x.2 frm) pages).out)) = R := by rw [← hR]; unfold moveRes; rw [if_neg hb]
    have hgo2 : ∀ p ∈ (placesF (fun x => findR ws n roots x.1 x.2 frm) pages).out, okD 3 (heldD p.says) = true ∧ okD 3 (movedD p.says to) = true := fun p hp => by
      rcases hgo p hp with h | ⟨x, _, hx⟩
      · cases h
      · obtain ⟨_, _, _, _, h1, h2⟩ := held_ok (to := to) (find_ok hx) t0 (by omega)
        exact ⟨h1, h2⟩
    have hgl2 : (placesF (fun x => findR ws n roots x.1 x.2 frm) pages).out.length ≤ 10000 := by
      have h9 : (placesF (fun x => findR ws n roots x.1 x.2 frm) pages).out.length ≤ ([] : List Place).length + pages.length := hgl
      rw [List.length_nil] at h9
      omega
    have HP0 := move_places w hm hw roots rv hrv pages pv hpv (by omega) frm
    obtain ⟨t, ht⟩ : ∃ t, placesF (fun x => findR ws n roots x.1 x.2 frm) pages = t := ⟨_, rfl⟩
    rw [ht] at hR1 hgo2 hgl2 HP0
    obtain ⟨out, s1, s2, s3⟩ := t
    dsimp only at hR1 hgo2 hgl2
    by_cases hs : s1 = false ∧ s2 = false ∧ s3 = false
    · obtain ⟨rfl, rfl, rfl⟩ := hs
      rw [← hR1]
      exact move_Move w hm hw roots rv hrv pages pv hpv hpl hp0 frm to f0 f1 t0 t1 hne out ht hgl2 hgo2
    · have HF := Lib.hid (phys_Frames w hm)
      obtain ⟨k, hk⟩ : ∃ k, R = .no k ∧ ∀ B w' e, PlacesRet B w' ⟨out, s1, s2, s3⟩ e → e = .returned (.tuple #[.slice none 0 0, errW k]) := by
        unfold PlacesRet
        cases s1 with
        | true => exact ⟨1, by rw [← hR1]; rfl, fun B w' e h => h⟩
        | false =>
          cases s2 with
          | true => exact ⟨2, by rw [← hR1]; rfl, fun B w' e h => h⟩
          | false =>
            cases s3 with
            | true => exact ⟨7, by rw [← hR1]; rfl, fun B w' e h => h⟩
            | false => exact absurd ⟨rfl, rfl, rfl⟩ hs
      obtain ⟨hk1, hk2⟩ := hk
      have HV := Lib.hid hk1
      have HPl := Lib.hid (HP0.mono fun e w' h => (⟨h.1, hk2 _ _ _ h.2⟩ : Ext w w' ∧ e = .returned (.tuple #[.slice none 0 0, errW k])))
      obtain ⟨fa, fcap, rfl, hfcap, _⟩ := hpv.form
      rw [List.length_map] at *
      have hq : ((pages.length : Int) == 0) = false := by simpa using (show ¬ (pages.length : Int) = 0 by omega)
      have hne' : (frm == to) = false := by simpa using hne
      clear hm hw hrv hpv hR hR1 hb hfcap HP0 hk1 hk2 ht hgo hgl hgo2 hs hne
      go_enter Try.func15, Try.ntmps15
      go_wp2_with ((with_reducible show Calls _ _ #[_] _ _); go_at_call 33; refine HF.out.mono ?_; rintro e w' ⟨rfl, hww⟩; subst w')
      refine HPl.out.mono ?_
      rintro e w' ⟨⟨x1, rfl⟩, rfl⟩
      go_wp2_with fail
      go_ret2
      exact ⟨(by repeat (first | exact Ext.refl _ | apply Ext.more | apply Ext.alloc | apply Ext.drew | apply Ext.drewN)), by rw [HV.out]; rfl⟩

end Go.Proofs.Ythcdecgecabgaaa

/- A slice that came in is appended to a row of the call's own. -/
namespace Go.Proofs.Ythcdecgecabgaaa
open Go.RowKit
set_option linter.unusedVariables false
set_option linter.unusedSimpArgs false

theorem rd_news {w : World} {b o sz : Nat} {s : Option Nat} {css : List (List Value)} (hz : 0 < sz) (hcs : ∀ c ∈ css, c.length = sz)
    (h : ∀ i c j u, css[i]? = some c → c[j]? = some u → s = none ∧ w.cell? ⟨b, o + (i * sz + j), none⟩ = some u) : ∀ j u, css.flatten[j]? = some u → w.cell? ((⟨b, o, s⟩ : Addr).add j) = some u := by
  intro j u hu
  have hl : css.flatten.length = css.length * sz := by
    clear h hu
    induction css with
    | nil => simp
    | cons c t ih => rw [List.flatten_cons, List.length_append, ih (fun c hc => hcs c (.tail _ hc)), hcs c (.head _), List.length_cons, Nat.add_mul]; omega
  have hj : j < css.length * sz := by have := (List.getElem?_eq_some_iff.1 hu).1; omega
  have hi : j / sz < css.length := (Nat.div_lt_iff_lt_mul hz).2 hj
  have hr : j % sz < sz := Nat.mod_lt _ hz
  have hc : css[j / sz]? = some css[j / sz] := List.getElem?_eq_getElem hi
  have hlc : (css[j / sz]).length = sz := hcs _ (List.getElem_mem hi)
  have hu' : (css[j / sz])[j % sz]? = some (css[j / sz])[j % sz] := List.getElem?_eq_getElem (by omega)
  have hf := flatten_at sz css (j / sz) (j % sz) _ _ hcs hc hu'
  have e : j / sz * sz + j % sz = j := by rw [Nat.mul_comm]; exact Nat.div_add_mod j sz
  rw [e, hu] at hf
  obtain ⟨rfl, hcell⟩ := h _ _ _ _ hc hu'
  rw [e] at hcell
  have hadd : (⟨b, o, none⟩ : Addr).add j = ⟨b, o + j, none⟩ := by unfold Addr.add; split <;> simp_all
  rw [hadd, hcell, Option.some.inj hf]

theorem wpList_append_in {P : Program} (W : World) {w : World} {ops : Array Oper} {rest : List Oper} {o : Oper} {a : Act} {Q : Exit → Act → World → Prop} {t e : TypeId} {z : Value} {size bytes : Nat} (el : ElemAt P t e z size bytes)
    (hgd : o.guard = none) (s x : Operand) (ho : o.op = .call { callee := .builtin .append, args := #[s, x], argTypes := #[t, t] })
    (v : Value) (n : Nat) (xs : List Value) (hs : a.eval s = v) (hown : w.ownsRow W.heap.size e size v n xs) (hW : Ext W w)
    (v2 : Value) (css : List (List Value)) (hx : a.eval x = v2) (hrd : SlRd w v2 size css) (hcs : ∀ c ∈ css, c.length = size) (h1 : css.flatten.all Value.oneCell' = true) (hn : n + css.length ≤ 1000000)
    (h : ∀ v' x', Hid ((more W x').ownsRow W.heap.size e size v' (n + css.length) (xs ++ css.flatten)) → (∀ k ob, w.heap[k]? = some ob → v.ownBlock ≠ some k → (more W x').heap[k]? = some ob) → wpList P ops Q rest (a.put o.dst v') (more W x')) : wpList P ops Q (o :: rest) a w := by
  obtain ⟨i, hi, hz, h3, h4⟩ := info_parts el.info
  rcases hrd with ⟨rfl, rfl⟩ | ⟨b, of, s', cap, rfl, g1, g2, g3⟩
  · obtain ⟨x', rfl⟩ := hW
    refine wpList_append_own_none hgd s x t ho W.heap.size e i size el.sl hi v n xs hs hown hx ?_
    exact h v x' (show World.ownsRow _ _ _ _ _ _ _ by simpa using hown) (fun k ob hk _ => hk)
  · have hb : (n + css.length) * bytes ≤ 1000000 * 1000 := Nat.mul_le_mul hn el.small
    have hl : css.flatten.length = css.length * size := by
      clear h hx g1 g3 hn hb h1
      induction css with
      | nil => simp
      | cons c t ih => rw [List.flatten_cons, List.length_append, ih (fun c hc => hcs c (.tail _ hc)), hcs c (.head _), List.length_cons, Nat.add_mul]; omega
    refine wpList_append_own w hgd s x t ho W.heap.size e i z size bytes el.sl hi hz h3 h4 el.zs el.pos v n xs hs hown ⟨b, of, s'⟩ css.length cap css.flatten hx hl
      (rd_news el.pos hcs g3) (by intro u hu; exact List.all_eq_true.1 h1 u hu) (by unfold maxLen; omega) (by omega) hW.size ?_
    intro v' w' ho' hg' _
    obtain ⟨x', rfl⟩ := more_of_grow (grow_row hW.grow hown hg')
    exact h v' x' ho' fun k ob hk hne => (hg'.block k (Array.getElem?_eq_some_iff.1 hk).1 (fun e => hne e.symm)).trans hk
theorem ints_flat (l : List Int) : (l.map intCells).flatten.all Value.oneCell' = true := all_flat intCells _ (fun a => rfl) l
theorem ints_one (l : List Int) : ∀ c ∈ l.map intCells, c.length = 1 := by
  intro c hc
  obtain ⟨x, _, rfl⟩ := List.mem_map.1 hc
  rfl

end Go.Proofs.Ythcdecgecabgaaa

/- The head of layer 18's laws; the law paviorlaw18.MoveStays. -/
namespace Go.Proofs.Ythcdecgecabgaaa
open Go.RowKit
set_option linter.unusedVariables false
set_option linter.unusedSimpArgs false
attribute [local go_sem] setCell_drewN alloc_drewN lt_moreE le_moreE lt_moreK le_moreK cell_more frozen_more set_more drew_more drewN_more

def ApartP (p q : Place) : Prop := ¬ (p.tb = q.tb ∧ p.pl = q.pl)
/-- All pages' places, where nothing is amiss. -/
theorem places_all {f : Int × Int → FindR} : ∀ (xs : List (Int × Int)) (t : PSt), (xs.foldl (fun t x => stepP t (f x)) t).s1 = false → (xs.foldl (fun t x => stepP t (f x)) t).s2 = false → (xs.foldl (fun t x => stepP t (f x)) t).s3 = false →
    t.s1 = false ∧ t.s2 = false ∧ t.s3 = false ∧ ∃ ps, (xs.foldl (fun t x => stepP t (f x)) t).out = t.out ++ ps ∧ ps.length = xs.length ∧ (∀ (i : Nat) x p, xs[i]? = some x → ps[i]? = some p → f x = .yes p) ∧ (t.out.Pairwise ApartP → (t.out ++ ps).Pairwise ApartP) := by
  intro xs
  induction xs with
  | nil => intro t h1 h2 h3; exact ⟨h1, h2, h3, [], by simp, rfl, fun i x p hx => by simp at hx, fun h => by simpa using h⟩
  | cons x xs ih =>
    intro t h1 h2 h3
    rw [List.foldl_cons] at h1 h2 h3
    obtain ⟨g1, g2, g3, ps, hps, hl, hi, hp⟩ := ih (stepP t (f x)) h1 h2 h3
    cases hf : f x with
    | no k =>
      exfalso
      rw [hf] at g1 g2 g3
      unfold stepP at g1 g2 g3
      dsimp only at g1 g2 g3
      by_cases k1 : k = 1
      · rw [if_pos k1] at g1; cases g1
      · by_cases k2 : k = 2
        · rw [if_neg k1, if_pos k2] at g2; cases g2
        · rw [if_neg k1, if_neg k2] at g3; cases g3
    | yes p =>
      rw [hf] at g1 g2 g3 hps hp
      have g3' : (t.s3 || t.out.any (sameP p.tb p.pl)) = false := g3
      rw [Bool.or_eq_false_iff] at g3'
      have hps' : (xs.foldl (fun t x => stepP t (f x)) (stepP t (.yes p))).out = (t.out ++ [p]) ++ ps := hps
      refine ⟨g1, g2, g3'.1, p :: ps, ?_, by simp [hl], fun i y q hy hq => ?_, fun h => ?_⟩
      · rw [List.foldl_cons, hf, hps', List.append_assoc]; rfl
      · cases i with
        | zero =>
          simp at hy hq
          rw [← hy, ← hq, hf]
        | succ i => exact hi i y q (by simpa using hy) (by simpa using hq)
      · have hp' : (t.out ++ [p]).Pairwise ApartP → ((t.out ++ [p]) ++ ps).Pairwise ApartP := hp
        rw [List.append_assoc] at hp'
        refine hp' (List.pairwise_append.2 ⟨h, by simp, fun a ha b hb => ?_⟩)
        rw [List.mem_singleton.1 hb]
        rintro ⟨e1, e2⟩
        have := List.any_eq_false.1 g3'.2 a ha
        simp [sameP, e1, e2] at this
/-- What Move's steps are of. -/
structure MovesAt (ws : List Int) (n : Nat) (roots pages : List (Int × Int)) (frm to : Int) (out : List Place) : Prop where
  f0 : 0 ≤ frm
  f1 : frm < n
  t0 : 0 ≤ to
  t1 : to < n
  ne : frm ≠ to
  pos : 0 < pages.length
  len : out.length = pages.length
  ok : ∀ (i : Nat) x p, pages[i]? = some x → out[i]? = some p → PlaceOk ws n roots frm x p
  apart : out.Pairwise ApartP
theorem move_yes {ws : List Int} {n : Nat} {roots pages : List (Int × Int)} {frm to : Int} {s : List Step} (h : moveRes ws n roots pages frm to = .yes s) : ∃ out, s = moveL to frm out ∧ MovesAt ws n roots pages frm to out := by
  unfold moveRes at h
  split at h
  · cases h
  · rename_i hb
    split at h
    · cases h
    · rename_i h1
      split at h
      · cases h
      · rename_i h2
        split at h
        · cases h
        · rename_i h3
          injection h with h
          obtain ⟨_, _, _, ps, hps, hl, hi, hp⟩ := places_all (f := fun x => findR ws n roots x.1 x.2 frm) pages ⟨[], false, false, false⟩ (by simpa [placesF] using h1) (by simpa [placesF] using h2) (by simpa [placesF] using h3)
          have hps' : (placesF (fun x => findR ws n roots x.1 x.2 frm) pages).out = ps := hps
          refine ⟨ps, by rw [← h, hps'], ⟨by omega, by omega, by omega, by omega, by omega, by omega, hl, fun i x p hx hp => find_ok (hi i x p hx hp), ?_⟩⟩
          have := hp List.Pairwise.nil
          simpa using this
theorem moveL_len (to frm : Int) (l : List Place) : (moveL to frm l).length = 3 * l.length + 8 := by
  unfold moveL
  simp only [List.length_append, heldL_len, toldP_len, doneL_len, copiesN_len]
  omega
theorem first_move {ws : List Int} {n : Nat} {roots pages : List (Int × Int)} {frm to : Int} (hp : pages.length ≤ 10000) : FirstK 1 (moveRes ws n roots pages frm to) := by
  intro s hs
  obtain ⟨out, rfl, hM⟩ := move_yes hs
  have h1 := hM.len
  have h2 := hM.pos
  refine ⟨by rw [moveL_len]; omega, fun h hh => ?_⟩
  cases out with
  | nil => rw [← h1] at h2; simp at h2
  | cons p ps =>
    simp [moveL, heldL] at hh
    rw [← hh]
    rfl
def rootP (r : Root) : Int × Int := (r.fAsid, r.fFrame)
def whereP (r : Where) : Int × Int := (r.fSpace, r.fPage)
theorem roots_slots (l : List Root) : l.map Root.cells = (l.map rootP).map slotC := by rw [List.map_map]; rfl
theorem wheres_slots (l : List Where) : l.map Where.cells = (l.map whereP).map slotC := by rw [List.map_map]; rfl
theorem el_Root : ElemAt Try.prog 23 38 (.agg #[.int .i64 0, .int .i64 0]) 2 16 := ⟨Try.underlying23, by kernel_rfl, rfl, by decide, by decide⟩
theorem el_Where : ElemAt Try.prog 24 57 (.agg #[.int .i64 0, .int .i64 0]) 2 16 := ⟨Try.underlying24, by kernel_rfl, rfl, by decide, by decide⟩
theorem slots_one (l : List (Int × Int)) : ∀ c ∈ l.map slotC, c.length = 2 := by
  intro c hc
  obtain ⟨x, _, rfl⟩ := List.mem_map.1 hc
  rfl
theorem slots_flat (l : List (Int × Int)) : (l.map slotC).flatten.all Value.oneCell' = true := all_flat slotC _ (fun a => rfl) l

set_option maxRecDepth 100000 in
set_option maxHeartbeats 2000000 in
theorem law18_up (w : World) : Calls Try.prog 13 #[] w fun e w' => Ext w w' ∧ e = .returned (.bool true) := by
  have heq := fun (w : World) => eql_err w 1 1
  have hzw : WOk (List.replicate 16 (0 : Int)) := fun x hx => by rw [List.eq_of_mem_replicate hx]; omega
  generalize hZ : List.replicate 16 (0 : Int) = Z at *
  have HZ := Lib.hid hZ
  clear hZ
  go_enter Try.func13, Try.ntmps13
  go_wp2_with fail
  refine (phys_New_yes _ 2 (by omega) (by omega)).mono ?_
  rintro e w1 ⟨b, g, rfl, hm, hgr, _, _⟩
  rw [show 2 * 8 = 16 from rfl, HZ.out] at hm
  have HM := Lib.hid hm
  obtain ⟨ex0, rfl⟩ := more_of_grow hgr
  have HF := Lib.hid (fun w (hm : MemAt w b g 2 2 Z) => move_Move_any w hm hzw [] (.slice none 0 0) (.inl ⟨rfl, rfl⟩) [] (.slice none 0 0) (.inl ⟨rfl, rfl⟩) (by simp) 0 1 (.no 1) (by unfold moveRes; rw [if_pos (by simp)]))
  clear hgr hm
  go_wp2_with fail
  refine (HF.out _ (by repeat (first | exact HM.out | apply MemAt.more | apply MemAt.alloc | apply MemAt.drew | apply MemAt.drewN))).mono ?_
  rintro e w' ⟨⟨ex1, rfl⟩, hq⟩
  replace hq : e = .returned (.tuple #[.slice none 0 0, errW 1]) := hq
  subst hq
  go_wp2_with fail
  go_ret
  exact ⟨(by repeat (first | exact Ext.refl _ | apply Ext.more | apply Ext.alloc | apply Ext.drew | apply Ext.drewN)), rfl⟩

/-- The cells of an element of two. -/
theorem slotZ_at {w : World} {b o : Nat} {z : Int × Int} {q : Nat} (h : ∀ j u, (slotC z)[j]? = some u → w.cell? ⟨b, o + (q * 2 + j), none⟩ = some u) : w.cell? ⟨b, o + q * 2, none⟩ = some (.int .i64 z.1) ∧ w.cell? ⟨b, o + q * 2 + 1, none⟩ = some (.int .i64 z.2) := by
  have x0 := h 0 _ rfl
  have x1 := h 1 _ rfl
  rw [← Nat.add_assoc] at x0 x1
  exact ⟨x0, x1⟩

end Go.Proofs.Ythcdecgecabgaaa
