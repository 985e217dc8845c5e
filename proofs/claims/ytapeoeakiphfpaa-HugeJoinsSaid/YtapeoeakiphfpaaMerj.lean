import Derived.Test.YtapeoeakiphfpaaBFitsHugeHugfHugsMerglMerk
/- Plain law behind HugeJoins: what Merge's steps leave. -/
namespace Go.Proofs.Ytapeoeakiphfpaa
open Go.RowKit
set_option linter.unusedVariables false
set_option linter.unusedSimpArgs false

theorem foundD_blk {d : Desc} {T P p : Int} (h : d.fKind = 2) : foundD d 2 T P p = ⟨2, 2, T, P, d.fFrame + p % 8, 3, p - p % 8, d.fFrame, d.fWrite, d.fExec, d.fSeen⟩ := by
  unfold foundD
  rw [if_pos h]
set_option maxHeartbeats 2000000 in
theorem merge_behind {ws : List Int} {n : Nat} {root asid page base : Int} {wr ex : Bool} {r : List Int} {sl : List (Int × Int)} {dz : Desc} {l : List (Int × Int)} (hn : n ≤ 512) (hw : ws.length = n * 8) (hM : MayM n root asid page base) (hr : tabsAt ws n 4 0 root = some r)
    (hway : wayAt ws n page 4 0 root = some (sl, dz)) (h4 : ¬ sl.length < 4) (hpg : pagesN ws (sl.getD 3 (0, 0)).1 page 8 = some l) (hfr : ∀ z ∈ l, z.2 < n) (hnd : (r ++ ((List.range 8).map (fun i : Nat => base + (i : Int)) ++ l.map (·.2))).Nodup) (s : List Step) (hs : mergeS ws asid page base wr ex (sl.getD 3 (0, 0)).1 (sl.getD 2 (0, 0)).1 l = s) :
    (∀ x ∈ s, StepOk x) ∧ Safe n ws [] s ∧ ∀ q : Int, 0 ≤ q → q < 4096 → ∃ x y, walkAt ws n q 4 0 root = some x ∧ walkAt (doW n ws s) n q 4 0 root = some y ∧ (q / 8 ≠ page / 8 → y = x) ∧
      (q / 8 = page / 8 → y.fKind = 2 ∧ y.fFrame = base + q % 8 ∧ y.fWrite = wr ∧ y.fExec = ex ∧ (x.fKind = 3 → 0 ≤ x.fFrame ∧ x.fFrame < n) ∧
        ∀ m : Nat, m < 8 → (doW n ws s).getD (y.fFrame.toNat * 8 + m) 0 = if x.fKind = 3 then ws.getD (x.fFrame.toNat * 8 + m) 0 else 0) := by
  obtain ⟨⟨r0, r1, p0, p1, b0, b1, a0, a1⟩, hb7, hb8, hp8⟩ := hM
  have hl4 : sl.length = 4 := by have := (wayAt_len _ _ _ _ _ hway).2; omega
  obtain ⟨z2, hz2⟩ : ∃ z, sl[2]? = some z := ⟨_, List.getElem?_eq_getElem (by omega)⟩
  obtain ⟨z3, hz3⟩ : ∃ z, sl[3]? = some z := ⟨_, List.getElem?_eq_getElem (by omega)⟩
  have e3 : sl.getD 3 (0, 0) = z3 := by rw [List.getD_eq_getElem?_getD, hz3]; rfl
  have e2 : sl.getD 2 (0, 0) = z2 := by rw [List.getD_eq_getElem?_getD, hz2]; rfl
  rw [e3] at hpg
  rw [e3, e2] at hs
  obtain ⟨hs2, hp2, _⟩ := way_sees 4 0 root sl dz r0 r1 hway 2 z2 hz2
  obtain ⟨hs3, hp3, _⟩ := way_sees 4 0 root sl dz r0 r1 hway 3 z3 hz3
  obtain ⟨hk2, hf2⟩ := way_next 4 0 root sl dz hway 2 z2 z3 hz2 hz3
  obtain ⟨tb, P2⟩ := z2
  obtain ⟨t, P3⟩ := z3
  dsimp only at *
  have hs2 : Sees ws n page 4 0 root 2 tb := hs2
  have hs3 : Sees ws n page 4 0 root 3 t := hs3
  have hp2 : P2 = placeN 2 page := hp2
  have hk2 : (decD 2 (ws.getD (tb.toNat * 8 + P2.toNat) 0)).fKind = 1 := hk2
  have hf2 : (decD 2 (ws.getD (tb.toNat * 8 + P2.toNat) 0)).fFrame = t := hf2
  clear hz2 hz3 e2 e3 hway h4 hl4
  obtain ⟨hrd, hrest, hdis⟩ := List.nodup_append.1 hnd
  obtain ⟨hbn, hln, hbl⟩ := List.nodup_append.1 hrest
  have htr := sees_in _ _ _ _ _ _ hr hs3
  have htbr := sees_in _ _ _ _ _ _ hr hs2
  obtain ⟨_, _, t0, t1⟩ := sees_lo _ _ _ _ _ hs3
  obtain ⟨_, _, tb0, tb1⟩ := sees_lo _ _ _ _ _ hs2
  have hP0 := placeN_lo 2 page
  have hP1 := placeN_hi 2 page
  have hne : t ≠ tb := fun e => by
    subst e
    have := (sees_one _ _ _ _ _ _ _ hr hrd hs3 hs2).1
    omega
  have hbase : ∀ x ∈ r, ∀ i : Nat, i < 8 → x ≠ base + (i : Int) := fun x hx i hi => hdis x hx _ (List.mem_append.2 (.inl (List.mem_map.2 ⟨i, List.mem_range.2 hi, rfl⟩)))
  obtain ⟨hlp, hkinds⟩ := pagesN_pgs hpg
  have hlin : ∀ z ∈ l, ∃ j : Nat, j < 8 ∧ (wordD ws t j).fKind = 3 ∧ z = (page + (j : Int), (wordD ws t j).fFrame) := by
    intro z hz
    rw [hlp] at hz
    obtain ⟨j, _, h1, h2, h3⟩ := pgs_in z hz
    exact ⟨j, h1, h2, h3⟩
  have hlof : ∀ j : Nat, j < 8 → (wordD ws t j).fKind = 3 → (page + (j : Int), (wordD ws t j).fFrame) ∈ l := by
    intro j hj hk
    rw [hlp]
    unfold pgs
    rw [List.drop_zero, List.mem_filterMap]
    exact ⟨j, List.mem_range.2 hj, by rw [if_pos hk]⟩
  have hdok : ∀ j : Nat, j < 8 → okD 3 (wordD ws t j) = true ∧ encW (wordD ws t j) = ws.getD (t.toNat * 8 + j) 0 := fun j hj => decD_ok (level := 3) (x := ws.getD (t.toNat * 8 + j) 0) (by have := hkinds j hj; unfold wordD at this; omega)
  have hFill : FillOk n ws t base := ⟨b0, hb7, fun i hi hk => by
    have hz := hlof i hi hk
    obtain ⟨_, _, f0, _⟩ := okD_parts (hdok i hi).1
    exact ⟨f0, hfr _ hz, fun j hj e => hbl _ (List.mem_map.2 ⟨j, List.mem_range.2 hj, rfl⟩) _ (List.mem_map.2 ⟨_, hz, rfl⟩) e.symm⟩⟩
  -- the steps
  have hp88 : page + 8 ≤ 4096 := by omega
  have hWr : ∀ (j : Nat), j < 8 → WrOk n (wr0 asid 3 t (j : Int) (page + (j : Int)) 0) := fun j hj =>
    ⟨rfl, ⟨3, rfl, ⟨a0, a1, by omega, t0, by show t < 512; omega, by show (0 : Int) ≤ (j : Int); omega, by show (j : Int) < 8; omega, by show 0 ≤ page + (j : Int); omega, by show page + (j : Int) < 4096; omega, firstP_page _⟩⟩, t1, ⟨show (0 : Int) ≤ 0 by omega, show (0 : Int) < 18446744073709551616 by omega⟩⟩
  have hwipe : ∀ x ∈ l.map (fun z => wr0 asid 3 t (z.1 - page) z.1 0), ∃ j : Nat, j < 8 ∧ (wordD ws t j).fKind = 3 ∧ x = wr0 asid 3 t (j : Int) (page + (j : Int)) 0 := by
    intro x hx
    obtain ⟨z, hz, rfl⟩ := List.mem_map.1 hx
    obtain ⟨j, hj, hk, rfl⟩ := hlin z hz
    exact ⟨j, hj, hk, by dsimp only; rw [show page + (j : Int) - page = (j : Int) by omega]⟩
  have hC : ∀ x ∈ l.map (fun z => wr0 asid 3 t (z.1 - page) z.1 0), WrOk n x ∧ x.fValue % 2 = 0 ∧ ws.getD (idxS x) 0 % 2 = 1 ∧ ∀ g ∈ ([] : List GC), ¬ (g.t = x.fTable ∧ g.p = x.fPlace) := by
    intro x hx
    obtain ⟨j, hj, hk, rfl⟩ := hwipe x hx
    refine ⟨hWr j hj, rfl, ?_, fun g hg => by cases hg⟩
    show ws.getD (t.toNat * 8 + ((j : Nat) : Int).toNat) 0 % 2 = 1
    rw [Int.toNat_natCast, ← (hdok j hj).2]
    exact encW_odd (.inr (.inr hk))
  have pC : (l.map (fun z => wr0 asid 3 t (z.1 - page) z.1 0)).Pairwise apartS := by
    rw [List.pairwise_map]
    have hp : l.Pairwise fun a b => a.2 ≠ b.2 := List.pairwise_map.1 hln
    refine List.Pairwise.imp_of_mem ?_ hp
    intro a b ha hb hab hh
    obtain ⟨j, hj, _, rfl⟩ := hlin a ha
    obtain ⟨k, hk, _, rfl⟩ := hlin b hb
    have : page + (j : Int) - page = page + (k : Int) - page := hh.2
    obtain rfl : j = k := by omega
    exact hab rfl
  have hT1 : ∀ x ∈ l.map (fun z => tellS asid z.1), x.fKind = 2 ∧ 0 ≤ x.fFirst ∧ x.fFirst < 4096 := by
    intro x hx
    obtain ⟨z, hz, rfl⟩ := List.mem_map.1 hx
    obtain ⟨j, hj, _, rfl⟩ := hlin z hz
    exact ⟨rfl, by show 0 ≤ page + (j : Int); omega, by show page + (j : Int) < 4096; omega⟩
  have hclose : WrOk n (wr0 asid 2 tb P2 page 0) := ⟨rfl, ⟨2, rfl, ⟨a0, a1, by omega, tb0, by show tb < 512; omega, by show 0 ≤ P2; omega, by show P2 < 8; omega, p0, p1, by have := firstP_block page; rw [hp8, Int.sub_zero] at this; exact this⟩⟩, tb1, ⟨show (0 : Int) ≤ 0 by omega, show (0 : Int) < 18446744073709551616 by omega⟩⟩
  have hbok : okD 2 (blockD base wr ex) = true := okD_blk b0 (by omega) hb8
  have hvr := encW_range hbok
  have hopen : WrOk n (wr0 asid 2 tb P2 page (encW (blockD base wr ex))) := ⟨rfl, hclose.lv, tb1, hvr⟩
  have hT2 : ∀ x ∈ tellsN asid page 8, x.fKind = 2 ∧ 0 ≤ x.fFirst ∧ x.fFirst < 4096 := tellsN_in asid page 8 p0 (by omega)
  have htells : ∀ (T : List Step) (vs : List Int), (∀ x ∈ T, x.fKind = 2) → doW n vs T = vs := by
    intro T
    induction T with
    | nil => intro vs _; rfl
    | cons x T ih => intro vs h; rw [doW_cons, stepW_none (by rw [h x (.head _)]; omega) (by rw [h x (.head _)]; omega) (by rw [h x (.head _)]; omega)]; exact ih vs fun y hy => h y (.tail _ hy)
  -- the words
  obtain ⟨u1, hu1⟩ : ∃ u1, doW n ws (l.map (fun z => wr0 asid 3 t (z.1 - page) z.1 0)) = u1 := ⟨_, rfl⟩
  have hl1 : u1.length = n * 8 := by rw [← hu1, doW_len]; exact hw
  have hu1o : ∀ j : Nat, j / 8 ≠ t.toNat → u1.getD j 0 = ws.getD j 0 := by
    intro j hj
    rw [← hu1]
    refine writes_off _ _ _ (fun x hx => (hC x hx).1) fun x hx => ?_
    obtain ⟨i, hi, _, rfl⟩ := hwipe x hx
    show t.toNat * 8 + ((i : Nat) : Int).toNat ≠ j
    omega
  obtain ⟨u2, hu2⟩ : ∃ u2, doW n u1 (fillN ws t base 8) = u2 := ⟨_, rfl⟩
  have hl2 : u2.length = n * 8 := by rw [← hu2, doW_len]; exact hl1
  obtain ⟨hfa, hfo⟩ := fill_do hFill 8 u1 (by omega) hl1
  rw [hu2] at hfa hfo
  have hu2o : ∀ j : Nat, j / 8 ≠ t.toNat → (∀ i : Nat, i < 8 → j / 8 ≠ (base + (i : Int)).toNat) → u2.getD j 0 = ws.getD j 0 := fun j h1 h2 => (hfo j h2).trans (hu1o j h1)
  obtain ⟨us, hus⟩ : ∃ us, doW n ws s = us := ⟨_, rfl⟩
  have hsplit : s = l.map (fun z => wr0 asid 3 t (z.1 - page) z.1 0) ++ (l.map (fun z => tellS asid z.1) ++ (fillN ws t base 8 ++ ([wr0 asid 2 tb P2 page 0] ++ (tellsN asid page 8 ++ ([wr0 asid 2 tb P2 page (encW (blockD base wr ex))] ++ [dropS t]))))) := by
    rw [← hs]
    unfold mergeS awayM swapS
    rw [hp2]
    simp
  have huse : us = u2.set (tb.toNat * 8 + P2.toNat) (encW (blockD base wr ex)) := by
    rw [← hus, hsplit, doW_append, hu1, doW_append, htells _ _ (fun x hx => (hT1 x hx).1), doW_append, hu2, doW_append, doW_append, htells _ _ (fun x hx => (hT2 x hx).1), doW_append, doW_cons, doW_cons, doW_cons, hclose.step, hopen.step]
    show stepW n ((u2.set (tb.toNat * 8 + P2.toNat) 0).set (tb.toNat * 8 + P2.toNat) (encW (blockD base wr ex))) (dropS t) = _
    rw [stepW_none (by show (6 : Int) ≠ 1; omega) (by show (6 : Int) ≠ 4; omega) (by show (6 : Int) ≠ 5; omega), List.set_set]
  have hold : u2.getD (tb.toNat * 8 + P2.toNat) 0 = ws.getD (tb.toNat * 8 + P2.toNat) 0 := hu2o _ (by omega) fun i hi => by have := hbase tb htbr i hi; omega
  have hodd : ws.getD (tb.toNat * 8 + P2.toNat) 0 % 2 = 1 := by
    have := (decD_ok (level := 2) (x := ws.getD (tb.toNat * 8 + P2.toNat) 0) (by rw [hk2]; omega)).2
    rw [← this]
    exact encW_odd (.inl hk2)
  rw [hus]
  refine ⟨?_, ?_, ?_⟩
  · intro x hx
    rw [hsplit] at hx
    simp only [List.mem_append, List.mem_cons, List.not_mem_nil, or_false] at hx
    have hz : ∀ y : Step, y.fValue = 0 → StepOk y := fun y hy => by
      unfold StepOk
      rw [hy]
      omega
    rcases hx with hx | hx | hx | rfl | hx | rfl | rfl
    · obtain ⟨j, hj, _, rfl⟩ := hwipe x (by simpa using hx)
      exact hz _ rfl
    · obtain ⟨z, _, rfl⟩ := List.mem_map.1 hx
      exact hz _ rfl
    · exact (fill_kinds 8 x hx).2
    · exact hz _ rfl
    · obtain ⟨i, _, rfl⟩ := List.mem_map.1 hx
      exact hz _ rfl
    · exact hvr
    · exact hz _ rfl
  · rw [hsplit]
    refine safe_closes _ ws [] _ hC pC ?_
    rw [hu1, List.nil_append]
    refine safe_tells _ _ _ hT1 ?_
    have hG1 : ∀ g ∈ ((l.map (fun z => wr0 asid 3 t (z.1 - page) z.1 0)).map gapS).map (fun c : GC => (l.map (fun z => tellS asid z.1)).foldl (fun (c : GC) (s : Step) => tellC s.fAsid s.fFirst c) c), g.told.count false = 0 ∧ g.t = t := by
      intro g hg
      obtain ⟨c, hc, rfl⟩ := List.mem_map.1 hg
      obtain ⟨x, hx, rfl⟩ := List.mem_map.1 hc
      obtain ⟨z, hz, rfl⟩ := List.mem_map.1 hx
      constructor
      · refine tells_all fun i hi => ?_
        have hi : i < (List.replicate (spanL ((3 : Nat) : Int)).toNat false).length := hi
        have : (spanL ((3 : Nat) : Int)).toNat = 1 := by decide
        rw [List.length_replicate, this] at hi
        obtain rfl : i = 0 := by omega
        exact ⟨tellS asid z.1, List.mem_map.2 ⟨z, hz, rfl⟩, rfl, by show z.1 = z.1 + ((0 : Nat) : Int); omega⟩
      · exact (tells_same _ _).1
    generalize ((l.map (fun z => wr0 asid 3 t (z.1 - page) z.1 0)).map gapS).map (fun c : GC => (l.map (fun z => tellS asid z.1)).foldl (fun (c : GC) (s : Step) => tellC s.fAsid s.fFirst c) c) = G1 at *
    refine safe_pass _ _ _ _ (fill_kinds 8) ?_
    rw [hu2]
    refine safe_closes [wr0 asid 2 tb P2 page 0] u2 G1 _ (fun x hx => ?_) (by simp) ?_
    · rw [List.mem_singleton.1 hx]
      refine ⟨hclose, rfl, by show u2.getD (tb.toNat * 8 + P2.toNat) 0 % 2 = 1; rw [hold]; exact hodd, fun g hg hh => hne ?_⟩
      rw [← (hG1 g hg).2]
      exact hh.1
    refine safe_tells _ _ _ hT2 ?_
    have hG2 : ∀ g ∈ (G1 ++ [wr0 asid 2 tb P2 page 0].map gapS).map (fun c : GC => (tellsN asid page 8).foldl (fun (c : GC) (s : Step) => tellC s.fAsid s.fFirst c) c), g.told.count false = 0 := by
      intro g hg
      obtain ⟨c, hc, rfl⟩ := List.mem_map.1 hg
      rcases List.mem_append.1 hc with hc | hc
      · exact told_keep _ _ (hG1 c hc).1
      · rw [List.map_cons, List.map_nil, List.mem_singleton] at hc
        subst hc
        refine tells_all fun i hi => ?_
        have hi : i < (List.replicate (spanL ((2 : Nat) : Int)).toNat false).length := hi
        have : (spanL ((2 : Nat) : Int)).toNat = 8 := by decide
        rw [List.length_replicate, this] at hi
        exact tellsN_has asid page 8 i hi
    have hdc : doW n u2 [wr0 asid 2 tb P2 page 0] = u2.set (tb.toNat * 8 + P2.toNat) 0 := by rw [doW_cons, hclose.step]; rfl
    rw [hdc]
    refine safe_opens [wr0 asid 2 tb P2 page (encW (blockD base wr ex))] _ _ _ (fun x hx => ?_) (by simp) hG2 fun G' _ => ?_
    · rw [List.mem_singleton.1 hx]
      refine ⟨hopen, show encW (blockD base wr ex) % 2 = 1 from encW_odd (d := blockD base wr ex) (.inr (.inl rfl)), ?_⟩
      show (u2.set (tb.toNat * 8 + P2.toNat) 0).getD (tb.toNat * 8 + P2.toNat) 0 % 2 = 0
      rw [getD_setI, if_pos ⟨rfl, by omega⟩]
      rfl
    · exact .drop rfl (.nil _ _)
  · have hword : ∀ L' T' q, 0 ≤ q → q < 4096 → Sees ws n q 4 0 root L' T' → ¬ (2 ≤ L' ∧ q / 8 = page / 8) → us.getD (T'.toNat * 8 + (placeN L' q).toNat) 0 = ws.getD (T'.toNat * 8 + (placeN L' q).toNat) 0 := by
      intro L' T' q q0 q1 hq hno
      obtain ⟨_, _, v0, v1⟩ := sees_lo _ _ _ _ _ hq
      have hTr := sees_in _ _ _ _ _ _ hr hq
      have z0 := placeN_lo L' q
      have z1 := placeN_hi L' q
      have h1 : ¬ (tb = T' ∧ P2 = placeN L' q) := by
        intro hh
        obtain ⟨rfl, e2⟩ := hh
        obtain ⟨e3, e4⟩ := sees_one _ _ _ _ _ _ _ hr hrd hq hs2
        subst e3
        refine hno ⟨by omega, (same_block q0 q1 p0 p1).1 fun m m0 m2 => ?_⟩
        by_cases hm : m = 2
        · rw [hm, ← e2, hp2]
        · exact e4 m m0 (by omega)
      have h2 : t ≠ T' := by
        intro hh
        subst hh
        obtain ⟨e3, e4⟩ := sees_one _ _ _ _ _ _ _ hr hrd hq hs3
        subst e3
        exact hno ⟨by omega, (same_block q0 q1 p0 p1).1 fun m m0 m2 => e4 m m0 (by omega)⟩
      rw [huse, getD_setI, if_neg (fun hh => h1 ⟨by omega, by omega⟩)]
      exact hu2o _ (by omega) fun i hi => by have := hbase T' hTr i hi; omega
    intro q q0 q1
    obtain ⟨x, hx⟩ := tabs_walk (page := q) 3 0 root r (by omega) (by omega) hr
    refine ⟨x, ?_⟩
    by_cases hq : q / 8 = page / 8
    · have hpl := (same_block p0 p1 q0 q1).2 hq.symm
      have hq2 := sees_follow 4 0 root 2 tb (q := q) (fun m m0 m2 => hpl m m0 (by omega)) hs2
      have hq3 := sees_follow 4 0 root 3 t (q := q) (fun m m0 m2 => hpl m m0 (by omega)) hs3
      have hPq : placeN 2 q = P2 := by rw [hp2, hpl 2 (by omega) (by omega)]
      obtain ⟨j, hj, hwk⟩ := walk_to (us := ws) _ _ _ _ _ hq3 (fun _ _ _ _ => rfl)
      obtain ⟨j', hj', hwk'⟩ := walk_to (us := us) _ _ _ _ _ hq2 (fun L' T' hlt hs' => hword L' T' q q0 q1 hs' (fun hh => by omega))
      obtain rfl : j = 1 := by omega
      obtain rfl : j' = 2 := by omega
      have hw2 : us.getD (tb.toNat * 8 + P2.toNat) 0 = encW (blockD base wr ex) := by rw [huse, getD_setI, if_pos ⟨rfl, by omega⟩]
      obtain ⟨i, hi⟩ := Int.eq_ofNat_of_zero_le (show 0 ≤ q % 8 by omega)
      have hi8 : i < 8 := by omega
      have hP3 : placeN 3 q = (i : Int) := by rw [place3]; omega
      rw [hx, walk_step (k := 0) (d := wordD ws t i) ⟨t0, t1⟩ (by rw [hP3, Int.toNat_natCast]; rfl), if_neg (by have := hkinds i hi8; omega), hP3] at hwk
      have hxe := Option.some.inj hwk
      refine ⟨foundD (blockD base wr ex) 2 tb (placeN 2 q) q, hx, ?_, fun h => absurd hq h, fun _ => ?_⟩
      · rw [hwk', walk_step (k := 1) (d := blockD base wr ex) ⟨tb0, tb1⟩ (by rw [hPq, hw2]; exact dec_enc hbok), if_neg (by show ¬ (2 : Int) = 1; omega)]
      · rw [foundD_blk rfl]
        dsimp only
        refine ⟨rfl, rfl, rfl, rfl, fun hk => ?_, fun m hm => ?_⟩
        · have hk3 : (wordD ws t i).fKind = 3 := by rw [hxe, (foundD_parts _ _ _ _ _).2.2.2] at hk; exact hk
          obtain ⟨f0, f1, _⟩ := hFill.fr i hi8 hk3
          have : x.fFrame = (wordD ws t i).fFrame := by
            rw [hxe]
            unfold foundD
            rw [if_neg (by omega), if_pos hk3]
            split <;> rfl
          rw [this]
          exact ⟨f0, f1⟩
        · have hbi := hbase tb htbr i hi8
          show us.getD ((base + q % 8).toNat * 8 + m) 0 = _
          rw [hi, huse, getD_setI, if_neg (fun hh => by omega), hfa i m hi8 hm]
          have hxk : x.fKind = (wordD ws t i).fKind := by rw [hxe, (foundD_parts _ _ _ _ _).2.2.2]
          rw [hxk]
          by_cases hk3 : (wordD ws t i).fKind = 3
          · rw [if_pos hk3, if_pos hk3]
            have : x.fFrame = (wordD ws t i).fFrame := by
              rw [hxe]
              unfold foundD
              rw [if_neg (by omega), if_pos hk3]
              split <;> rfl
            rw [this]
            obtain ⟨f0, f1, _⟩ := hFill.fr i hi8 hk3
            have hft : (wordD ws t i).fFrame ≠ t := fun e => hdis t htr _ (List.mem_append.2 (.inr (List.mem_map.2 ⟨_, hlof i hi8 hk3, rfl⟩))) e.symm
            exact hu1o _ (by omega)
          · rw [if_neg hk3, if_neg hk3]
    · refine ⟨x, hx, ?_, fun _ => rfl, fun h => absurd h hq⟩
      rw [walk_same _ _ _ (fun L' T' hs' => hword L' T' q q0 q1 hs' (fun hh => hq hh.2))]
      exact hx

end Go.Proofs.Ytapeoeakiphfpaa
