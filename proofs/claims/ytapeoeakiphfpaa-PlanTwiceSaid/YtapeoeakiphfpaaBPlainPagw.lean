import Derived.Test.YtapeoeakiphfpaaWhole
import Derived.Test.YtapeoeakiphfpaaLay
/- Plain laws on walks: what a walk finds, where two pages of one place end. -/
namespace Go.Proofs.Ytapeoeakiphfpaa
open Go.RowKit
set_option linter.unusedVariables false
set_option linter.unusedSimpArgs false

theorem decD_block (level x : Int) (h : (decD level x).fKind = 2) : level = 2 := by
  unfold decD at h
  split at h
  · rename_i hh
    simp only [okD, Bool.and_eq_true, decide_eq_true_eq] at hh
    have h2 := hh.1.2
    simp [mayD, h] at h2
    exact h2.1.1
  · simp [badD] at h
theorem decD_table (level x : Int) (h : (decD level x).fKind = 1) : (decD level x).fFrame = x / 4096 % 68719476736 := by
  unfold decD at h ⊢
  split at h
  · rename_i hh
    rw [if_pos hh]
    simp only [readD] at h ⊢
    split at h
    · simp [noneD] at h
    · split at h
      · simp [rightsD] at h
      · split at h
        · simp [rightsD] at h
        · split at h
          · rename_i h1 h2 h3 h4
            rw [if_neg h1, if_neg h2, if_neg h3, if_pos h4]
            simp [tableD]
          · simp [rightsD] at h
  · simp [badD] at h
theorem foundD_parts (d : Desc) (lv tb p page : Int) : (foundD d lv tb p page).fLevel = lv ∧ (foundD d lv tb p page).fTable = tb ∧ (foundD d lv tb p page).fPlace = p ∧ (foundD d lv tb p page).fKind = d.fKind := by
  unfold foundD
  split
  · rename_i h; simp [h]
  · split
    · rename_i h; split <;> simp [h]
    · simp
theorem foundD_block (d : Desc) (lv tb p page : Int) (h : d.fKind = 2) : foundD d lv tb p page = ⟨2, lv, tb, p, d.fFrame + page % 8, 3, page - page % 8, d.fFrame, d.fWrite, d.fExec, d.fSeen⟩ := by
  unfold foundD; rw [if_pos h]
theorem placeN_block (lv : Int) (h0 : 0 ≤ lv) (h2 : lv ≤ 2) (page other : Int) (h : page / 8 = other / 8) : placeN lv page = placeN lv other := by
  have : lv = 0 ∨ lv = 1 ∨ lv = 2 := by omega
  rcases this with rfl | rfl | rfl
  · show page / 2 ^ 9 % 8 = other / 2 ^ 9 % 8; omega
  · show page / 2 ^ 6 % 8 = other / 2 ^ 6 % 8; omega
  · show page / 2 ^ 3 % 8 = other / 2 ^ 3 % 8; omega
theorem walkAt_kind2 {ws : List Int} {n page : Int} : ∀ (k : Nat) (lv tb : Int) (x : Found), walkAt ws n page k lv tb = some x → x.fKind = 2 → lv ≤ 2 ∧ page - page % 8 = x.fFirst := by
  intro k
  induction k with
  | zero => intro lv tb x h; simp [walkAt] at h
  | succ k ih =>
    intro lv tb x h hk
    unfold walkAt at h
    split at h
    · split at h
      · have := ih _ _ _ h hk
        exact ⟨by omega, this.2⟩
      · simp only [Option.some.injEq] at h
        subst h
        rw [(foundD_parts _ _ _ _ _).2.2.2] at hk
        have := decD_block _ _ hk
        rw [foundD_block _ _ _ _ _ hk]
        exact ⟨by omega, rfl⟩
    · cases h
/-- Two pages of one block end at the same word. -/
theorem walkAt_block {ws : List Int} {n page other : Int} (hp : page / 8 = other / 8) : ∀ (k : Nat) (lv tb : Int) (x y : Found), 0 ≤ lv → walkAt ws n page k lv tb = some x → walkAt ws n other k lv tb = some y → x.fKind = 2 → y.fTable = x.fTable ∧ y.fPlace = x.fPlace ∧ y.fBase = x.fBase ∧ y.fFrame - x.fFrame = other - page := by
  intro k
  induction k with
  | zero => intro lv tb x y _ h; simp [walkAt] at h
  | succ k ih =>
    intro lv tb x y hlv h h' hk
    by_cases h2 : lv ≤ 2
    · have e := placeN_block lv hlv h2 page other hp
      unfold walkAt at h h'
      rw [← e] at h'
      split at h
      · rename_i hr
        rw [if_pos hr] at h'
        split at h
        · rename_i hd
          rw [if_pos hd] at h'
          exact ih _ _ _ _ (by omega) h h' hk
        · rename_i hd
          rw [if_neg hd] at h'
          simp only [Option.some.injEq] at h h'
          subst h h'
          rw [(foundD_parts _ _ _ _ _).2.2.2] at hk
          rw [foundD_block _ _ _ _ _ hk, foundD_block _ _ _ _ _ hk]
          exact ⟨rfl, rfl, rfl, by dsimp only; omega⟩
      · cases h
    · exfalso
      unfold walkAt at h
      split at h
      · split at h
        · have := (walkAt_kind2 _ _ _ _ h hk).1
          omega
        · simp only [Option.some.injEq] at h
          subst h
          rw [(foundD_parts _ _ _ _ _).2.2.2] at hk
          have := decD_block _ _ hk
          omega
      · cases h

theorem walkAt_small {ws : List Int} {n page : Int} (hp0 : 0 ≤ page) (hp1 : page < 4096) : ∀ (k : Nat) (lv tb : Int) (x : Found), walkAt ws n page k lv tb = some x → 0 ≤ x.fFirst ∧ x.fFirst < 4096 ∧ 0 ≤ x.fFrame ∧ x.fFrame < 520 := by
  intro k
  induction k with
  | zero => intro lv tb x h; simp [walkAt] at h
  | succ k ih =>
    intro lv tb x h
    unfold walkAt at h
    split at h
    · split at h
      · exact ih _ _ _ h
      · simp only [Option.some.injEq] at h
        subst h
        have hf := decD_frame lv (ws.getD (tb.toNat * 8 + (placeN lv page).toNat) 0)
        unfold foundD
        split
        · dsimp only; omega
        · split
          · split <;> (dsimp only; omega)
          · dsimp only; omega
    · cases h
theorem set_other (ws : List Int) (n : Nat) (d : Laid) (tb p : Int) (h0 : 0 ≤ tb) (h1 : tb < n) (h2 : 0 ≤ p) (h3 : p < 8) (h : ¬ (d.fFrame = tb ∧ d.fPlace = p)) : (layStep n ws d).getD (tb.toNat * 8 + p.toNat) 0 = ws.getD (tb.toNat * 8 + p.toNat) 0 := by
  unfold layStep
  split
  · rw [List.getD_eq_getElem?_getD, List.getD_eq_getElem?_getD, List.getElem?_set_ne (by omega)]
  · rfl

end Go.Proofs.Ytapeoeakiphfpaa

/- Plain laws on walks: the walks of all pages, one by one, and by strides. -/
namespace Go.Proofs.Ytapeoeakiphfpaa
open Go.RowKit
set_option linter.unusedVariables false
set_option linter.unusedSimpArgs false

theorem decD_page (level x : Int) (h : (decD level x).fKind = 3) : level = 3 := by
  unfold decD at h
  split at h
  · rename_i hh
    simp only [okD, Bool.and_eq_true, decide_eq_true_eq] at hh
    have h2 := hh.1.2
    simp [mayD, h] at h2
    exact h2
  · simp [badD] at h
/-- How many pages a place of a level leads to. -/
def spanL (lv : Int) : Int := 2 ^ (3 * (3 - lv)).toNat
theorem stride_span (f : Found) : f.stride = spanL f.fLevel := rfl
theorem spanL_cases {lv : Int} (h0 : 0 ≤ lv) (h1 : lv < 4) : (lv = 0 ∧ spanL lv = 512) ∨ (lv = 1 ∧ spanL lv = 64) ∨ (lv = 2 ∧ spanL lv = 8) ∨ (lv = 3 ∧ spanL lv = 1) := by
  have : lv = 0 ∨ lv = 1 ∨ lv = 2 ∨ lv = 3 := by omega
  rcases this with rfl | rfl | rfl | rfl <;> simp [spanL]
theorem placeN_same {lv fl p q : Int} (h0 : 0 ≤ lv) (h1 : lv ≤ fl) (h2 : fl < 4) (h : p / spanL fl = q / spanL fl) : placeN lv p = placeN lv q := by
  have hl : lv = 0 ∨ lv = 1 ∨ lv = 2 ∨ lv = 3 := by omega
  have hs := spanL_cases (lv := fl) (by omega) h2
  rcases hs with ⟨rfl, hs⟩ | ⟨rfl, hs⟩ | ⟨rfl, hs⟩ | ⟨rfl, hs⟩ <;> rw [hs] at h <;> rcases hl with rfl | rfl | rfl | rfl <;>
    first
      | (exfalso; omega)
      | (show p / 2 ^ 9 % 8 = q / 2 ^ 9 % 8; omega)
      | (show p / 2 ^ 6 % 8 = q / 2 ^ 6 % 8; omega)
      | (show p / 2 ^ 3 % 8 = q / 2 ^ 3 % 8; omega)
      | (show p / 2 ^ 0 % 8 = q / 2 ^ 0 % 8; omega)
/-- Where a walk ends, the walks of all pages of that place end. -/
theorem walkAt_same {ws : List Int} {n p : Int} : ∀ (k : Nat) (lv tb : Int) (f : Found), 0 ≤ lv → lv + k = 4 → walkAt ws n p k lv tb = some f →
    ∃ d t pl, (d.fKind = 3 → f.fLevel = 3) ∧ (d.fKind = 2 → f.fLevel = 2) ∧ ∀ q, p / spanL f.fLevel = q / spanL f.fLevel → walkAt ws n q k lv tb = some (foundD d f.fLevel t pl q) := by
  intro k
  induction k with
  | zero => intro lv tb f _ _ h; simp [walkAt] at h
  | succ k ih =>
    intro lv tb f h0 hk h
    have hlev := walkAt_level _ _ _ _ h
    unfold walkAt at h
    split at h
    · rename_i ht
      split at h
      · rename_i hd
        obtain ⟨d, t, pl, h1, h2, h3⟩ := ih _ _ _ (by omega) (by omega) h
        refine ⟨d, t, pl, h1, h2, fun q hq => ?_⟩
        unfold walkAt
        rw [if_pos ht, ← placeN_same h0 hlev.1 (by omega) hq, if_pos hd]
        exact h3 q hq
      · rename_i hd
        simp only [Option.some.injEq] at h
        have hfl : f.fLevel = lv := by rw [← h, (foundD_parts _ _ _ _ _).1]
        refine ⟨decD lv (ws.getD (tb.toNat * 8 + (placeN lv p).toNat) 0), tb, placeN lv p, fun hk3 => ?_, fun hk2 => ?_, fun q hq => ?_⟩
        · rw [hfl]; exact decD_page _ _ hk3
        · rw [hfl]; exact decD_block _ _ hk2
        · have e := placeN_same h0 hlev.1 (by omega) hq
          unfold walkAt
          rw [if_pos ht, ← e, if_neg hd, hfl]
    · cases h

/-- All pages' walks, page by page; those told that are the first of their block, or no block's. -/
def pagesW (ws : List Int) (n root : Int) : Nat → Int → Option (List Found)
  | 0, _ => none
  | k + 1, p => if p < 4096 then (match walkAt ws n p 4 0 root with
      | none => none
      | some f => (pagesW ws n root k (p + 1)).map fun l => if f.fKind = 3 ∨ (f.fKind = 2 ∧ f.fFirst = p) then f :: l else l)
    else some []
theorem pagesW_skip {ws : List Int} {n root : Int} : ∀ (i j : Nat) (p : Int), p + i ≤ 4096 → (∀ t : Nat, t < i → ∃ g, walkAt ws n (p + t) 4 0 root = some g ∧ ¬ (g.fKind = 3 ∨ (g.fKind = 2 ∧ g.fFirst = p + t))) → pagesW ws n root (j + i) p = pagesW ws n root j (p + i) := by
  intro i
  induction i with
  | zero => intro j p _ _; simp
  | succ i ih =>
    intro j p hp h
    obtain ⟨g, hg, hn⟩ := h 0 (by omega)
    rw [show p + ((0 : Nat) : Int) = p by simp] at hg hn
    rw [← Nat.add_assoc]
    conv => lhs; unfold pagesW
    rw [if_pos (by omega), hg]
    dsimp only
    rw [ih j (p + 1) (by omega) (fun t ht => by
      obtain ⟨g', h1, h2⟩ := h (t + 1) (by omega)
      have e : p + ((t + 1 : Nat) : Int) = p + 1 + t := by push_cast; omega
      rw [e] at h1 h2
      exact ⟨g', h1, h2⟩)]
    have e : p + 1 + (i : Int) = p + ((i + 1 : Nat) : Int) := by push_cast; omega
    rw [e]
    simp only [if_neg hn]
    cases pagesW ws n root j (p + ((i + 1 : Nat) : Int)) <;> rfl

theorem whole_from {ws : List Int} {n root : Int} : ∀ (m : Nat) (p : Int) (k j : Nat), 0 ≤ p → p ≤ 4096 → 4096 - p = m → m < k → m < j → (∀ f, walkAt ws n p 4 0 root = some f → p % f.stride = 0) → wholeAt ws n root k p = pagesW ws n root j p := by
  intro m
  induction m using Nat.strongRecOn with
  | ind m ih =>
    intro p k j p0 p1 hm hk hj hal
    obtain ⟨k, rfl⟩ : ∃ q, k = q + 1 := ⟨k - 1, by omega⟩
    obtain ⟨j, rfl⟩ : ∃ q, j = q + 1 := ⟨j - 1, by omega⟩
    conv => lhs; unfold wholeAt
    by_cases hp : p < 4096
    · rw [if_pos hp]
      cases hw : walkAt ws n p 4 0 root with
      | none =>
        unfold pagesW
        rw [if_pos hp, hw]
      | some f =>
        have hlev := walkAt_level _ _ _ _ hw
        have ha := hal f hw
        have hs := spanL_cases hlev.1 (by omega)
        rw [stride_span] at ha
        obtain ⟨d, t, pl, hd3, hd2, hsame⟩ := walkAt_same 4 0 root f (by omega) (by omega) hw
        have hself := hsame p rfl
        rw [hw, Option.some.injEq] at hself
        have hkind : f.fKind = d.fKind := by rw [hself, (foundD_parts _ _ _ _ _).2.2.2]
        have hfirst : f.fKind = 2 → f.fFirst = p := by
          intro h
          rw [hkind] at h
          have h2 := hd2 h
          rw [hself, foundD_block _ _ _ _ _ h]
          rcases hs with ⟨h3, hs⟩ | ⟨h3, hs⟩ | ⟨h3, hs⟩ | ⟨h3, hs⟩ <;> first | (exfalso; omega) | (rw [hs] at ha; dsimp only; omega)
        obtain ⟨s, hsS⟩ : ∃ s : Nat, f.stride = s := ⟨f.stride.toNat, by rw [stride_span]; omega⟩
        have hsp : spanL f.fLevel = s := hsS
        have hps : p + s ≤ 4096 := by rcases hs with ⟨h3, hs⟩ | ⟨h3, hs⟩ | ⟨h3, hs⟩ | ⟨h3, hs⟩ <;> rw [hs] at ha hsp <;> omega
        have hs1 : 1 ≤ s := by omega
        have hj : pagesW ws n root (j + 1) p = (pagesW ws n root (j + 1 - s) (p + s)).map fun l => if f.leaf then f :: l else l := by
          conv => lhs; unfold pagesW
          rw [if_pos hp, hw]
          dsimp only
          have hsk := pagesW_skip (ws := ws) (n := n) (root := root) (s - 1) (j + 1 - s) (p + 1) (by omega) (fun i hi => by
            refine ⟨_, hsame (p + 1 + i) ?_, ?_⟩
            · rcases hs with ⟨h3, hs⟩ | ⟨h3, hs⟩ | ⟨h3, hs⟩ | ⟨h3, hs⟩ <;> rw [hs] at ha hsp ⊢ <;> omega
            · rw [(foundD_parts _ _ _ _ _).2.2.2]
              rintro (h | ⟨h, h'⟩)
              · have := hd3 h
                rcases hs with ⟨h3, hs⟩ | ⟨h3, hs⟩ | ⟨h3, hs⟩ | ⟨h3, hs⟩ <;> omega
              · have := hd2 h
                rw [foundD_block _ _ _ _ _ h] at h'
                dsimp only at h'
                rcases hs with ⟨h3, hs⟩ | ⟨h3, hs⟩ | ⟨h3, hs⟩ | ⟨h3, hs⟩ <;> first | omega | (rw [hs] at ha hsp; omega))
          rw [show j + 1 - s + (s - 1) = j by omega, show p + 1 + ((s - 1 : Nat) : Int) = p + s by omega] at hsk
          rw [hsk]
          congr 1
          funext l
          by_cases h3 : f.fKind = 3
          · rw [if_pos (.inl h3), if_pos (by simp [Found.leaf, h3])]
          · by_cases h2 : f.fKind = 2
            · rw [if_pos (.inr ⟨h2, hfirst h2⟩), if_pos (by simp [Found.leaf, h2])]
            · rw [if_neg (by simp [h2, h3]), if_neg (by simp [Found.leaf, h2, h3])]
        rw [hj]
        dsimp only
        rw [hsS, ih (m - s) (by omega) (p + s) k (j + 1 - s) (by omega) hps (by omega) (by omega) (by omega) ?_]
        intro g hg
        have hlg := walkAt_level _ _ _ _ hg
        have hsg := spanL_cases hlg.1 (by omega)
        rw [stride_span]
        obtain ⟨d', t', pl', _, _, hsame'⟩ := walkAt_same 4 0 root g (by omega) (by omega) hg
        by_cases hz : (p + s) % spanL g.fLevel = 0
        · exact hz
        · exfalso
          have h1 := hsame (p + s - 1) (by rcases hs with ⟨h3, hs⟩ | ⟨h3, hs⟩ | ⟨h3, hs⟩ | ⟨h3, hs⟩ <;> rw [hs] at ha hsp ⊢ <;> omega)
          have h2 := hsame' (p + s - 1) (by rcases hsg with ⟨h4, hg4⟩ | ⟨h4, hg4⟩ | ⟨h4, hg4⟩ | ⟨h4, hg4⟩ <;> rw [hg4] at hz ⊢ <;> omega)
          rw [h1, Option.some.injEq] at h2
          have h3 : f.fLevel = g.fLevel := by
            have := congrArg Found.fLevel h2
            rwa [(foundD_parts _ _ _ _ _).1, (foundD_parts _ _ _ _ _).1] at this
          rw [← h3, hsp] at hz
          rw [hsp] at ha
          apply hz
          rw [Int.add_emod_right]
          exact ha
    · rw [if_neg hp]
      unfold pagesW
      rw [if_neg hp]
theorem whole_pages (ws : List Int) (n root : Int) : wholeAt ws n root 4097 0 = pagesW ws n root 4097 0 :=
  whole_from 4096 0 4097 4097 (by omega) (by omega) (by omega) (by omega) (by omega) (fun f _ => by simp)

end Go.Proofs.Ytapeoeakiphfpaa
