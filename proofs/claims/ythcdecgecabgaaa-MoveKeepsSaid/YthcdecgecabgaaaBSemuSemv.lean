import Derived.Test.YthcdecgecabgaaaBSemSemt
import Derived.Test.YthcdecgecabgaaaPath
import Derived.Test.YthcdecgecabgaaaPrune
/- Plain laws: what is found behind the steps of Path. -/
namespace Go.Proofs.Ythcdecgecabgaaa
open Go.RowKit
set_option linter.unusedVariables false
set_option linter.unusedSimpArgs false

section
variable {ws us : List Int} {n page q : Int}
theorem sees_mono : ∀ (k : Nat) (lv tb L T : Int), Sees ws n page k lv tb L T → ∀ j, Sees ws n page (k + j) lv tb L T := by
  intro k
  induction k with
  | zero => intro lv tb L T h; cases h
  | succ k ih =>
    intro lv tb L T h j
    rw [show k + 1 + j = k + j + 1 by omega]
    obtain ⟨ht, h | ⟨hk, h⟩⟩ := sees_succ.1 h
    · exact sees_succ.2 ⟨ht, .inl h⟩
    · exact sees_succ.2 ⟨ht, .inr ⟨hk, ih _ _ _ _ h j⟩⟩
/-- A way's slots are what the walk comes by. -/
theorem way_sees : ∀ (k : Nat) (lv tb : Int) (s : List (Int × Int)) (d : Desc), 0 ≤ tb → tb < n → wayAt ws n page k lv tb = some (s, d) → ∀ (i : Nat) (z : Int × Int), s[i]? = some z → Sees ws n page k lv tb (lv + i) z.1 ∧ z.2 = placeN (lv + i) page ∧ (i + 1 = s.length → decD (lv + i) (ws.getD (z.1.toNat * 8 + z.2.toNat) 0) = d) := by
  intro k
  induction k with
  | zero => intro lv tb s d _ _ h; simp [wayAt] at h
  | succ k ih =>
    intro lv tb s d t0 t1 h i z hz
    rw [wayAt_in rfl rfl rfl] at h
    split at h
    · simp only [Option.some.injEq, Prod.mk.injEq] at h
      obtain ⟨rfl, rfl⟩ := h
      cases i with
      | zero =>
        simp at hz
        subst hz
        exact ⟨sees_succ.2 ⟨⟨t0, t1⟩, .inl ⟨by simp, rfl⟩⟩, by simp, fun _ => by simp⟩
      | succ i => simp at hz
    · rename_i hc
      split at h
      · rename_i ht
        rw [Option.map_eq_some_iff] at h
        obtain ⟨⟨s', d'⟩, h1, h2⟩ := h
        simp only [Prod.mk.injEq] at h2
        obtain ⟨rfl, rfl⟩ := h2
        cases i with
        | zero =>
          simp at hz
          subst hz
          have hl := wayAt_len _ _ _ _ _ h1
          exact ⟨sees_succ.2 ⟨⟨t0, t1⟩, .inl ⟨by simp, rfl⟩⟩, by simp, fun e => by simp at e; rw [e] at hl; simp at hl⟩
        | succ i =>
          obtain ⟨h3, h4, h5⟩ := ih _ _ _ _ ht.1 ht.2 h1 i z (by simpa using hz)
          have e : lv + 1 + (i : Int) = lv + ((i + 1 : Nat) : Int) := by omega
          rw [e] at h3 h4 h5
          refine ⟨sees_succ.2 ⟨⟨t0, t1⟩, .inr ⟨?_, h3⟩⟩, h4, fun hl => h5 (by simpa using hl)⟩
          exact Classical.byContradiction fun hk => hc (.inr hk)
      · cases h
/-- A way goes on from its last slot, as long as the words before it are as they were. -/
theorem way_go : ∀ (k : Nat) (lv tb : Int) (s : List (Int × Int)) (d : Desc), wayAt ws n page k lv tb = some (s, d) → (∀ (i : Nat) (z : Int × Int), i + 1 < s.length → s[i]? = some z → us.getD (z.1.toNat * 8 + z.2.toNat) 0 = ws.getD (z.1.toNat * 8 + z.2.toNat) 0) →
    ∀ e : Nat, wayAt us n page (k + e) lv tb = (wayAt us n page (k + e - (s.length - 1)) (lv + ((s.length - 1 : Nat) : Int)) (s.getD (s.length - 1) (0, 0)).1).map fun r => (s.take (s.length - 1) ++ r.1, r.2) := by
  intro k
  induction k with
  | zero => intro lv tb s d h; simp [wayAt] at h
  | succ k ih =>
    intro lv tb s d h hs e
    rw [wayAt_in rfl rfl rfl] at h
    split at h
    · simp only [Option.some.injEq, Prod.mk.injEq] at h
      obtain ⟨rfl, rfl⟩ := h
      simp
    · rename_i hc
      split at h
      · rename_i ht
        rw [Option.map_eq_some_iff] at h
        obtain ⟨⟨s', d'⟩, h1, h2⟩ := h
        simp only [Prod.mk.injEq] at h2
        obtain ⟨rfl, rfl⟩ := h2
        have hl := wayAt_len _ _ _ _ _ h1
        have hw := hs 0 (tb, placeN lv page) (by simp; omega) rfl
        dsimp only at hw
        have hi := ih _ _ _ _ h1 (fun i z hi hz => hs (i + 1) z (by simp; omega) (by simpa using hz)) e
        rw [show k + 1 + e = k + e + 1 by omega]
        conv => lhs; rw [wayAt_in rfl rfl rfl]
        rw [hw]
        have hc1 : ¬ (k = 0 ∨ (decD lv (ws.getD (tb.toNat * 8 + (placeN lv page).toNat) 0)).fKind ≠ 1) := hc
        rw [if_neg (by intro h; rcases h with h | h; exact hc1 (.inl (by omega)); exact hc1 (.inr h)), if_pos ht, hi]
        obtain ⟨m, hm⟩ : ∃ m, s'.length = m + 1 := ⟨s'.length - 1, by omega⟩
        simp only [List.length_cons, hm, Nat.add_sub_cancel]
        rw [Option.map_map]
        have e1 : k + e + 1 - (m + 1) = k + e - m := by omega
        have e2 : lv + ((m + 1 : Nat) : Int) = lv + 1 + (m : Int) := by omega
        rw [e1, e2]
        have e3 : ((tb, placeN lv page) :: s').getD (m + 1) (0, 0) = s'.getD m (0, 0) := by simp
        rw [e3]
        congr 1
      · cases h
end
/-- The slots of fresh tables. -/
def chainS (page : Int) : Int → List Int → List (Int × Int)
  | _, [] => []
  | l, f :: fs => (f, placeN l page) :: chainS page (l + 1) fs
theorem chainS_len (page : Int) : ∀ (fs : List Int) (l : Int), (chainS page l fs).length = fs.length := by
  intro fs
  induction fs with
  | nil => intro l; rfl
  | cons f fs ih => intro l; simp [chainS, ih]
theorem chainS_at (page : Int) : ∀ (fs : List Int) (l : Int) (i : Nat) (f : Int), fs[i]? = some f → (chainS page l fs)[i]? = some (f, placeN (l + i) page) := by
  intro fs
  induction fs with
  | nil => intro l i f h; simp at h
  | cons g fs ih =>
    intro l i f h
    cases i with
    | zero => simp at h; simp [chainS, h]
    | succ i =>
      have := ih (l + 1) i f (by simpa using h)
      simp only [chainS, List.getElem?_cons_succ]
      rw [this]
      congr 3
      omega
/-- The way down through fresh tables. -/
theorem chain_way {us : List Int} {n : Nat} {page : Int} (hn : n ≤ 512) : ∀ (fs : List Int) (f : Int) (l : Int) (j : Nat), 0 ≤ l → l + j ≤ 4 → (f :: fs).length ≤ j → (∀ g ∈ f :: fs, 0 ≤ g ∧ g < n) → ChainW us page l (f :: fs) → wayAt us n page j l f = some (chainS page l (f :: fs), noneD) := by
  intro fs
  induction fs with
  | nil =>
    intro f l j l0 hj hlen hin hc
    obtain ⟨j, rfl⟩ : ∃ k, j = k + 1 := ⟨j - 1, by simp at hlen; omega⟩
    have hw := hc.1 (placeN l page).toNat (placeN_nat l page)
    rw [if_pos rfl] at hw
    change _ = (0 : Int) at hw
    rw [wayAt_in (d := noneD) rfl rfl (by rw [hw]; exact dec_nil l l0 (by omega)), if_pos (.inr (by decide))]
    rfl
  | cons g gs ih =>
    intro f l j l0 hj hlen hin hc
    obtain ⟨g0, g1⟩ := hin g (.tail _ (.head _))
    simp only [List.length_cons] at hlen
    obtain ⟨j, rfl⟩ : ∃ k, j = k + 1 := ⟨j - 1, by omega⟩
    have hw := hc.1 (placeN l page).toNat (placeN_nat l page)
    rw [if_pos rfl] at hw
    change _ = g * 4096 + 3 at hw
    rw [wayAt_in (d := tableD g) rfl rfl (by rw [hw]; exact dec_tab l0 (by omega) g0 (by omega)), if_neg (by intro h; rcases h with h | h; omega; exact h rfl), if_pos (show 0 ≤ (tableD g).fFrame ∧ (tableD g).fFrame < n from ⟨g0, g1⟩)]
    rw [show (tableD g).fFrame = g from rfl, ih g (l + 1) j (by omega) (by omega) (by simp; omega) (fun x hx => hin x (.tail _ hx)) hc.2]
    rfl

/-- What is behind the steps of Path. -/
structure Behind (ws us : List Int) (n : Nat) (root page : Int) (s : List (Int × Int)) (fs : List Int) : Prop where
  chain : ChainW us page (s.length : Int) fs
  way : ∀ e : Nat, s.length + fs.length + e ≤ 4 → fs ≠ [] → wayAt us n page (s.length + fs.length + e) 0 root = some (s ++ chainS page (s.length : Int) fs, noneD)
  walks : ∀ q x, walkAt ws n q 4 0 root = some x → ∃ y, walkAt us n q 4 0 root = some y ∧ y.fKind = x.fKind ∧ (x.fKind ≠ 0 → y = x)
theorem path_behind {ws : List Int} {n : Nat} {root asid page : Int} {L : Nat} {r : List Int} {s : List (Int × Int)} {d : Desc} {fs : List Int} (hn : n ≤ 512) (hw : ws.length = n * 8) (r0 : 0 ≤ root) (r1 : root < n) (hL : L < 4) (hr : tabsAt ws n 4 0 root = some r) (hnd : (r ++ fs).Nodup)
    (hs : wayAt ws n page (L + 1) 0 root = some (s, d)) (hd : fs ≠ [] → d.fKind = 0) (hlen : s.length + fs.length = L + 1) (hin : ∀ f ∈ fs, 0 ≤ f ∧ f < n) :
    Behind ws (doW n ws (pathS asid page (s.length - 1) (lastS s).1 (lastS s).2 fs).1) n root page s fs := by
  obtain ⟨hs0, hs1⟩ := wayAt_len _ _ _ _ _ hs
  obtain ⟨m, hm⟩ : ∃ m, s.length = m + 1 := ⟨s.length - 1, by omega⟩
  obtain ⟨hrd, hfd, hrf⟩ := List.nodup_append.1 hnd
  have hz : s[m]? = some (lastS s) := by unfold lastS; rw [hm, List.getD_eq_getElem?_getD, Nat.add_sub_cancel, List.getElem?_eq_getElem (by omega)]; rfl
  obtain ⟨hsee, hpl, hdec⟩ := way_sees _ _ _ _ _ r0 r1 hs m _ hz
  have hdec := hdec hm.symm
  have hsee4 : Sees ws n page 4 0 root (m : Int) (lastS s).1 := by
    have := sees_mono _ _ _ _ _ hsee (4 - (L + 1))
    rw [show L + 1 + (4 - (L + 1)) = 4 by omega] at this
    simpa using this
  have hin4 := sees_in _ _ _ _ _ _ hr hsee4
  obtain ⟨_, _, T0, T1⟩ := sees_lo _ _ _ _ _ hsee4
  have hapart : ∀ T, T ∈ r → T ∉ fs := fun T h1 h2 => hrf T h1 T h2 rfl
  have hp0 := placeN_lo (0 + (m : Int)) page
  have hp1 := placeN_hi (0 + (m : Int)) page
  rw [← hpl] at hp0 hp1
  obtain ⟨h1, h2, h3⟩ := path_done (n := n) (asid := asid) (page := page) fs (s.length - 1) (lastS s).1 (lastS s).2 ws hw hin hfd (hapart _ hin4) T0 T1 hp0 hp1
  simp only [Int.zero_add] at hpl hdec
  generalize hus : doW n ws (pathS asid page (s.length - 1) (lastS s).1 (lastS s).2 fs).1 = us at *
  generalize lastS s = z at *
  obtain ⟨T, P⟩ := z
  dsimp only at *
  have hlev : ((s.length - 1 : Nat) : Int) + 1 = (s.length : Int) := by omega
  rw [hlev] at h3
  have hml : (s.length : Int) = (m : Int) + 1 := by omega
  have hword : ∀ q L' T', Sees ws n q 4 0 root L' T' → ¬ (L' = (m : Int) ∧ T' = T ∧ placeN L' q = P) → us.getD (T'.toNat * 8 + (placeN L' q).toNat) 0 = ws.getD (T'.toNat * 8 + (placeN L' q).toNat) 0 := by
    intro q L' T' hs' hne
    have hT' := sees_in _ _ _ _ _ _ hr hs'
    obtain ⟨_, _, t0, t1⟩ := sees_lo _ _ _ _ _ hs'
    refine h1 T'.toNat (placeN L' q).toNat (placeN_nat _ _) (by omega) (by rw [Int.toNat_of_nonneg t0]; exact hapart _ hT') ?_
    rintro ⟨e1, e2⟩
    rw [Int.toNat_of_nonneg t0] at e1
    rw [Int.toNat_of_nonneg (placeN_lo _ _)] at e2
    subst e1
    exact hne ⟨(sees_one _ _ _ _ _ _ _ hr hrd hs' hsee4).1, rfl, e2⟩
  refine ⟨h3, fun e he hne => ?_, fun q x hx => ?_⟩
  · cases fs with
    | nil => exact absurd rfl hne
    | cons f gs =>
      obtain ⟨f0, f1⟩ := hin f (.head _)
      simp only [List.length_cons] at he hlen
      have hg := way_go (us := us) _ _ _ _ _ hs (fun i z hi hzz => by
        obtain ⟨a1, a2, _⟩ := way_sees _ _ _ _ _ r0 r1 hs i z hzz
        have a1' := sees_mono _ _ _ _ _ a1 (4 - (L + 1))
        rw [show L + 1 + (4 - (L + 1)) = 4 by omega] at a1'
        have := hword page _ _ a1' (fun hh => by omega)
        rwa [← a2] at this) e
      have hll : s.length + (gs.length + 1) + e = L + 1 + e := by omega
      simp only [List.length_cons]
      rw [hll, hg]
      have e1 : (s.getD (s.length - 1) (0, 0)).1 = T := by rw [hm, Nat.add_sub_cancel, List.getD_eq_getElem?_getD, hz]; rfl
      rw [e1, hm, Nat.add_sub_cancel]
      obtain ⟨j, hj⟩ : ∃ j, L + 1 + e - m = j + 1 := ⟨L + e - m, by omega⟩
      rw [hj, wayAt_in (d := tableD f) rfl rfl (by rw [Int.zero_add, ← hpl, h2]; exact dec_tab (by omega) (by omega) f0 (by omega)), if_neg (by intro h; rcases h with h | h; omega; exact h rfl), if_pos (show 0 ≤ (tableD f).fFrame ∧ (tableD f).fFrame < n from ⟨f0, f1⟩)]
      rw [show (tableD f).fFrame = f from rfl]
      rw [hml] at h3
      rw [Int.zero_add, chain_way hn gs f ((m : Int) + 1) j (by omega) (by omega) (by simp; omega) hin h3]
      simp only [Option.map_some, Int.zero_add]
      have e4 : ((m + 1 : Nat) : Int) = (m : Int) + 1 := by omega
      rw [e4, ← hpl]
      have e5 : s = s.take m ++ [(T, P)] := by
        have := List.take_append_getElem (l := s) (i := m) (by omega)
        have hzz : s[m]'(by omega) = (T, P) := by rw [List.getElem?_eq_getElem (by omega)] at hz; exact Option.some.inj hz
        rw [hzz] at this
        rw [this, List.take_of_length_le (by omega)]
      conv => rhs; rw [e5]
      simp
  · by_cases hq : Sees ws n q 4 0 root (m : Int) T ∧ placeN (m : Int) q = P ∧ fs ≠ []
    · obtain ⟨hq1, hq2, hq3⟩ := hq
      obtain ⟨j, hj, hwk⟩ := walk_to (us := ws) _ _ _ _ _ hq1 (fun _ _ _ _ => rfl)
      obtain ⟨j', hj', hwk'⟩ := walk_to (us := us) _ _ _ _ _ hq1 (fun L' T' hlt hs' => hword q L' T' hs' (fun h => by omega))
      obtain rfl : j' = j := by omega
      obtain ⟨i, rfl⟩ : ∃ i, j' = i + 1 := ⟨j' - 1, by omega⟩
      have hd0 := hd hq3
      rw [hwk, walk_step (d := d) ⟨T0, T1⟩ (by rw [hq2]; exact hdec), if_neg (by omega)] at hx
      have hxk : x.fKind = 0 := by rw [← Option.some.inj hx, (foundD_parts _ _ _ _ _).2.2.2]; exact hd0
      cases fs with
      | nil => exact absurd rfl hq3
      | cons f gs =>
        obtain ⟨f0, f1⟩ := hin f (.head _)
        simp only [List.length_cons] at hlen
        rw [hml] at h3
        obtain ⟨y, hy, hyk⟩ := chain_walk (q := q) hn gs f ((m : Int) + 1) i (by omega) (by omega) (by simp; omega) hin h3
        refine ⟨y, ?_, by rw [hyk, hxk], fun h => absurd hxk h⟩
        rw [hwk', walk_step (d := tableD f) ⟨T0, T1⟩ (by rw [hq2, h2]; exact dec_tab (by omega) (by omega) f0 (by omega)), if_pos (show (tableD f).fKind = 1 from rfl)]
        exact hy
    · refine ⟨x, ?_, rfl, fun _ => rfl⟩
      rw [walk_same _ _ _ (fun L' T' hs' => ?_)]
      · exact hx
      · by_cases hc : L' = (m : Int) ∧ T' = T ∧ placeN L' q = P
        · obtain ⟨rfl, rfl, hc⟩ := hc
          have hfs : fs = [] := Classical.byContradiction fun h => hq ⟨hs', hc, h⟩
          subst hfs
          rw [hc, h2]
        · exact hword q L' T' hs' hc

end Go.Proofs.Ythcdecgecabgaaa

/- Plain laws: what is found behind the steps of Prune; Prune behind Path. -/
namespace Go.Proofs.Ythcdecgecabgaaa
open Go.RowKit
set_option linter.unusedVariables false
set_option linter.unusedSimpArgs false

section
variable {ws us : List Int} {n page p q : Int}
theorem sees_follow : ∀ (k : Nat) (lv tb L T : Int), (∀ m, lv ≤ m → m < L → placeN m p = placeN m q) → Sees ws n p k lv tb L T → Sees ws n q k lv tb L T := by
  intro k
  induction k with
  | zero => intro lv tb L T _ h; cases h
  | succ k ih =>
    intro lv tb L T hm h
    obtain ⟨ht, h | ⟨hk, h⟩⟩ := sees_succ.1 h
    · exact sees_succ.2 ⟨ht, .inl h⟩
    · have hl := sees_lo _ _ _ _ _ h
      have e := hm lv (by omega) (by omega)
      unfold sayD at hk h
      rw [e] at hk h
      exact sees_succ.2 ⟨ht, .inr ⟨hk, ih _ _ _ _ (fun m a b => hm m (by omega) b) h⟩⟩
/-- Each slot of a way but the last leads to the next. -/
theorem way_next : ∀ (k : Nat) (lv tb : Int) (s : List (Int × Int)) (d : Desc), wayAt ws n page k lv tb = some (s, d) → ∀ (i : Nat) (z u : Int × Int), s[i]? = some z → s[i + 1]? = some u → (decD (lv + i) (ws.getD (z.1.toNat * 8 + z.2.toNat) 0)).fKind = 1 ∧ (decD (lv + i) (ws.getD (z.1.toNat * 8 + z.2.toNat) 0)).fFrame = u.1 := by
  intro k
  induction k with
  | zero => intro lv tb s d h; simp [wayAt] at h
  | succ k ih =>
    intro lv tb s d h i z u hz hu
    rw [wayAt_in rfl rfl rfl] at h
    split at h
    · simp only [Option.some.injEq, Prod.mk.injEq] at h
      rw [← h.1] at hu
      simp at hu
    · rename_i hc
      split at h
      · rw [Option.map_eq_some_iff] at h
        obtain ⟨⟨s', d'⟩, h1, h2⟩ := h
        simp only [Prod.mk.injEq] at h2
        obtain ⟨rfl, rfl⟩ := h2
        cases i with
        | zero =>
          simp at hz hu
          subst hz
          have hk : (decD lv (ws.getD (tb.toNat * 8 + (placeN lv page).toNat) 0)).fKind = 1 := Classical.byContradiction fun hk => hc (.inr hk)
          refine ⟨by simpa using hk, ?_⟩
          cases k with
          | zero => simp [wayAt] at h1
          | succ k =>
            rw [wayAt_in rfl rfl rfl] at h1
            have hs : s'[0]?.map (·.1) = some (decD lv (ws.getD (tb.toNat * 8 + (placeN lv page).toNat) 0)).fFrame := by
              split at h1
              · simp only [Option.some.injEq, Prod.mk.injEq] at h1
                rw [← h1.1]; rfl
              · split at h1
                · rw [Option.map_eq_some_iff] at h1
                  obtain ⟨⟨s2, d2⟩, _, h4⟩ := h1
                  simp only [Prod.mk.injEq] at h4
                  rw [← h4.1]; rfl
                · cases h1
            rw [hu] at hs
            simp at hs
            simpa using hs.symm
        | succ i =>
          have := ih _ _ _ _ h1 i z u (by simpa using hz) (by simpa using hu)
          rw [show lv + ((i + 1 : Nat) : Int) = lv + 1 + (i : Int) by omega]
          exact this
      · cases h
end
/-- Where Prune stops. -/
def stopP (ws : List Int) (way : List (Int × Int)) : Nat → Int → Nat
  | 0, _ => 0
  | l + 1, but => if bareB ws (way.getD (l + 1) (0, 0)).1 but then stopP ws way l (way.getD l (0, 0)).2 else l + 1
theorem stopP_le (ws : List Int) (way : List (Int × Int)) : ∀ (l : Nat) (but : Int), stopP ws way l but ≤ l := by
  intro l
  induction l with
  | zero => intro but; exact Nat.le_refl _
  | succ l ih => intro but; unfold stopP; split; have := ih (way.getD l (0, 0)).2; omega; omega
theorem stopP_bare (ws : List Int) (way : List (Int × Int)) : ∀ (l : Nat) (but : Int) (j : Nat), stopP ws way l but < j → j ≤ l → bareB ws (way.getD j (0, 0)).1 (if j = l then but else (way.getD j (0, 0)).2) = true := by
  intro l
  induction l with
  | zero => intro but j h1 h2; omega
  | succ l ih =>
    intro but j h1 h2
    unfold stopP at h1
    split at h1
    · rename_i hb
      by_cases e : j = l + 1
      · rw [if_pos e, e]; exact hb
      · rw [if_neg e]
        have := ih (way.getD l (0, 0)).2 j h1 (by omega)
        by_cases e2 : j = l
        · rw [if_pos e2] at this; rw [e2] at this ⊢; exact this
        · rw [if_neg e2] at this; exact this
    · omega
open Classical in
/-- What Prune's steps come to. -/
theorem prune_done {n : Nat} {ws : List Int} {asid page : Int} {way : List (Int × Int)} : ∀ (l : Nat) (but : Int) (vs : List Int), vs.length = n * 8 → l < way.length → (∀ z ∈ way, 0 ≤ z.1 ∧ z.1 < n ∧ 0 ≤ z.2 ∧ z.2 < 8) →
    ∀ t i : Nat, i < 8 → t < n → (doW n vs (pruneS ws asid page way l but).1).getD (t * 8 + i) 0 = if ∃ j, stopP ws way l but ≤ j ∧ j < l ∧ way.getD j (0, 0) = ((t : Int), (i : Int)) then 0 else vs.getD (t * 8 + i) 0 := by
  intro l
  induction l with
  | zero =>
    intro but vs _ _ _ t i _ _
    rw [if_neg (by rintro ⟨j, _, h, _⟩; omega)]
    rfl
  | succ l ih =>
    intro but vs hv hl hin t i hi ht
    cases hb : bareB ws (way.getD (l + 1) (0, 0)).1 but with
    | false =>
      rw [pruneS_stop rfl hb, if_neg]
      · rfl
      · rintro ⟨j, h1, h2, _⟩
        unfold stopP at h1
        rw [if_neg (by rw [hb]; simp)] at h1
        omega
    | true =>
      rw [pruneS_go rfl rfl hb]
      have hmem : way.getD l (0, 0) ∈ way := by rw [List.getD_eq_getElem?_getD, List.getElem?_eq_getElem (by omega)]; exact List.getElem_mem (by omega)
      obtain ⟨a0, a1, b0, b1⟩ := hin _ hmem
      have hst : stopP ws way (l + 1) but = stopP ws way l (way.getD l (0, 0)).2 := by conv => lhs; unfold stopP; rw [if_pos hb]
      show (doW n vs (_ :: _ :: _ :: _)).getD _ _ = _
      rw [doW_cons, doW_cons, doW_cons, stepW_write (s := ⟨1, asid, l, (way.getD l (0, 0)).1, (way.getD l (0, 0)).2, firstP page l, 0, 0, 0, 0⟩) rfl ⟨a0, a1, b0, b1⟩]
      have e3 : ∀ xs, stepW n xs ⟨3, asid, 0, 0, 0, 0, 0, 0, 0, 0⟩ = xs := fun xs => rfl
      have e6 : ∀ xs t, stepW n xs ⟨6, 0, 0, t, 0, 0, 0, 0, 0, 0⟩ = xs := fun xs t => rfl
      rw [e3, e6, ih _ _ (by rw [List.length_set, hv]) (by omega) hin t i hi ht, hst]
      have hsl := stopP_le ws way l (way.getD l (0, 0)).2
      generalize stopP ws way l (way.getD l (0, 0)).2 = st at *
      by_cases hc : ∃ j, st ≤ j ∧ j < l ∧ way.getD j (0, 0) = ((t : Int), (i : Int))
      · rw [if_pos hc, if_pos]
        obtain ⟨j, h1, h2, h3⟩ := hc
        exact ⟨j, h1, by omega, h3⟩
      · rw [if_neg hc, getD_setI]
        by_cases he : way.getD l (0, 0) = ((t : Int), (i : Int))
        · rw [if_pos (⟨l, hsl, by omega, he⟩ : ∃ j, st ≤ j ∧ j < l + 1 ∧ way.getD j (0, 0) = ((t : Int), (i : Int)))]
          have e1 : (way.getD l (0, 0)).1 = t := by rw [he]
          have e2 : (way.getD l (0, 0)).2 = i := by rw [he]
          dsimp only
          rw [if_pos ⟨by rw [e1, e2]; rfl, by omega⟩]
        · rw [if_neg, if_neg]
          · rintro ⟨j, h1, h2, h3⟩
            by_cases e : j = l
            · subst e; exact he h3
            · exact hc ⟨j, h1, by omega, h3⟩
          · dsimp only
            rintro ⟨e, _⟩
            apply he
            have e1 : (way.getD l (0, 0)).1 = (t : Int) := by omega
            have e2 : (way.getD l (0, 0)).2 = (i : Int) := by omega
            exact Prod.ext e1 e2
theorem bare_word {ws : List Int} {t but : Int} (h : bareB ws t but = true) {i : Nat} (hi : i < 8) (hb : (i : Int) ≠ but) : ws.getD (t.toNat * 8 + i) 0 = 0 := by
  have := List.all_eq_true.1 h i (by simpa using hi)
  simp only [Bool.or_eq_true, decide_eq_true_eq] at this
  exact this.resolve_left hb
/-- What is found behind Prune. -/
theorem prune_behind {ws : List Int} {n : Nat} {root asid page : Int} {r : List Int} {s : List (Int × Int)} {d : Desc} (hn : n ≤ 512) (hw : ws.length = n * 8) (r0 : 0 ≤ root) (r1 : root < n) (hr : tabsAt ws n 4 0 root = some r) (hnd : r.Nodup)
    (hs : wayAt ws n page 4 0 root = some (s, d)) (q : Int) (x : Found) (hx : walkAt ws n q 4 0 root = some x) :
    ∃ y, walkAt (doW n ws (pruneS ws asid page s (s.length - 1) (-1)).1) n q 4 0 root = some y ∧ y.fKind = x.fKind ∧ (x.fKind ≠ 0 → y = x) := by
  obtain ⟨hs0, hs1⟩ := wayAt_len _ _ _ _ _ hs
  have hat : ∀ i, i < s.length → s[i]? = some (s.getD i (0, 0)) := fun i hi => by rw [List.getD_eq_getElem?_getD, List.getElem?_eq_getElem hi]; rfl
  have hsl : ∀ i, i < s.length → Sees ws n page 4 0 root (i : Int) (s.getD i (0, 0)).1 ∧ (s.getD i (0, 0)).2 = placeN (i : Int) page := fun i hi => by
    obtain ⟨a, b, _⟩ := way_sees _ _ _ _ _ r0 r1 hs i _ (hat i hi)
    rw [Int.zero_add] at a b
    exact ⟨a, b⟩
  have hin : ∀ z ∈ s, 0 ≤ z.1 ∧ z.1 < (n : Int) ∧ 0 ≤ z.2 ∧ z.2 < 8 := fun z hz => by
    obtain ⟨i, hi, rfl⟩ := List.getElem_of_mem hz
    obtain ⟨a, b, _⟩ := way_sees _ _ _ _ _ r0 r1 hs i _ (List.getElem?_eq_getElem hi)
    obtain ⟨_, _, h3, h4⟩ := sees_lo _ _ _ _ _ a
    exact ⟨h3, h4, b ▸ placeN_lo _ _, b ▸ placeN_hi _ _⟩
  have hdone := prune_done (n := n) (ws := ws) (asid := asid) (page := page) (way := s) (s.length - 1) (-1) ws hw (by omega) hin
  have hbare := stopP_bare ws s (s.length - 1) (-1)
  have hle := stopP_le ws s (s.length - 1) (-1)
  generalize hus : doW n ws (pruneS ws asid page s (s.length - 1) (-1)).1 = us at *
  generalize hm : stopP ws s (s.length - 1) (-1) = m at *
  have hm1 : m < s.length := by omega
  -- what a walk comes by, in both
  have hword : ∀ L' T', Sees ws n q 4 0 root L' T' → ¬ (∃ j : Nat, m ≤ j ∧ j < s.length - 1 ∧ L' = (j : Int) ∧ T' = (s.getD j (0, 0)).1 ∧ placeN L' q = (s.getD j (0, 0)).2) → us.getD (T'.toNat * 8 + (placeN L' q).toNat) 0 = ws.getD (T'.toNat * 8 + (placeN L' q).toNat) 0 := by
    intro L' T' hs' hne
    obtain ⟨_, _, t0, t1⟩ := sees_lo _ _ _ _ _ hs'
    rw [hdone T'.toNat (placeN L' q).toNat (placeN_nat _ _) (by omega), if_neg]
    rintro ⟨j, j1, j2, j3⟩
    rw [Int.toNat_of_nonneg t0, Int.toNat_of_nonneg (placeN_lo _ _)] at j3
    have e1 : (s.getD j (0, 0)).1 = T' := by rw [j3]
    have e2 : (s.getD j (0, 0)).2 = placeN L' q := by rw [j3]
    refine hne ⟨j, j1, j2, ?_, e1.symm, e2.symm⟩
    have := (hsl j (by omega)).1
    rw [e1] at this
    exact (sees_one _ _ _ _ _ _ _ hr hnd hs' this).1
  by_cases hq : m < s.length - 1 ∧ Sees ws n q 4 0 root (m : Int) (s.getD m (0, 0)).1 ∧ placeN (m : Int) q = (s.getD m (0, 0)).2
  · obtain ⟨hlt, hq1, hq2⟩ := hq
    obtain ⟨_, _, T0, T1⟩ := sees_lo _ _ _ _ _ hq1
    obtain ⟨j, hj, hwk⟩ := walk_to (us := ws) _ _ _ _ _ hq1 (fun _ _ _ _ => rfl)
    obtain ⟨j', hj', hwk'⟩ := walk_to (us := us) _ _ _ _ _ hq1 (fun L' T' hlt' hs' => hword L' T' hs' (fun ⟨i, i1, _, i3, _⟩ => by omega))
    obtain rfl : j' = j := by omega
    obtain ⟨i, rfl⟩ : ∃ i, j' = i + 1 := ⟨j' - 1, by omega⟩
    -- old: through bare tables
    have key : ∀ (e a i : Nat), a + e = s.length → m < a → a < s.length → (a : Int) + i = 4 → ∃ x, walkAt ws n q i (a : Int) (s.getD a (0, 0)).1 = some x ∧ x.fKind = 0 := by
      intro e
      induction e with
      | zero => intro a i h1 h2 h3; omega
      | succ e ihe =>
        intro a i h1 h2 h3 h4
        obtain ⟨i, rfl⟩ : ∃ k, i = k + 1 := ⟨i - 1, by omega⟩
        have hb := hbare a h2 (by omega)
        obtain ⟨_, _, z0, z1⟩ := sees_lo _ _ _ _ _ (hsl a h3).1
        have hpn := placeN_nat (a : Int) q
        by_cases hc : ((placeN (a : Int) q).toNat : Int) = (if a = s.length - 1 then -1 else (s.getD a (0, 0)).2)
        · have hpl := placeN_lo (a : Int) q
          rw [Int.toNat_of_nonneg hpl] at hc
          by_cases hlast : a = s.length - 1
          · rw [if_pos hlast] at hc; omega
          · rw [if_neg hlast] at hc
            obtain ⟨k1, k2⟩ := way_next _ _ _ _ _ hs a _ _ (hat a h3) (hat (a + 1) (by omega))
            rw [Int.zero_add] at k1 k2
            rw [walk_step (d := decD (a : Int) (ws.getD ((s.getD a (0, 0)).1.toNat * 8 + (s.getD a (0, 0)).2.toNat) 0)) ⟨z0, z1⟩ (by rw [hc]), if_pos k1, k2]
            have := ihe (a + 1) i (by omega) (by omega) (by omega) (by omega)
            rwa [show ((a + 1 : Nat) : Int) = (a : Int) + 1 by omega] at this
        · have hz := bare_word hb hpn hc
          rw [walk_step (d := noneD) ⟨z0, z1⟩ (by rw [hz]; exact dec_nil _ (by omega) (by omega)), if_neg (by decide)]
          exact ⟨_, rfl, (foundD_parts _ _ _ _ _).2.2.2⟩
    obtain ⟨k1, k2⟩ := way_next _ _ _ _ _ hs m _ _ (hat m hm1) (hat (m + 1) (by omega))
    rw [Int.zero_add] at k1 k2
    rw [hwk, walk_step (d := decD (m : Int) (ws.getD ((s.getD m (0, 0)).1.toNat * 8 + (s.getD m (0, 0)).2.toNat) 0)) ⟨T0, T1⟩ (by rw [hq2]), if_pos k1, k2] at hx
    obtain ⟨x', hx', hxk⟩ := key (s.length - (m + 1)) (m + 1) i (by omega) (by omega) (by omega) (by omega)
    rw [show ((m + 1 : Nat) : Int) = (m : Int) + 1 by omega, hx] at hx'
    cases hx'
    -- new: it ends here
    have hz : us.getD ((s.getD m (0, 0)).1.toNat * 8 + (placeN (m : Int) q).toNat) 0 = 0 := by
      rw [hdone _ _ (placeN_nat _ _) (by omega), if_pos]
      exact ⟨m, Nat.le_refl _, hlt, by rw [Int.toNat_of_nonneg T0, Int.toNat_of_nonneg (placeN_lo _ _), hq2]⟩
    rw [hwk', walk_step (d := noneD) ⟨T0, T1⟩ (by rw [hz]; exact dec_nil _ (by omega) (by omega)), if_neg (by decide)]
    exact ⟨_, rfl, by rw [(foundD_parts _ _ _ _ _).2.2.2, hxk]; rfl, fun h => absurd hxk h⟩
  · refine ⟨x, ?_, rfl, fun _ => rfl⟩
    rw [walk_same _ _ _ (fun L' T' hs' => hword L' T' hs' ?_)]
    · exact hx
    · rintro ⟨j, j1, j2, rfl, rfl, j5⟩
      apply hq
      obtain ⟨_, hpre⟩ := sees_one _ _ _ _ _ _ _ hr hnd hs' (hsl j (by omega)).1
      by_cases e : j = m
      · subst e
        exact ⟨j2, hs', j5⟩
      · refine ⟨by omega, ?_, ?_⟩
        · exact sees_follow _ _ _ _ _ (fun a b c => (hpre a b (by omega)).symm) (hsl m hm1).1
        · rw [hpre m (by omega) (by omega)]
          exact (hsl m hm1).2.symm

/-- Prune behind Path takes the fresh tables away again. -/
theorem prune_back {us : List Int} {asid page : Int} {pre : List (Int × Int)} : ∀ (k : Nat) (fs : List Int) (_ : fs.length = k) (but : Int) (all : List Int) (l : Int), (∃ e, all = fs ++ e ∧ (e ≠ [] → but = placeN (l + fs.length - 1) page)) → ChainW us page l all → l = (pre.length : Int) → 1 ≤ pre.length →
    ∀ f ∈ fs, f ∈ (pruneS us asid page (pre ++ chainS page l all) (pre.length + fs.length - 1) but).2 := by
  intro k
  induction k with
  | zero => intro fs hk but all l _ _ _ _ f hf; rw [List.length_eq_zero_iff.1 hk] at hf; cases hf
  | succ k ih =>
    intro fs0 hk0 but all l hall hc hl hp f hf
    obtain ⟨fs, g, rfl⟩ : ∃ fs g, fs0 = fs ++ [g] := by
      rcases List.eq_nil_or_concat fs0 with h | ⟨a, b, h⟩
      · rw [h] at hk0; simp at hk0
      · exact ⟨a, b, by simpa using h⟩
    have hk : fs.length = k := by simp at hk0; exact hk0
    obtain ⟨e, rfl, hbut⟩ := hall
    have hidx : pre.length + (fs ++ [g]).length - 1 = (pre.length + fs.length - 1) + 1 := by simp; omega
    rw [hidx]
    have hget : ((pre ++ chainS page l (fs ++ [g] ++ e)).getD (pre.length + fs.length - 1 + 1) (0, 0)) = (g, placeN (l + fs.length) page) := by
      have h1 := chainS_at page (fs ++ [g] ++ e) l fs.length g (by simp)
      rw [List.getD_eq_getElem?_getD, show pre.length + fs.length - 1 + 1 = pre.length + fs.length by omega, List.getElem?_append_right (by omega), show pre.length + fs.length - pre.length = fs.length by omega, h1]
      rfl
    have hcg : ∀ (fs : List Int) (l : Int) (e : List Int), ChainW us page l (fs ++ g :: e) → ∀ i : Nat, i < 8 → us.getD (g.toNat * 8 + i) 0 = if i = (placeN (l + fs.length) page).toNat then headW e else 0 := by
      intro fs
      induction fs with
      | nil => intro l e h i hi; simpa using h.1 i hi
      | cons a fs iha =>
        intro l e h i hi
        have := iha (l + 1) e h.2 i hi
        rw [this]
        simp only [List.length_cons]
        rw [show l + 1 + (fs.length : Int) = l + ((fs.length + 1 : Nat) : Int) by omega]
    have hcg' := hcg fs l e (by simpa using hc)
    have hbare : bareB us g but = true := bareB_yes fun i hi => by
      rw [hcg' i hi]
      by_cases hi2 : i = (placeN (l + fs.length) page).toNat
      · rw [if_pos hi2]
        cases e with
        | nil => exact .inr rfl
        | cons x e =>
          left
          rw [hbut (by simp), hi2, Int.toNat_of_nonneg (placeN_lo _ _)]
          congr 1
          simp
          omega
      · rw [if_neg hi2]; exact .inr rfl
    rw [pruneS_go rfl rfl (by rw [hget]; exact hbare)]
    rw [hget]
    rcases List.mem_append.1 hf with hf | hf
    · refine .tail _ ?_
      have hne : fs ≠ [] := by intro h; rw [h] at hf; cases hf
      have hlf : 1 ≤ fs.length := List.length_pos_iff.2 hne
      refine ih fs hk _ _ l ⟨g :: e, by simp, fun _ => ?_⟩ hc hl hp f hf
      have hz : fs[fs.length - 1]? = some (fs[fs.length - 1]'(by omega)) := List.getElem?_eq_getElem _
      have h1 := chainS_at page (fs ++ [g] ++ e) l (fs.length - 1) (fs[fs.length - 1]'(by omega)) (by rw [List.append_assoc, List.getElem?_append_left (by omega)]; exact hz)
      rw [List.getD_eq_getElem?_getD, List.getElem?_append_right (by omega), show pre.length + fs.length - 1 - pre.length = fs.length - 1 by omega, h1]
      show placeN (l + ((fs.length - 1 : Nat) : Int)) page = placeN (l + (fs.length : Int) - 1) page
      congr 1
      omega
    · rw [List.mem_singleton.1 hf]
      exact .head _

end Go.Proofs.Ythcdecgecabgaaa
