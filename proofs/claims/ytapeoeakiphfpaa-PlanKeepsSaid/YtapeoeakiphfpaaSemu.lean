import Derived.Test.YtapeoeakiphfpaaBSemPathpSemt
import Derived.Test.YtapeoeakiphfpaaPath
/- Plain laws: what is found behind the steps of Path. -/
namespace Go.Proofs.Ytapeoeakiphfpaa
open Go.RowKit
set_option linter.unusedVariables false
set_option linter.unusedSimpArgs false

section
variable {ws us : List Int} {n page q : Int}
theorem sees_mono : ∀ (k : Nat) (lv tb L T : Int), Sees ws n page k lv tb L T → ∀ j, Sees ws n page (k + j) lv tb L T := by
  intro k
  induction k with
  | zero => intro lv tb L T h; cases h
  | succ k ih =>
    intro lv tb L T h j
    rw [show k + 1 + j = k + j + 1 by omega]
    obtain ⟨ht, h | ⟨hk, h⟩⟩ := sees_succ.1 h
    · exact sees_succ.2 ⟨ht, .inl h⟩
    · exact sees_succ.2 ⟨ht, .inr ⟨hk, ih _ _ _ _ h j⟩⟩
/-- A way's slots are what the walk comes by. -/
theorem way_sees : ∀ (k : Nat) (lv tb : Int) (s : List (Int × Int)) (d : Desc), 0 ≤ tb → tb < n → wayAt ws n page k lv tb = some (s, d) → ∀ (i : Nat) (z : Int × Int), s[i]? = some z → Sees ws n page k lv tb (lv + i) z.1 ∧ z.2 = placeN (lv + i) page ∧ (i + 1 = s.length → decD (lv + i) (ws.getD (z.1.toNat * 8 + z.2.toNat) 0) = d) := by
  intro k
  induction k with
  | zero => intro lv tb s d _ _ h; simp [wayAt] at h
  | succ k ih =>
    intro lv tb s d t0 t1 h i z hz
    rw [wayAt_in rfl rfl rfl] at h
    split at h
    · simp only [Option.some.injEq, Prod.mk.injEq] at h
      obtain ⟨rfl, rfl⟩ := h
      cases i with
      | zero =>
        simp at hz
        subst hz
        exact ⟨sees_succ.2 ⟨⟨t0, t1⟩, .inl ⟨by simp, rfl⟩⟩, by simp, fun _ => by simp⟩
      | succ i => simp at hz
    · rename_i hc
      split at h
      · rename_i ht
        rw [Option.map_eq_some_iff] at h
        obtain ⟨⟨s', d'⟩, h1, h2⟩ := h
        simp only [Prod.mk.injEq] at h2
        obtain ⟨rfl, rfl⟩ := h2
        cases i with
        | zero =>
          simp at hz
          subst hz
          have hl := wayAt_len _ _ _ _ _ h1
          exact ⟨sees_succ.2 ⟨⟨t0, t1⟩, .inl ⟨by simp, rfl⟩⟩, by simp, fun e => by simp at e; rw [e] at hl; simp at hl⟩
        | succ i =>
          obtain ⟨h3, h4, h5⟩ := ih _ _ _ _ ht.1 ht.2 h1 i z (by simpa using hz)
          have e : lv + 1 + (i : Int) = lv + ((i + 1 : Nat) : Int) := by omega
          rw [e] at h3 h4 h5
          refine ⟨sees_succ.2 ⟨⟨t0, t1⟩, .inr ⟨?_, h3⟩⟩, h4, fun hl => h5 (by simpa using hl)⟩
          exact Classical.byContradiction fun hk => hc (.inr hk)
      · cases h
/-- A way goes on from its last slot, as long as the words before it are as they were. -/
theorem way_go : ∀ (k : Nat) (lv tb : Int) (s : List (Int × Int)) (d : Desc), wayAt ws n page k lv tb = some (s, d) → (∀ (i : Nat) (z : Int × Int), i + 1 < s.length → s[i]? = some z → us.getD (z.1.toNat * 8 + z.2.toNat) 0 = ws.getD (z.1.toNat * 8 + z.2.toNat) 0) →
    ∀ e : Nat, wayAt us n page (k + e) lv tb = (wayAt us n page (k + e - (s.length - 1)) (lv + ((s.length - 1 : Nat) : Int)) (s.getD (s.length - 1) (0, 0)).1).map fun r => (s.take (s.length - 1) ++ r.1, r.2) := by
  intro k
  induction k with
  | zero => intro lv tb s d h; simp [wayAt] at h
  | succ k ih =>
    intro lv tb s d h hs e
    rw [wayAt_in rfl rfl rfl] at h
    split at h
    · simp only [Option.some.injEq, Prod.mk.injEq] at h
      obtain ⟨rfl, rfl⟩ := h
      simp
    · rename_i hc
      split at h
      · rename_i ht
        rw [Option.map_eq_some_iff] at h
        obtain ⟨⟨s', d'⟩, h1, h2⟩ := h
        simp only [Prod.mk.injEq] at h2
        obtain ⟨rfl, rfl⟩ := h2
        have hl := wayAt_len _ _ _ _ _ h1
        have hw := hs 0 (tb, placeN lv page) (by simp; omega) rfl
        dsimp only at hw
        have hi := ih _ _ _ _ h1 (fun i z hi hz => hs (i + 1) z (by simp; omega) (by simpa using hz)) e
        rw [show k + 1 + e = k + e + 1 by omega]
        conv => lhs; rw [wayAt_in rfl rfl rfl]
        rw [hw]
        have hc1 : ¬ (k = 0 ∨ (decD lv (ws.getD (tb.toNat * 8 + (placeN lv page).toNat) 0)).fKind ≠ 1) := hc
        rw [if_neg (by intro h; rcases h with h | h; exact hc1 (.inl (by omega)); exact hc1 (.inr h)), if_pos ht, hi]
        obtain ⟨m, hm⟩ : ∃ m, s'.length = m + 1 := ⟨s'.length - 1, by omega⟩
        simp only [List.length_cons, hm, Nat.add_sub_cancel]
        rw [Option.map_map]
        have e1 : k + e + 1 - (m + 1) = k + e - m := by omega
        have e2 : lv + ((m + 1 : Nat) : Int) = lv + 1 + (m : Int) := by omega
        rw [e1, e2]
        have e3 : ((tb, placeN lv page) :: s').getD (m + 1) (0, 0) = s'.getD m (0, 0) := by simp
        rw [e3]
        congr 1
      · cases h
end
/-- The slots of fresh tables. -/
def chainS (page : Int) : Int → List Int → List (Int × Int)
  | _, [] => []
  | l, f :: fs => (f, placeN l page) :: chainS page (l + 1) fs
theorem chainS_len (page : Int) : ∀ (fs : List Int) (l : Int), (chainS page l fs).length = fs.length := by
  intro fs
  induction fs with
  | nil => intro l; rfl
  | cons f fs ih => intro l; simp [chainS, ih]
theorem chainS_at (page : Int) : ∀ (fs : List Int) (l : Int) (i : Nat) (f : Int), fs[i]? = some f → (chainS page l fs)[i]? = some (f, placeN (l + i) page) := by
  intro fs
  induction fs with
  | nil => intro l i f h; simp at h
  | cons g fs ih =>
    intro l i f h
    cases i with
    | zero => simp at h; simp [chainS, h]
    | succ i =>
      have := ih (l + 1) i f (by simpa using h)
      simp only [chainS, List.getElem?_cons_succ]
      rw [this]
      congr 3
      omega
/-- The way down through fresh tables. -/
theorem chain_way {us : List Int} {n : Nat} {page : Int} (hn : n ≤ 512) : ∀ (fs : List Int) (f : Int) (l : Int) (j : Nat), 0 ≤ l → l + j ≤ 4 → (f :: fs).length ≤ j → (∀ g ∈ f :: fs, 0 ≤ g ∧ g < n) → ChainW us page l (f :: fs) → wayAt us n page j l f = some (chainS page l (f :: fs), noneD) := by
  intro fs
  induction fs with
  | nil =>
    intro f l j l0 hj hlen hin hc
    obtain ⟨j, rfl⟩ : ∃ k, j = k + 1 := ⟨j - 1, by simp at hlen; omega⟩
    have hw := hc.1 (placeN l page).toNat (placeN_nat l page)
    rw [if_pos rfl] at hw
    change _ = (0 : Int) at hw
    rw [wayAt_in (d := noneD) rfl rfl (by rw [hw]; exact dec_nil l l0 (by omega)), if_pos (.inr (by decide))]
    rfl
  | cons g gs ih =>
    intro f l j l0 hj hlen hin hc
    obtain ⟨g0, g1⟩ := hin g (.tail _ (.head _))
    simp only [List.length_cons] at hlen
    obtain ⟨j, rfl⟩ : ∃ k, j = k + 1 := ⟨j - 1, by omega⟩
    have hw := hc.1 (placeN l page).toNat (placeN_nat l page)
    rw [if_pos rfl] at hw
    change _ = g * 4096 + 3 at hw
    rw [wayAt_in (d := tableD g) rfl rfl (by rw [hw]; exact dec_tab l0 (by omega) g0 (by omega)), if_neg (by intro h; rcases h with h | h; omega; exact h rfl), if_pos (show 0 ≤ (tableD g).fFrame ∧ (tableD g).fFrame < n from ⟨g0, g1⟩)]
    rw [show (tableD g).fFrame = g from rfl, ih g (l + 1) j (by omega) (by omega) (by simp; omega) (fun x hx => hin x (.tail _ hx)) hc.2]
    rfl

/-- What is behind the steps of Path. -/
structure Behind (ws us : List Int) (n : Nat) (root page : Int) (s : List (Int × Int)) (fs : List Int) : Prop where
  chain : ChainW us page (s.length : Int) fs
  way : ∀ e : Nat, s.length + fs.length + e ≤ 4 → fs ≠ [] → wayAt us n page (s.length + fs.length + e) 0 root = some (s ++ chainS page (s.length : Int) fs, noneD)
  walks : ∀ q x, walkAt ws n q 4 0 root = some x → ∃ y, walkAt us n q 4 0 root = some y ∧ y.fKind = x.fKind ∧ (x.fKind ≠ 0 → y = x)
theorem path_behind {ws : List Int} {n : Nat} {root asid page : Int} {L : Nat} {r : List Int} {s : List (Int × Int)} {d : Desc} {fs : List Int} (hn : n ≤ 512) (hw : ws.length = n * 8) (r0 : 0 ≤ root) (r1 : root < n) (hL : L < 4) (hr : tabsAt ws n 4 0 root = some r) (hnd : (r ++ fs).Nodup)
    (hs : wayAt ws n page (L + 1) 0 root = some (s, d)) (hd : fs ≠ [] → d.fKind = 0) (hlen : s.length + fs.length = L + 1) (hin : ∀ f ∈ fs, 0 ≤ f ∧ f < n) :
    Behind ws (doW n ws (pathS asid page (s.length - 1) (lastS s).1 (lastS s).2 fs).1) n root page s fs := by
  obtain ⟨hs0, hs1⟩ := wayAt_len _ _ _ _ _ hs
  obtain ⟨m, hm⟩ : ∃ m, s.length = m + 1 := ⟨s.length - 1, by omega⟩
  obtain ⟨hrd, hfd, hrf⟩ := List.nodup_append.1 hnd
  have hz : s[m]? = some (lastS s) := by unfold lastS; rw [hm, List.getD_eq_getElem?_getD, Nat.add_sub_cancel, List.getElem?_eq_getElem (by omega)]; rfl
  obtain ⟨hsee, hpl, hdec⟩ := way_sees _ _ _ _ _ r0 r1 hs m _ hz
  have hdec := hdec hm.symm
  have hsee4 : Sees ws n page 4 0 root (m : Int) (lastS s).1 := by
    have := sees_mono _ _ _ _ _ hsee (4 - (L + 1))
    rw [show L + 1 + (4 - (L + 1)) = 4 by omega] at this
    simpa using this
  have hin4 := sees_in _ _ _ _ _ _ hr hsee4
  obtain ⟨_, _, T0, T1⟩ := sees_lo _ _ _ _ _ hsee4
  have hapart : ∀ T, T ∈ r → T ∉ fs := fun T h1 h2 => hrf T h1 T h2 rfl
  have hp0 := placeN_lo (0 + (m : Int)) page
  have hp1 := placeN_hi (0 + (m : Int)) page
  rw [← hpl] at hp0 hp1
  obtain ⟨h1, h2, h3⟩ := path_done (n := n) (asid := asid) (page := page) fs (s.length - 1) (lastS s).1 (lastS s).2 ws hw hin hfd (hapart _ hin4) T0 T1 hp0 hp1
  simp only [Int.zero_add] at hpl hdec
  generalize hus : doW n ws (pathS asid page (s.length - 1) (lastS s).1 (lastS s).2 fs).1 = us at *
  generalize lastS s = z at *
  obtain ⟨T, P⟩ := z
  dsimp only at *
  have hlev : ((s.length - 1 : Nat) : Int) + 1 = (s.length : Int) := by omega
  rw [hlev] at h3
  have hml : (s.length : Int) = (m : Int) + 1 := by omega
  have hword : ∀ q L' T', Sees ws n q 4 0 root L' T' → ¬ (L' = (m : Int) ∧ T' = T ∧ placeN L' q = P) → us.getD (T'.toNat * 8 + (placeN L' q).toNat) 0 = ws.getD (T'.toNat * 8 + (placeN L' q).toNat) 0 := by
    intro q L' T' hs' hne
    have hT' := sees_in _ _ _ _ _ _ hr hs'
    obtain ⟨_, _, t0, t1⟩ := sees_lo _ _ _ _ _ hs'
    refine h1 T'.toNat (placeN L' q).toNat (placeN_nat _ _) (by omega) (by rw [Int.toNat_of_nonneg t0]; exact hapart _ hT') ?_
    rintro ⟨e1, e2⟩
    rw [Int.toNat_of_nonneg t0] at e1
    rw [Int.toNat_of_nonneg (placeN_lo _ _)] at e2
    subst e1
    exact hne ⟨(sees_one _ _ _ _ _ _ _ hr hrd hs' hsee4).1, rfl, e2⟩
  refine ⟨h3, fun e he hne => ?_, fun q x hx => ?_⟩
  · cases fs with
    | nil => exact absurd rfl hne
    | cons f gs =>
      obtain ⟨f0, f1⟩ := hin f (.head _)
      simp only [List.length_cons] at he hlen
      have hg := way_go (us := us) _ _ _ _ _ hs (fun i z hi hzz => by
        obtain ⟨a1, a2, _⟩ := way_sees _ _ _ _ _ r0 r1 hs i z hzz
        have a1' := sees_mono _ _ _ _ _ a1 (4 - (L + 1))
        rw [show L + 1 + (4 - (L + 1)) = 4 by omega] at a1'
        have := hword page _ _ a1' (fun hh => by omega)
        rwa [← a2] at this) e
      have hll : s.length + (gs.length + 1) + e = L + 1 + e := by omega
      simp only [List.length_cons]
      rw [hll, hg]
      have e1 : (s.getD (s.length - 1) (0, 0)).1 = T := by rw [hm, Nat.add_sub_cancel, List.getD_eq_getElem?_getD, hz]; rfl
      rw [e1, hm, Nat.add_sub_cancel]
      obtain ⟨j, hj⟩ : ∃ j, L + 1 + e - m = j + 1 := ⟨L + e - m, by omega⟩
      rw [hj, wayAt_in (d := tableD f) rfl rfl (by rw [Int.zero_add, ← hpl, h2]; exact dec_tab (by omega) (by omega) f0 (by omega)), if_neg (by intro h; rcases h with h | h; omega; exact h rfl), if_pos (show 0 ≤ (tableD f).fFrame ∧ (tableD f).fFrame < n from ⟨f0, f1⟩)]
      rw [show (tableD f).fFrame = f from rfl]
      rw [hml] at h3
      rw [Int.zero_add, chain_way hn gs f ((m : Int) + 1) j (by omega) (by omega) (by simp; omega) hin h3]
      simp only [Option.map_some, Int.zero_add]
      have e4 : ((m + 1 : Nat) : Int) = (m : Int) + 1 := by omega
      rw [e4, ← hpl]
      have e5 : s = s.take m ++ [(T, P)] := by
        have := List.take_append_getElem (l := s) (i := m) (by omega)
        have hzz : s[m]'(by omega) = (T, P) := by rw [List.getElem?_eq_getElem (by omega)] at hz; exact Option.some.inj hz
        rw [hzz] at this
        rw [this, List.take_of_length_le (by omega)]
      conv => rhs; rw [e5]
      simp
  · by_cases hq : Sees ws n q 4 0 root (m : Int) T ∧ placeN (m : Int) q = P ∧ fs ≠ []
    · obtain ⟨hq1, hq2, hq3⟩ := hq
      obtain ⟨j, hj, hwk⟩ := walk_to (us := ws) _ _ _ _ _ hq1 (fun _ _ _ _ => rfl)
      obtain ⟨j', hj', hwk'⟩ := walk_to (us := us) _ _ _ _ _ hq1 (fun L' T' hlt hs' => hword q L' T' hs' (fun h => by omega))
      obtain rfl : j' = j := by omega
      obtain ⟨i, rfl⟩ : ∃ i, j' = i + 1 := ⟨j' - 1, by omega⟩
      have hd0 := hd hq3
      rw [hwk, walk_step (d := d) ⟨T0, T1⟩ (by rw [hq2]; exact hdec), if_neg (by omega)] at hx
      have hxk : x.fKind = 0 := by rw [← Option.some.inj hx, (foundD_parts _ _ _ _ _).2.2.2]; exact hd0
      cases fs with
      | nil => exact absurd rfl hq3
      | cons f gs =>
        obtain ⟨f0, f1⟩ := hin f (.head _)
        simp only [List.length_cons] at hlen
        rw [hml] at h3
        obtain ⟨y, hy, hyk⟩ := chain_walk (q := q) hn gs f ((m : Int) + 1) i (by omega) (by omega) (by simp; omega) hin h3
        refine ⟨y, ?_, by rw [hyk, hxk], fun h => absurd hxk h⟩
        rw [hwk', walk_step (d := tableD f) ⟨T0, T1⟩ (by rw [hq2, h2]; exact dec_tab (by omega) (by omega) f0 (by omega)), if_pos (show (tableD f).fKind = 1 from rfl)]
        exact hy
    · refine ⟨x, ?_, rfl, fun _ => rfl⟩
      rw [walk_same _ _ _ (fun L' T' hs' => ?_)]
      · exact hx
      · by_cases hc : L' = (m : Int) ∧ T' = T ∧ placeN L' q = P
        · obtain ⟨rfl, rfl, hc⟩ := hc
          have hfs : fs = [] := Classical.byContradiction fun h => hq ⟨hs', hc, h⟩
          subst hfs
          rw [hc, h2]
        · exact hword q L' T' hs' hc

end Go.Proofs.Ytapeoeakiphfpaa
