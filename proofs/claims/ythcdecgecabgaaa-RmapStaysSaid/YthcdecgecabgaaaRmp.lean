/- Plain: a map of pages to frames as rows that rise by space, then page; what is laid in, taken, moved and told. -/
import Derived.Test.YthcdecgecabgaaaKey
namespace Go.Proofs.Ythcdecgecabgaaa
open Go.RowKit
set_option linter.unusedVariables false
set_option linter.unusedSimpArgs false

/-- A page of a space, and its frame. -/
structure Rw where
  s : Int
  p : Int
  f : Int
  deriving DecidableEq
def Rw.key (x : Rw) : Int × Int := (x.s, x.p)
def Rw.is (s p : Int) (x : Rw) : Bool := x.s == s && x.p == p
theorem Rw.is_iff {s p : Int} {x : Rw} : x.is s p = true ↔ x.key = (s, p) := by
  unfold Rw.is Rw.key
  simp
def ltK (a b : Int × Int) : Prop := a.1 < b.1 ∨ (a.1 = b.1 ∧ a.2 < b.2)
instance : DecidableRel ltK := fun a b => inferInstanceAs (Decidable (_ ∨ _))
theorem ltK_irrefl (a : Int × Int) : ¬ ltK a a := by unfold ltK; omega
theorem ltK_trans {a b c : Int × Int} (h : ltK a b) (k : ltK b c) : ltK a c := by unfold ltK at *; omega
theorem ltK_total {a b : Int × Int} (h : ¬ ltK a b) (k : ¬ ltK b a) : a = b := by
  unfold ltK at *
  obtain ⟨a1, a2⟩ := a
  obtain ⟨b1, b2⟩ := b
  simp only [Prod.mk.injEq] at *
  omega
theorem ltK_asymm {a b : Int × Int} (h : ltK a b) : ¬ ltK b a := by unfold ltK at *; omega
/-- Rows that rise. -/
def Asc (l : List Rw) : Prop := l.Pairwise fun a b => ltK a.key b.key
theorem Asc.nodup {l : List Rw} (h : Asc l) : (l.map Rw.key).Nodup := by
  unfold List.Nodup
  rw [List.pairwise_map]
  exact h.imp fun h e => by rw [e] at h; exact ltK_irrefl _ h
/-- An entry. -/
structure RE where
  row : Rw
  born : Nat
def RE.ke (e : RE) : KE := ⟨e.row.s, e.row.p, .int .i64 e.row.f, e.born⟩
/-- What a map's entries tell, as rows that rise. -/
def MapOf (es : List RE) (rs : List Rw) : Prop := (es.map RE.row).Perm rs ∧ Asc rs
theorem MapOf.keys {es : List RE} {rs : List Rw} (h : MapOf es rs) : (es.map fun e => e.row.key).Nodup := by
  have := (h.1.map Rw.key).nodup_iff.2 h.2.nodup
  rw [List.map_map] at this
  exact this
theorem MapOf.mem {es : List RE} {rs : List Rw} (h : MapOf es rs) {x : Rw} : x ∈ rs ↔ ∃ e ∈ es, e.row = x := by
  rw [← h.1.mem_iff, List.mem_map]
theorem MapOf.len {es : List RE} {rs : List Rw} (h : MapOf es rs) : es.length = rs.length := by have := h.1.length_eq; simpa using this
/-- A page's frame. -/
def frameAt (rs : List Rw) (s p : Int) : Option Int := (rs.find? (Rw.is s p)).map Rw.f
theorem findK_RE (s p : Int) : ∀ es : List RE, findK s p (es.map RE.ke) = es.findIdx? fun e => e.row.is s p := by
  intro es
  induction es with
  | nil => rfl
  | cons e es ih =>
    rw [List.map_cons, findK_cons, ih, List.findIdx?_cons]
    have : KE.is s p e.ke = e.row.is s p := by
      unfold KE.is RE.ke Rw.is
      dsimp only
      rw [Bool.eq_iff_iff]
      simp only [Bool.and_eq_true, beq_iff_eq]
      exact ⟨fun h => ⟨h.1.symm, h.2.symm⟩, fun h => ⟨h.1.symm, h.2.symm⟩⟩
    rw [this]
theorem find_RE (s p : Int) : ∀ es : List RE, getK s p (es.map RE.ke) = (es.find? fun e => e.row.is s p).map fun e => .int .i64 e.row.f := by
  intro es
  unfold getK
  rw [findK_RE]
  induction es with
  | nil => rfl
  | cons e es ih =>
    rw [List.findIdx?_cons, List.find?_cons]
    by_cases h : e.row.is s p = true
    · rw [if_pos h, h]
      rfl
    · rw [if_neg h]
      have h' : e.row.is s p = false := by simpa using h
      rw [h']
      dsimp only
      rw [← ih]
      cases es.findIdx? (fun e => e.row.is s p) with
      | none => rfl
      | some j => simp
theorem find_key_mem {rs : List Rw} (hn : (rs.map Rw.key).Nodup) {x : Rw} (hx : x ∈ rs) : rs.find? (Rw.is x.s x.p) = some x := by
  induction rs with
  | nil => cases hx
  | cons y rs ih =>
    rw [List.map_cons, List.nodup_cons] at hn
    rw [List.find?_cons]
    by_cases h : y.is x.s x.p = true
    · rw [h]
      rcases List.mem_cons.1 hx with rfl | hx
      · rfl
      · exact absurd (List.mem_map.2 ⟨x, hx, (Rw.is_iff.1 h).symm⟩) hn.1
    · have h' : y.is x.s x.p = false := by simpa using h
      rw [h']
      rcases List.mem_cons.1 hx with rfl | hx
      · exact absurd (Rw.is_iff.2 rfl) h
      · exact ih hn.2 hx
theorem MapOf.get {es : List RE} {rs : List Rw} (h : MapOf es rs) (s p : Int) : getK s p (es.map RE.ke) = (frameAt rs s p).map fun f => .int .i64 f := by
  rw [find_RE]
  unfold frameAt
  cases hf : rs.find? (Rw.is s p) with
  | none =>
    rw [List.find?_eq_none] at hf
    rw [List.find?_eq_none.2 fun e he => hf _ (h.mem.2 ⟨e, he, rfl⟩)]
    rfl
  | some x =>
    have hx := List.mem_of_find?_eq_some hf
    have hk := List.find?_some hf
    obtain ⟨e, he, rfl⟩ := h.mem.1 hx
    have h2 : (es.map RE.row).find? (Rw.is s p) = some e.row := by
      have hn := (h.1.map Rw.key).nodup_iff.2 h.2.nodup
      have := find_key_mem hn (List.mem_map_of_mem (f := RE.row) he)
      obtain ⟨h3, h4⟩ := Prod.mk.inj (Rw.is_iff.1 hk)
      rw [h3, h4] at this
      exact this
    rw [List.find?_map] at h2
    obtain ⟨e', h5, h6⟩ := Option.map_eq_some_iff.1 h2
    rw [show (es.find? fun e => e.row.is s p) = some e' from h5]
    simp [h6]
theorem MapOf.nil : MapOf [] [] := ⟨List.Perm.refl _, List.Pairwise.nil⟩
/-- A row at its place. -/
def putR (x : Rw) : List Rw → List Rw
  | [] => [x]
  | y :: t => if ltK x.key y.key then x :: y :: t else y :: putR x t
theorem putR_perm (x : Rw) : ∀ rs : List Rw, (putR x rs).Perm (x :: rs)
  | [] => List.Perm.refl _
  | y :: t => by
    unfold putR
    split
    · exact List.Perm.refl _
    · exact ((putR_perm x t).cons y).trans (List.Perm.swap x y t)
theorem putR_asc {x : Rw} : ∀ {rs : List Rw}, Asc rs → (∀ y ∈ rs, y.key ≠ x.key) → Asc (putR x rs)
  | [], _, _ => List.pairwise_singleton _ _
  | y :: t, h, hx => by
    obtain ⟨h1, h2⟩ := List.pairwise_cons.1 h
    unfold putR
    split
    · rename_i hl
      exact List.pairwise_cons.2 ⟨fun z hz => by
        rcases List.mem_cons.1 hz with rfl | hz
        · exact hl
        · exact ltK_trans hl (h1 z hz), h⟩
    · rename_i hl
      refine List.pairwise_cons.2 ⟨fun z hz => ?_, putR_asc h2 fun z hz => hx z (.tail _ hz)⟩
      rcases List.mem_cons.1 ((putR_perm x t).mem_iff.1 hz) with rfl | hz
      · have h3 := hx y (.head _)
        by_cases h4 : ltK y.key z.key
        · exact h4
        · exact absurd (ltK_total h4 hl) h3
      · exact h1 z hz
theorem frameAt_none {rs : List Rw} {s p : Int} : frameAt rs s p = none ↔ ∀ x ∈ rs, x.key ≠ (s, p) := by
  unfold frameAt
  rw [Option.map_eq_none_iff, List.find?_eq_none]
  exact ⟨fun h x hx e => h x hx (Rw.is_iff.2 e), fun h x hx e => h x hx (Rw.is_iff.1 e)⟩
theorem frameAt_some {rs : List Rw} {s p f : Int} (h : frameAt rs s p = some f) : ⟨s, p, f⟩ ∈ rs := by
  obtain ⟨x, hx, rfl⟩ := Option.map_eq_some_iff.1 h
  have h1 := List.mem_of_find?_eq_some hx
  obtain ⟨h2, h3⟩ := Prod.mk.inj (Rw.is_iff.1 (List.find?_some hx))
  subst h2 h3
  exact h1
theorem frameAt_mem {rs : List Rw} (h : Asc rs) {x : Rw} (hx : x ∈ rs) : frameAt rs x.s x.p = some x.f := by
  unfold frameAt
  rw [find_key_mem h.nodup hx]
  rfl
theorem MapOf.put {es : List RE} {rs : List Rw} (h : MapOf es rs) {s p : Int} (hn : frameAt rs s p = none) (f : Int) (clock : Nat) : MapOf (es ++ [(⟨⟨s, p, f⟩, clock⟩ : RE)]) (putR ⟨s, p, f⟩ rs) ∧ setK s p (.int .i64 f) clock (es.map RE.ke) = (es ++ [(⟨⟨s, p, f⟩, clock⟩ : RE)]).map RE.ke ∧ clockK s p clock (es.map RE.ke) = clock + 1 := by
  have hk : findK s p (es.map RE.ke) = none := by
    have := h.get s p
    rw [hn] at this
    unfold getK at this
    cases hf : findK s p (es.map RE.ke) with
    | none => rfl
    | some j =>
      rw [hf] at this
      obtain ⟨hj, _⟩ := findK_lt hf
      simp only [Option.bind_some, List.getElem?_eq_getElem hj] at this
      cases this
  refine ⟨⟨?_, putR_asc h.2 (frameAt_none.1 hn)⟩, ?_, ?_⟩
  · rw [List.map_append]
    exact (List.perm_append_comm.trans ((List.Perm.cons _ h.1))).trans (putR_perm _ _).symm
  · unfold setK; rw [hk]; simp [RE.ke]
  · unfold clockK; rw [hk]
/-- Rows but a page's. -/
def outR (s p : Int) (rs : List Rw) : List Rw := rs.filter fun x => !x.is s p
theorem MapOf.out {es : List RE} {rs : List Rw} (h : MapOf es rs) (s p : Int) : MapOf (es.filter fun e => !e.row.is s p) (outR s p rs) ∧ delK s p (es.map RE.ke) = (es.filter fun e => !e.row.is s p).map RE.ke := by
  refine ⟨⟨?_, h.2.filter _⟩, ?_⟩
  · have := h.1.filter fun x => !x.is s p
    rw [List.filter_map] at this
    exact this
  · have hk := h.keys
    clear h
    unfold delK
    rw [findK_RE]
    induction es with
    | nil => rfl
    | cons e es ih =>
      rw [List.map_cons, List.nodup_cons] at hk
      rw [List.findIdx?_cons, List.filter_cons]
      by_cases he : e.row.is s p = true
      · rw [if_pos he, if_neg (by simp [he])]
        dsimp only
        rw [List.map_cons, List.eraseIdx_cons_zero]
        congr 1
        rw [List.filter_eq_self.2]
        intro x hx
        by_cases hxe : x.row.is s p = true
        · exact absurd (List.mem_map.2 ⟨x, hx, by rw [Rw.is_iff.1 he, Rw.is_iff.1 hxe]⟩) hk.1
        · simpa using hxe
      · rw [if_neg he, if_pos (by simpa using he)]
        have := ih hk.2
        cases hf : es.findIdx? (fun e => e.row.is s p) with
        | none =>
          rw [hf] at this
          dsimp only [Option.map_none]
          rw [List.map_cons, List.map_cons, ← this]
        | some j =>
          rw [hf] at this
          dsimp only [Option.map_some]
          rw [List.map_cons, List.eraseIdx_cons_succ, List.map_cons]
          exact congrArg _ this
/-- A page's frame is another one. -/
def setR (s p f : Int) (x : Rw) : Rw := if x.is s p then { x with f := f } else x
def RE.set (s p f : Int) (e : RE) : RE := { e with row := setR s p f e.row }
theorem setR_key (s p f : Int) (x : Rw) : (setR s p f x).key = x.key := by unfold setR; split <;> rfl
theorem Asc.map {rs : List Rw} (h : Asc rs) {g : Rw → Rw} (hg : ∀ x, (g x).key = x.key) : Asc (rs.map g) := by
  unfold Asc
  rw [List.pairwise_map]
  exact h.imp fun hh => by rw [hg, hg]; exact hh
theorem MapOf.set {es : List RE} {rs : List Rw} (h : MapOf es rs) {s p f : Int} (hf : frameAt rs s p = some f) (t : Int) (clock : Nat) : MapOf (es.map (RE.set s p t)) (rs.map (setR s p t)) ∧ setK s p (.int .i64 t) clock (es.map RE.ke) = (es.map (RE.set s p t)).map RE.ke ∧ clockK s p clock (es.map RE.ke) = clock := by
  have hg := h.get s p
  rw [hf] at hg
  have hk := h.keys
  refine ⟨⟨?_, h.2.map (setR_key s p t)⟩, ?_⟩
  · have := h.1.map (setR s p t)
    rw [List.map_map] at this ⊢
    exact this
  · clear h hf
    rw [find_RE] at hg
    unfold setK clockK
    rw [findK_RE]
    induction es with
    | nil => cases hg
    | cons e es ih =>
      rw [List.map_cons, List.nodup_cons] at hk
      rw [List.find?_cons] at hg
      rw [List.findIdx?_cons]
      by_cases he : e.row.is s p = true
      · rw [if_pos he]
        refine ⟨?_, rfl⟩
        dsimp only
        rw [List.map_cons, List.map_cons, List.map_cons]
        show (_ :: List.map RE.ke es) = _
        have h1 : es.map (RE.set s p t) = es := by
          conv => rhs; rw [← List.map_id es]
          apply List.map_congr_left
          intro x hx
          unfold RE.set setR
          rw [if_neg]
          · rfl
          · intro hxe
            exact hk.1 (List.mem_map.2 ⟨x, hx, by rw [Rw.is_iff.1 he, Rw.is_iff.1 hxe]⟩)
        rw [h1]
        congr 1
        unfold RE.set setR RE.ke
        rw [if_pos he]
      · have he' : e.row.is s p = false := by simpa using he
        rw [he'] at hg
        obtain ⟨i1, i2⟩ := ih hg hk.2
        rw [if_neg he]
        cases hfi : es.findIdx? (fun e => e.row.is s p) with
        | none =>
          rw [List.findIdx?_eq_none_iff] at hfi
          rw [List.find?_eq_none.2 (fun x hx => by rw [hfi x hx]; simp)] at hg
          cases hg
        | some j =>
          rw [hfi] at i1
          dsimp only at i1
          dsimp only [Option.map_some]
          refine ⟨?_, rfl⟩
          rw [List.map_cons, List.map_cons, List.map_cons, List.modify_succ_cons, i1]
          congr 1
          unfold RE.set setR
          rw [if_neg he]
/-- All that have one frame have another one. -/
def moveR (frm to : Int) (x : Rw) : Rw := if x.f = frm then { x with f := to } else x
theorem moveR_key (frm to : Int) (x : Rw) : (moveR frm to x).key = x.key := by unfold moveR; split <;> rfl
/-- Which pages have a frame, and which pages a space has. -/
def ofR (rs : List Rw) (n : Int) : List (Int × Int) := (rs.filter fun x => x.f == n).map Rw.key
def pagesR (rs : List Rw) (s : Int) : List (Int × Int) := (rs.filter fun x => x.s == s).map fun x => (x.p, x.f)
/-- What was moved so far: those whose page is among the first ones. -/
def movedSo (to : Int) (ks : List (Int × Int)) (x : Rw) : Rw := if ks.contains x.key then { x with f := to } else x
theorem movedSo_key (to : Int) (ks : List (Int × Int)) (x : Rw) : (movedSo to ks x).key = x.key := by unfold movedSo; split <;> rfl
theorem movedSo_nil (to : Int) (rs : List Rw) : rs.map (movedSo to []) = rs := by
  conv => rhs; rw [← List.map_id rs]
  apply List.map_congr_left
  intro x _
  rfl
theorem movedSo_snoc (to : Int) (ks : List (Int × Int)) (k : Int × Int) (rs : List Rw) : rs.map (movedSo to (ks ++ [k])) = (rs.map (movedSo to ks)).map (setR k.1 k.2 to) := by
  rw [List.map_map]
  apply List.map_congr_left
  intro x _
  show movedSo to (ks ++ [k]) x = setR k.1 k.2 to (movedSo to ks x)
  have h1 : (movedSo to ks x).is k.1 k.2 = (x.key == k) := by
    rw [Bool.eq_iff_iff, Rw.is_iff, movedSo_key]
    simp
  unfold setR
  rw [h1]
  unfold movedSo
  have h2 : (ks ++ [k]).contains x.key = (ks.contains x.key || x.key == k) := by
    rw [Bool.eq_iff_iff]
    simp
  rw [h2]
  cases ks.contains x.key <;> cases (x.key == k) <;> rfl
theorem movedSo_all {frm to : Int} {rs : List Rw} (h : Asc rs) : rs.map (movedSo to (ofR rs frm)) = rs.map (moveR frm to) := by
  apply List.map_congr_left
  intro x hx
  unfold movedSo moveR
  have : (ofR rs frm).contains x.key = decide (x.f = frm) := by
    rw [Bool.eq_iff_iff]
    simp only [List.contains_iff_mem, decide_eq_true_eq]
    unfold ofR
    rw [List.mem_map]
    constructor
    · rintro ⟨y, hy, hyx⟩
      obtain ⟨h1, h2⟩ := List.mem_filter.1 hy
      have h3 := frameAt_mem h hx
      have h4 := frameAt_mem h h1
      obtain ⟨e1, e2⟩ := Prod.mk.inj (show (y.s, y.p) = (x.s, x.p) from hyx)
      rw [e1, e2, h3] at h4
      injection h4 with h4
      rw [h4]
      simpa using h2
    · intro hf
      exact ⟨x, List.mem_filter.2 ⟨hx, by simpa using hf⟩, rfl⟩
  rw [this]
  by_cases hf : x.f = frm
  · rw [if_pos hf, if_pos (by simpa using hf)]
  · rw [if_neg hf, if_neg (by simpa using hf)]
theorem ofR_frame {rs : List Rw} (h : Asc rs) {n : Int} {k : Int × Int} (hk : k ∈ ofR rs n) : frameAt rs k.1 k.2 = some n := by
  obtain ⟨x, hx, rfl⟩ := List.mem_map.1 hk
  obtain ⟨h1, h2⟩ := List.mem_filter.1 hx
  have := frameAt_mem h h1
  rw [show x.f = n by simpa using h2] at this
  exact this
/-- A list that is laid in order is what any order of it sorts to. -/
theorem sort_unique {α : Type} {lt : α → α → Bool} (ht : ∀ a b c, lt a b = true → lt b c = true → lt a c = true) (hi : ∀ a, lt a a = false) (hT : ∀ a b, lt a b = false → lt b a = false → a = b) {xs ys : List α} (hp : xs.Perm ys) (hy : ys.Pairwise fun a b => lt a b = true) : xs.mergeSort (fun x y => !lt y x) = ys := by
  have hasym : ∀ a b, lt a b = true → lt b a = false := fun a b h => by
    cases hb : lt b a with
    | false => rfl
    | true =>
      have := ht a b a h hb
      rw [hi] at this
      cases this
  refine List.Perm.eq_of_pairwise (le := fun a b => (!lt b a) = true) (fun a b _ _ h1 h2 => hT a b (by simpa using h2) (by simpa using h1)) ?_ ?_ ((List.mergeSort_perm xs _).trans hp)
  · refine List.pairwise_mergeSort (le := fun a b => !lt b a) (fun a b c h1 h2 => ?_) (fun a b => ?_) xs
    · have h1' : lt b a = false := by simpa using h1
      have h2' : lt c b = false := by simpa using h2
      cases hc : lt c a with
      | false => rfl
      | true =>
        exfalso
        cases hab : lt a b with
        | true =>
          have := ht c a b hc hab
          rw [h2'] at this
          cases this
        | false =>
          have e := hT a b hab h1'
          subst e
          rw [h2'] at hc
          cases hc
    · cases h1 : lt b a with
      | false => rfl
      | true => rw [hasym b a h1]; rfl
  · exact hy.imp fun {a b} h => by rw [hasym a b h]; rfl

end Go.Proofs.Ythcdecgecabgaaa
