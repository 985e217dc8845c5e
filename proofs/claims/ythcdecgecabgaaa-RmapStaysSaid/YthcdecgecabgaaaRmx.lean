/- The contract of rmap.Frames. -/
import Derived.Test.YthcdecgecabgaaaRmw
import Derived.Shelf.SortM.Plain
import Derived.Shelf.SortM.SortNone
import Derived.Shelf.SlicesE.Compact
import Derived.Ground.SlgmProg
import Derived.Ground.SlgnProg
namespace Go.Proofs
open Go.Shelf
shelf_lay_g SlLaysM.n5 Slgm 5 at Try 87 as YthcdecgecabgaaasortI
shelf_lay_g SlLaysE.n43 Slgn 43 at Try 88 as YthcdecgecabgaaacompI
end Go.Proofs
namespace Go.Proofs.Ythcdecgecabgaaa
open Go.RowKit
open Go.Lib Go.Sort
open Go.ChangeMaps (setBlock)
set_option linter.unusedVariables false
set_option linter.unusedSimpArgs false
attribute [local go_sem] setCell_drewN alloc_drewN lt_moreE le_moreE lt_moreK le_moreK cell_more frozen_more set_more drew_more drewN_more

def encI1 (x : Int) : List Value := [.int .i64 x]
theorem flat_encI (l : List Int) : (l.map encI1).flatten = l.map (Value.int .i64) := by
  induction l with
  | nil => rfl
  | cons x l ih => rw [List.map_cons, List.flatten_cons, ih]; rfl
theorem flatK_one (d : List Int) : flatK encI1 1 d.toArray = d.toArray.map (Value.int .i64) := by
  apply Array.ext'
  rw [flatK_list encI1 1 (fun _ => rfl), flat_encI]
  simp
theorem holds_one {w : World} {g : Nat} {d : List Int} (h : HoldsK encI1 1 w g 0 d.toArray) : Holds (Value.int .i64) w g 0 d.toArray := by
  unfold HoldsK at h
  rw [flatK_one] at h
  intro j hj
  have := h j (by simpa using hj)
  rw [getElem!_pos (d.toArray.map (Value.int .i64)) j (by simpa using hj)] at this
  rw [getElem!_pos d.toArray j hj]
  simpa using this
theorem putRow_one (w : World) (g : Nat) (d : List Int) : putRow (Value.int .i64) w g 0 d.toArray = putRowK encI1 1 w g 0 d.toArray := by
  unfold putRowK putRow
  rw [flatK_one]
  congr 1
  funext c
  unfold putCells
  apply Array.ext_getElem?
  intro i
  rw [Array.getElem?_mapIdx, Array.getElem?_mapIdx]
  cases c[i]? with
  | none => rfl
  | some x =>
    simp only [Option.map_some, Nat.zero_le, Nat.zero_add, true_and, Array.size_map, Nat.sub_zero, id]
    by_cases hi : i < d.toArray.size
    · rw [if_pos hi, if_pos hi, getElem!_pos d.toArray i hi, getElem!_pos (d.toArray.map (Value.int .i64)) i (by simpa using hi)]
      simp
    · rw [if_neg hi, if_neg hi]
theorem own_cut {w : World} {B sz n m g cap : Nat} {T : TypeId} {xs : List Value} (h : w.ownsRow B T sz (.slice (some ⟨g, 0, none⟩) n cap) n xs) (hm : m ≤ n) : w.ownsRow B T sz (.slice (some ⟨g, 0, none⟩) m cap) m (xs.take (m * sz)) := by
  rcases h.2 with ⟨h1, _⟩ | ⟨g', cap', cur, h1, h2, h3, h4, h5, h6, h7⟩
  · cases h1
  · cases h1
    have hms : m * sz ≤ n * sz := Nat.mul_le_mul_right _ hm
    refine ⟨by rw [List.length_take, h.1]; omega, .inr ⟨g, cap, cur, rfl, h2, h3, by omega, h5, h6, ?_⟩⟩
    rw [← h7, List.take_take]
    congr 1
    omega
/-- A run of rising numbers, each once. -/
theorem compact_asc {zs : List Int} (hz : zs.Pairwise (· ≤ ·)) : ∀ m, m ≤ zs.length → (compactUpTo zs.toArray m).Pairwise (· < ·) ∧ (∀ x, x ∈ compactUpTo zs.toArray m ↔ ∃ j, j < m ∧ zs[j]? = some x) ∧ ∀ x ∈ compactUpTo zs.toArray m, ∀ j y, m ≤ j + 1 → zs[j]? = some y → x ≤ y := by
  intro m
  induction m with
  | zero =>
    intro _
    have : compactUpTo zs.toArray 0 = [] := rfl
    rw [this]
    exact ⟨List.Pairwise.nil, fun x => by simp, fun x hx => by cases hx⟩
  | succ m ih =>
    intro hm
    obtain ⟨i1, i2, i3⟩ := ih (by omega)
    have hml : m < zs.length := by omega
    have hgm : zs.toArray[m]! = zs[m] := by rw [getElem!_pos zs.toArray m (by simpa using hml)]; simp
    have hzm : zs[m]? = some zs[m] := List.getElem?_eq_getElem hml
    have hle : ∀ i j (hi : i < zs.length) (hj : j < zs.length), i ≤ j → zs[i] ≤ zs[j] := fun i j hi hj hij => by
      rcases Nat.lt_or_ge i j with h | h
      · exact List.pairwise_iff_getElem.1 hz i j hi hj h
      · have : i = j := by omega
        subst this
        exact Int.le_refl _
    rw [compactUpTo_succ, hgm]
    by_cases hk : keeps zs.toArray m = true
    · rw [if_pos hk]
      have hlt : ∀ x ∈ compactUpTo zs.toArray m, x < zs[m] := by
        intro x hx
        obtain ⟨j, hj, hjx⟩ := (i2 x).1 hx
        unfold keeps at hk
        rw [decide_eq_true_iff] at hk
        rcases hk with h0 | hne
        · omega
        · have hm1 : m - 1 < zs.length := by omega
          rw [hgm, getElem!_pos zs.toArray (m - 1) (by simpa using hm1)] at hne
          have e1 : zs.toArray[m - 1]'(by simpa using hm1) = zs[m - 1] := by simp
          rw [e1] at hne
          have h1 := hle (m - 1) m hm1 hml (by omega)
          have h2 := i3 x hx (m - 1) _ (by omega) (List.getElem?_eq_getElem hm1)
          omega
      refine ⟨?_, fun x => ?_, fun x hx j y hj hy => ?_⟩
      · rw [List.pairwise_append]
        exact ⟨i1, List.pairwise_singleton _ _, fun a ha b hb => by rw [List.mem_singleton.1 hb]; exact hlt a ha⟩
      · rw [List.mem_append, i2, List.mem_singleton]
        constructor
        · rintro (⟨j, hj, hjx⟩ | rfl)
          · exact ⟨j, by omega, hjx⟩
          · exact ⟨m, by omega, hzm⟩
        · rintro ⟨j, hj, hjx⟩
          by_cases hjm : j = m
          · subst hjm; right; rw [hzm] at hjx; injection hjx with hjx; exact hjx.symm
          · exact .inl ⟨j, by omega, hjx⟩
      · obtain ⟨hjl, rfl⟩ := List.getElem?_eq_some_iff.1 hy
        have := hle m j hml hjl (by omega)
        rcases List.mem_append.1 hx with hx | hx
        · have := hlt x hx; omega
        · rw [List.mem_singleton.1 hx]; omega
    · rw [if_neg hk, List.append_nil]
      have hk' : ¬ (m = 0 ∨ zs.toArray[m]! ≠ zs.toArray[m - 1]!) := by
        intro h
        apply hk
        unfold keeps
        exact decide_eq_true h
      have hm0 : m ≠ 0 := fun h => hk' (.inl h)
      have hm1 : m - 1 < zs.length := by omega
      have heq : zs[m] = zs[m - 1] := by
        have h1 : zs.toArray[m]! = zs.toArray[m - 1]! := by
          by_cases h : zs.toArray[m]! = zs.toArray[m - 1]!
          · exact h
          · exact absurd (.inr h) hk'
        rw [hgm, getElem!_pos zs.toArray (m - 1) (by simpa using hm1)] at h1
        rw [h1]
        simp
      refine ⟨i1, fun x => ?_, fun x hx j y hj hy => i3 x hx j y (by omega) hy⟩
      rw [i2]
      constructor
      · rintro ⟨j, hj, hjx⟩
        exact ⟨j, by omega, hjx⟩
      · rintro ⟨j, hj, hjx⟩
        by_cases hjm : j = m
        · subst hjm
          rw [hzm, heq] at hjx
          exact ⟨j - 1, by omega, by rw [List.getElem?_eq_getElem hm1]; exact hjx⟩
        · exact ⟨j, by omega, hjx⟩
def sortedI (l : List Int) : List Int := l.mergeSort fun x y => decide (x ≤ y)
theorem sortedI_asc (l : List Int) : (sortedI l).Pairwise (· ≤ ·) := by
  have := List.pairwise_mergeSort (le := fun x y : Int => decide (x ≤ y)) (fun a b c h1 h2 => by simp at *; omega) (fun a b => by simp; omega) l
  exact this.imp fun h => by simpa using h
theorem sortedI_perm {l m : List Int} (h : l.Perm m) : sortedI l = sortedI m :=
  List.Perm.eq_of_pairwise (le := fun a b : Int => a ≤ b) (fun a b _ _ h1 h2 => by omega) (sortedI_asc l) (sortedI_asc m) (((List.mergeSort_perm l _).trans h).trans (List.mergeSort_perm m _).symm)
/-- All frames that something has, rising. -/
def framesR (rs : List Rw) : List Int := compactUpTo (sortedI (rs.map Rw.f)).toArray rs.length
theorem framesR_spec (rs : List Rw) : (framesR rs).Pairwise (· < ·) ∧ ∀ x, x ∈ framesR rs ↔ ∃ r ∈ rs, r.f = x := by
  have hl : (sortedI (rs.map Rw.f)).length = rs.length := by unfold sortedI; rw [List.length_mergeSort, List.length_map]
  obtain ⟨h1, h2, _⟩ := compact_asc (sortedI_asc (rs.map Rw.f)) rs.length (by omega)
  refine ⟨h1, fun x => ?_⟩
  unfold framesR
  rw [h2]
  constructor
  · rintro ⟨j, _, hj⟩
    have := (List.mergeSort_perm (rs.map Rw.f) _).mem_iff.1 (List.mem_of_getElem? hj)
    exact List.mem_map.1 this
  · rintro ⟨r, hr, rfl⟩
    have := (List.mergeSort_perm (rs.map Rw.f) (fun x y => decide (x ≤ y))).mem_iff.2 (List.mem_map_of_mem hr)
    obtain ⟨j, hj, hjr⟩ := List.mem_iff_getElem.1 this
    exact ⟨j, by rw [← hl]; exact hj, by rw [← hjr]; exact List.getElem?_eq_getElem hj⟩
theorem framesR_len (rs : List Rw) : (framesR rs).length ≤ rs.length := by
  unfold framesR compactUpTo
  rw [List.length_map]
  have := List.length_filter_le (keeps (sortedI (rs.map Rw.f)).toArray) (List.range rs.length)
  simpa using this

theorem sort_int (w : World) {B n cap : Nat} {a : Option Addr} (zs : List Int) (hO : w.ownsRow B 3 1 (.slice a n cap) n (zs.map encI1).flatten) (hn : zs.length = n) (hn2 : n ≤ 1000000) :
    Calls Try.prog 87 #[.slice a n cap] w fun e w' => e = .returned (.tuple #[]) ∧ w'.ownsRow B 3 1 (.slice a n cap) n ((sortedI zs).map encI1).flatten ∧ w.grownBy w' (Value.ownBlock (.slice a n cap)) := by
  have hl' : (sortedI zs).length = n := by unfold sortedI; rw [List.length_mergeSort, hn]
  rcases hO.2 with ⟨h1, h2⟩ | ⟨g, cap', cur, h1, h2, h3, _⟩
  · cases h1
    have hks : sortedI zs = [] := List.eq_nil_of_length_eq_zero hl'
    rw [hks]
    refine (AnyM.slices_Sort_int_none YthcdecgecabgaaasortI none 0 w).mono ?_
    rintro e w' ⟨rfl, rfl⟩
    exact ⟨rfl, World.ownsRow_nil _ _ _ _, grow_refl _ _⟩
  · cases h1
    subst hn
    have hH := own_holds (enc := encI1) (fun _ => rfl) rfl hO
    refine Calls.mono (AnyM.slices_Sort_int YthcdecgecabgaaasortI g 0 cap zs w (holds_one hH) (Array.getElem?_eq_some_iff.1 h3).1 (by omega)) ?_
    rintro e w' ⟨rfl, m, os, rfl⟩
    obtain ⟨k1, k2⟩ := own_put (m := m) (os := os) (enc := encI1) (fun _ => rfl) hl' hO
    rw [show (zs.mergeSort fun x y => decide (x ≤ y)) = sortedI zs from rfl, putRow_one]
    exact ⟨rfl, k1, k2⟩
set_option maxRecDepth 100000 in
theorem compact_nil (w : World) : Calls Try.prog 88 #[.slice none 0 0] w fun e w' => e = .returned (.slice none 0 0) ∧ w' = w := by
  go_enter Try.func88, Try.ntmps88
  go_wp2_with fail
  go_ret
  exact ⟨rfl, rfl⟩
theorem compact_int (w : World) {B n cap : Nat} {a : Option Addr} (zs : List Int) (hO : w.ownsRow B 3 1 (.slice a n cap) n (zs.map encI1).flatten) (hn : zs.length = n) (hn2 : n ≤ 1000000) :
    Calls Try.prog 88 #[.slice a n cap] w fun e w' => (∃ a' cap', e = .returned (.slice a' (compactUpTo zs.toArray n).length cap') ∧ w'.ownsRow B 3 1 (.slice a' (compactUpTo zs.toArray n).length cap') (compactUpTo zs.toArray n).length ((compactUpTo zs.toArray n).map encI1).flatten) ∧ w.grownBy w' (Value.ownBlock (.slice a n cap)) := by
  rcases hO.2 with ⟨h1, h2⟩ | ⟨g, cap', cur, h1, h2, h3, h4, _⟩
  · cases h1
    have hc : compactUpTo zs.toArray 0 = [] := rfl
    rw [hc]
    refine (compact_nil w).mono ?_
    rintro e w' ⟨rfl, rfl⟩
    exact ⟨⟨none, 0, rfl, World.ownsRow_nil _ _ _ _⟩, grow_refl _ _⟩
  · cases h1
    subst hn
    have hH := own_holds (enc := encI1) (fun _ => rfl) rfl hO
    have hcon := AnyE.slices_Compact YthcdecgecabgaaacompI (Value.int .i64) (fun _ => rfl) (EqlAt.intD _ _ _) (NeqAt.intD _ _ _) 0 (fun w => Try.zeroValue3 w) g 0 cap zs.toArray w (holds_one hH) (by simp; omega) (by simpa using h4)
    have hsz : zs.toArray.size = zs.length := by simp
    rw [hsz] at hcon
    refine Calls.mono hcon ?_
    rintro e w' ⟨rfl, q, rfl⟩
    have hcl : (compactUpTo zs.toArray zs.length).length ≤ zs.length := by
      unfold compactUpTo
      rw [List.length_map]
      have := List.length_filter_le (keeps zs.toArray) (List.range zs.length)
      simpa using this
    obtain ⟨k1, k2⟩ := own_put (m := q) (os := #[]) (d' := compactUpTo zs.toArray zs.length ++ List.replicate (zs.length - (compactUpTo zs.toArray zs.length).length) 0) (enc := encI1) (fun _ => rfl) (by rw [List.length_append, List.length_replicate]; omega) hO
    have hw : sortWorldK encI1 1 w g 0 q (compactUpTo zs.toArray zs.length ++ List.replicate (zs.length - (compactUpTo zs.toArray zs.length).length) 0).toArray #[] = putRow (Value.int .i64) (Sort.ahead w q) g 0 (compactUpTo zs.toArray zs.length ++ List.replicate (zs.length - (compactUpTo zs.toArray zs.length).length) 0).toArray := by
      unfold sortWorldK
      rw [grow_empty, putRow_one]
    rw [hw] at k1 k2
    have k3 := own_cut k1 hcl
    rw [flat_encI, List.map_append, Nat.mul_one, List.take_left' (by simp), ← flat_encI] at k3
    exact ⟨⟨_, cap, rfl, k3⟩, k2⟩

theorem el_intR : ElemAt Try.prog 36 3 (.int .i64 0) 1 8 := ⟨Try.underlying36, by kernel_rfl, rfl, by decide, by decide⟩
def FrSo (out : List Int) (seen : Array Nat) (es : List RE) : Prop := out.Perm ((sawE seen es).map fun e => e.row.f)
theorem frSo_nil (es : List RE) : FrSo [] #[] es := by unfold FrSo; rw [sawE_nil]; exact List.Perm.refl _
theorem frSo_push {out : List Int} {seen : Array Nat} {es : List RE} {x : RE} (h : FrSo out seen es) (hn : (es.map RE.born).Nodup) (hx : x ∈ es) (hs : x.born ∉ seen.toList) : FrSo (out ++ [x.row.f]) (seen.push x.born) es := by
  have hp := (sawE_push hn hx hs).map fun e => e.row.f
  rw [List.map_append] at hp
  unfold FrSo at h ⊢
  exact (h.append_right _).trans hp.symm
theorem frSo_end {out : List Int} {seen : Array Nat} {es : List RE} {rs : List Rw} (h : FrSo out seen es) (hm : MapOf es rs) (ha : AllSeen (es.map RE.ke) seen) : out.Perm (rs.map Rw.f) := by
  unfold FrSo at h
  rw [sawE_all ha] at h
  refine h.trans ?_
  have := hm.1.map Rw.f
  rw [List.map_map] at this
  exact this
theorem frSo_len {out : List Int} {seen : Array Nat} {es : List RE} (h : FrSo out seen es) : out.length ≤ es.length := by
  have h1 := h.length_eq
  rw [List.length_map] at h1
  have h3 := sawE_len seen es
  omega
theorem frames_flat (l : List Int) (k : Int) : ((l ++ [k]).map encI1).flatten = (l.map encI1).flatten ++ [.int .i64 k] := by simp [encI1]

set_option maxRecDepth 100000 in
set_option maxHeartbeats 4000000 in
theorem rmap_Frames (w : World) {B hb mb : Nat} {rs : List Rw} (hO : RmOn w B hb mb rs) (hlen : rs.length ≤ 100000) :
    Calls Try.prog 42 #[.pointer (some ⟨hb, 0, none⟩)] w fun e w' => Ext w w' ∧ ∃ a cap, e = .returned (.slice a (framesR rs).length cap) ∧ w'.ownsRow w.heap.size 3 1 (.slice a (framesR rs).length cap) (framesR rs).length ((framesR rs).map encI1).flatten := by
  obtain ⟨y0, hwl⟩ := hO.hcell
  obtain ⟨es, clock, hAt, hMp⟩ := hO
  have hlen2 : es.length ≤ 100000 := by have := hMp.len; omega
  have HAt := Lib.hid hAt
  have HMp := Lib.hid hMp
  have HBn := Lib.hid hAt.borns
  have HFr := Lib.hid hAt.fresh
  clear hAt hMp
  go_enter Try.func42, Try.ntmps42
  go_wp2_with (at_range; refine wpList_range2 rfl _ _ 57 3 rfl Try.underlying163 mb _ clock rfl HAt.out.map ?_)
  go_frame
  have HR := Lib.hid (heap_alloc_new w (.mapIter (some mb) clock #[] clock))
  have HA1 := Lib.hid (HAt.out.ext ((Ext.refl w).alloc (.mapIter (some mb) clock #[] clock)))
  have HE1 := Lib.hid ((Ext.refl w).alloc (.mapIter (some mb) clock #[] clock))
  have hwr : w.heap.size ≤ w.heap.size := Nat.le_refl _
  generalize w.alloc (.mapIter (some mb) clock #[] clock) = W1 at *
  generalize hrw : w.heap.size = r at hwr HR hwl ⊢
  have HRW := Lib.hid hrw
  clear hrw y0
  go_loopw [3, 5] (fun o _ wr => ∃ (seen : Array Nat) (out : List Int), Ext w wr ∧ Hid (wr.heap[r]? = some (.mapIter (some mb) clock seen clock)) ∧ Hid (RmAt wr B hb mb es clock) ∧ Hid (FrSo out seen es) ∧ Hid (wr.ownsRow w.heap.size 3 1 o out.length (out.map encI1).flatten)) (fun _ _ wr => match wr.heap[r]? with
    | some (.mapIter _ _ seen _) => leftE seen es
    | _ => 0)
  case atStart => exact ⟨#[], [], HE1.out, HR, HA1, Lib.hid (frSo_nil es), World.ownsRow_nil _ _ _ _⟩
  case round =>
    obtain ⟨seen, out, hEr, HRr, HAr, HKr, HOr⟩ := hrel
    have HEr := Lib.hid hEr
    have HMr := Lib.hid HAr.out.map
    clear hEr
    go_wp2_with (at_next; refine wpList_next2 rfl _ rfl r mb clock seen (es.map RE.ke) clock rfl HRr.out HMr.out HFr.out (Nat.le_refl _) ?_ ?_)
    · intro hall
      have hp := frSo_end HKr.out HMp.out hall
      have hol : out.length = rs.length := by have := hp.length_eq; rwa [List.length_map] at this
      obtain ⟨a, cap, rfl⟩ := own_form HOr.out
      have HOx := Lib.hid (show wr.ownsRow w.heap.size 3 1 (.slice a out.length cap) out.length (out.map encI1).flatten from HOr.out)
      have hl3 := frSo_len HKr.out
      have HSo := Lib.hid (fun w' hO => sort_int w' (B := w.heap.size) (n := out.length) (cap := cap) (a := a) out hO rfl (by omega))
      have hsp := sortedI_perm hp
      rw [hsp] at HSo
      have hsl : (sortedI (rs.map Rw.f)).length = out.length := by unfold sortedI; rw [List.length_mergeSort, List.length_map, hol]
      have HCo := Lib.hid (fun w' hO => compact_int w' (B := w.heap.size) (n := out.length) (cap := cap) (a := a) (sortedI (rs.map Rw.f)) hO hsl (by omega))
      have hfr : compactUpTo (sortedI (rs.map Rw.f)).toArray out.length = framesR rs := by unfold framesR; rw [hol]
      rw [hfr] at HCo
      have HOwb := Lib.hid (fun k (e : Value.ownBlock (.slice a out.length cap) = some k) => (World.ownsRow.lt HOx.out k e).1)
      clear hall hp hol HOr hsp hsl hfr
      generalize sortedI (rs.map Rw.f) = S at *
      go_wp2_with fail
      refine (HSo.out _ HOx.out).mono ?_
      rintro e w' ⟨rfl, hO', hg'⟩
      have HE' := Lib.hid (show Ext w w' from .of (grow_row HEr.out.grow HOx.out hg'))
      have HO' := Lib.hid hO'
      clear hO' hg'
      go_wp2_with fail
      refine (HCo.out _ HO'.out).mono ?_
      rintro e w2 ⟨⟨a', cap', rfl, hO2⟩, hg2⟩
      have HE2 := Lib.hid (show Ext w w2 from .of (grow_row HE'.out.grow HO'.out hg2))
      have HO2 := Lib.hid hO2
      clear hO2 hg2
      go_wp2_with fail
      go_ret
      exact ⟨HE2.out, a', cap', rfl, HO2.out⟩
    · intro x W2 hcm
      obtain ⟨hx, hnx, hR2, hoth, hgrow, hen0⟩ := hcm
      obtain ⟨e, he, rfl⟩ := List.mem_map.1 hx
      have HK2 := Lib.hid (frSo_push HKr.out HBn.out he hnx)
      have hms := leftE_push he (show e.born ∉ seen.toList from hnx)
      have HMs := Lib.hid hms
      have HR2 := Lib.hid (show W2.heap[r]? = some (.mapIter (some mb) clock (seen.push e.born) clock) from hR2)
      have HE2 := Lib.hid (show Ext w W2 from ext_grow HEr.out hgrow (by rw [HRW.out]; exact Nat.le_refl _))
      have HO2 := Lib.hid (own_iter HRr.out hoth HOr.out)
      have hl3 := frSo_len HKr.out
      clear hx hnx hoth hR2 hgrow HAr HKr HEr HOr hms he HMr
      unfold RE.ke at hen0
      dsimp only at hen0
      obtain ⟨⟨s, p, f⟩, born⟩ := e
      dsimp only at hen0 HMs HR2 HK2
      go_wp2_with ((at_builtin; refine wpList_append_new w el_intR rfl _ _ rfl u3 out.length _ rfl (by repeat (first | exact HO2.out | apply own_more | apply own_alloc | apply own_drew | apply own_drewN)) (by repeat (first | exact HE2.out | apply Ext.more | apply Ext.alloc | apply Ext.drew | apply Ext.drewN)) _ _ 1 _ rfl (by simp) rfl rfl (by omega) ?_); intro v' x' HO' keep; have HR3 := Lib.hid (keep r _ ((by repeat (first | (with_reducible exact HR2.out) | (with_reducible apply box_more) | (with_reducible apply box_alloc) | (with_reducible apply box_drew) | (with_reducible apply box_drewN)))) (by intro e_; have h_ := HO2.out; rcases h_.2 with ⟨q1, _⟩ | ⟨g_, _, _, q1, _, q3, _⟩ <;> subst q1 <;> cases e_; rw [HR2.out] at q3; cases q3)); clear keep)
      go_roundw
      case rel => exact ⟨seen.push born, out ++ [f], (by repeat (first | exact Ext.refl _ | apply Ext.more | apply Ext.alloc | apply Ext.drew | apply Ext.drewN)), HR3, HAt.out.ext (by repeat (first | exact Ext.refl _ | apply Ext.more | apply Ext.alloc | apply Ext.drew | apply Ext.drewN)), HK2, by
        show World.ownsRow _ _ _ _ _ _ _
        rw [frames_flat, List.length_append]
        exact HO'.out⟩
      case measure =>
        rw [HR3.out, HRr.out]
        exact HMs.out

end Go.Proofs.Ythcdecgecabgaaa
