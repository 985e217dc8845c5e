/- slices.SortFunc over a row of the call's own: pages of spaces by rmap.compare; a space's pages by the page. -/
import Derived.Test.YthcdecgecabgaaaRms
namespace Go.Proofs.Ythcdecgecabgaaa
open Go.RowKit
open Go.Lib Go.Sort
set_option linter.unusedVariables false
set_option linter.unusedSimpArgs false
attribute [local go_sem] setCell_drewN alloc_drewN lt_moreE le_moreE lt_moreK le_moreK cell_more frozen_more set_more drew_more drewN_more

theorem flatK_list {α : Type} [Inhabited α] (enc : α → List Value) (k : Nat) (hk : ∀ x, (enc x).length = k) (d : List α) : (flatK enc k d.toArray).toList = (d.map enc).flatten := by
  have hlen : ∀ d : List α, ((d.map enc).flatten).length = d.length * k := by
    intro d
    induction d with
    | nil => simp
    | cons x d ih => rw [List.map_cons, List.flatten_cons, List.length_append, ih, hk, List.length_cons, Nat.add_mul]; omega
  apply List.ext_getElem?
  intro i
  by_cases hi : i < d.length * k
  · have hk0 : 0 < k := by
      rcases Nat.eq_zero_or_pos k with h | h
      · subst h; simp at hi
      · exact h
    have hq : i / k < d.length := (Nat.div_lt_iff_lt_mul hk0).2 hi
    have hr : i % k < k := Nat.mod_lt _ hk0
    have h1 : (flatK enc k d.toArray).toList[i]? = some ((enc d[i / k])[i % k]'(by rw [hk]; exact hr)) := by
      have h2 := get_flatK enc k d.toArray i (by simpa using hi)
      have h3 : i < (flatK enc k d.toArray).size := by simpa using hi
      rw [Array.getElem?_toList, Array.getElem?_eq_getElem h3]
      rw [getElem!_pos (flatK enc k d.toArray) i h3] at h2
      rw [h2]
      congr 1
      have h4 : d.toArray[i / k]! = d[i / k] := by rw [getElem!_pos d.toArray (i / k) (by simpa using hq)]; simp
      rw [h4, getElem!_pos]
    rw [h1]
    have h5 := flatten_at k (d.map enc) (i / k) (i % k) (enc d[i / k]) ((enc d[i / k])[i % k]'(by rw [hk]; exact hr)) (fun c hc => by obtain ⟨x, _, rfl⟩ := List.mem_map.1 hc; exact hk x) (by simp [hq]) (by simp)
    rw [show i / k * k + i % k = i from Nat.div_add_mod' i k] at h5
    exact h5.symm
  · rw [List.getElem?_eq_none (by simpa using Nat.le_of_not_lt hi), List.getElem?_eq_none (by rw [hlen]; exact Nat.le_of_not_lt hi)]
theorem own_holds {w : World} {B sz n g cap : Nat} {T : TypeId} {α : Type} [Inhabited α] {enc : α → List Value} (hk : ∀ x, (enc x).length = sz) {d : List α} (hn : d.length = n) (h : w.ownsRow B T sz (.slice (some ⟨g, 0, none⟩) n cap) n (d.map enc).flatten) : HoldsK enc sz w g 0 d.toArray := by
  rcases h.2 with ⟨h1, _⟩ | ⟨g', cap', cur, h1, h2, h3, h4, h5, h6, h7⟩
  · cases h1
  · cases h1
    rw [← flatK_list enc sz hk] at h7
    intro j hj
    rw [Nat.zero_add, cell_of_row _ _ _ _ _ _ h3]
    refine ⟨?_, frozen_of_row _ _ _ _ _ h3⟩
    have hjn : j < n * sz := by have := hj; rw [size_flatK] at this; simpa [hn] using this
    have h8 : (cur.toList.take (n * sz))[j]? = (flatK enc sz d.toArray).toList[j]? := by rw [h7]
    rw [List.getElem?_take, if_pos hjn, Array.getElem?_toList, Array.getElem?_toList] at h8
    rw [h8, Array.getElem?_eq_getElem hj, getElem!_pos (flatK enc sz d.toArray) j hj]
    rfl
theorem own_put {w : World} {B sz n g cap m : Nat} {os : Array Obj} {T : TypeId} {α : Type} [Inhabited α] {enc : α → List Value} (hk : ∀ x, (enc x).length = sz) {d d' : List α} (hn' : d'.length = n) (h : w.ownsRow B T sz (.slice (some ⟨g, 0, none⟩) n cap) n (d.map enc).flatten) :
    (sortWorldK enc sz w g 0 m d'.toArray os).ownsRow B T sz (.slice (some ⟨g, 0, none⟩) n cap) n (d'.map enc).flatten ∧ w.grownBy (sortWorldK enc sz w g 0 m d'.toArray os) (some g) := by
  rcases h.2 with ⟨h1, _⟩ | ⟨g', cap', cur, h1, h2, h3, h4, h5, h6, h7⟩
  · cases h1
  · cases h1
    have hgl := (Array.getElem?_eq_some_iff.1 h3).1
    have hfl : ((d'.map enc).flatten).length = n * sz := by
      rw [← flatK_list enc sz hk]
      simp [hn']
    have hheap : (sortWorldK enc sz w g 0 m d'.toArray os).heap = (w.heap.modify g (onCells (putCells id 0 (flatK enc sz d'.toArray)))) ++ os := rfl
    have hblk : (sortWorldK enc sz w g 0 m d'.toArray os).heap[g]? = some (.cells (putCells id 0 (flatK enc sz d'.toArray) cur) T (0, 0)) := by
      rw [hheap, Array.getElem?_append, if_pos (by simpa using hgl), Array.getElem?_modify, if_pos rfl, h3]
      rfl
    refine ⟨⟨hfl, .inr ⟨g, cap, _, rfl, h2, hblk, h4, h5, ?_, ?_⟩⟩, ?_⟩
    · unfold putCells; rw [Array.size_mapIdx]; exact h6
    · apply List.ext_getElem?
      intro i
      rw [List.getElem?_take, ← flatK_list enc sz hk]
      by_cases hi : i < n * sz
      · have hi2 : i < (flatK enc sz d'.toArray).size := by simpa [hn'] using hi
        have hi3 : i < cur.size := by rw [h6]; exact Nat.lt_of_lt_of_le hi (Nat.mul_le_mul_right _ h4)
        rw [if_pos hi, Array.getElem?_toList, Array.getElem?_toList]
        unfold putCells
        rw [Array.getElem?_mapIdx, Array.getElem?_eq_getElem hi3, Array.getElem?_eq_getElem hi2]
        simp only [Option.map_some, Nat.zero_le, Nat.zero_add, hi2, and_self, if_true, Nat.sub_zero, id]
        rw [getElem!_pos (flatK enc sz d'.toArray) i hi2]
      · rw [if_neg hi, List.getElem?_eq_none]
        simpa [hn'] using Nat.le_of_not_lt hi
    · refine ⟨rfl, rfl, rfl, by rw [hheap]; simp, fun i hi hne => ?_⟩
      rw [hheap, Array.getElem?_append, if_pos (by simpa using hi), Array.getElem?_modify, if_neg (fun e => hne (by rw [e]))]

theorem cmpLaysK (blk off size : Nat) (w : World) : CmpLays Try.prog 83 #[] encK 2 cmpK blk off size w := fun _ _ _ _ x y => rmap_compare _ x y
theorem aggWh (w : World) : (isAgg 57).run Try.prog w = .ok true w := Try.isAgg57 w
theorem szWh (w : World) : (Go.sizeOf 57).run Try.prog w = .ok 2 w := Try.sizeOf57 w
theorem encK_one (x : Int × Int) (v : Value) (hv : v ∈ encK x) : v.oneCell' = true := by
  simp [encK] at hv
  rcases hv with rfl | rfl <;> rfl
/-- The pages of spaces in a row of the call's own are sorted. -/
theorem sort_where (w : World) {B n cap : Nat} {a : Option Addr} (ks ks' : List (Int × Int)) (hs : ks.mergeSort (fun x y => !ltOf cmpK y x) = ks') (hO : w.ownsRow B 57 2 (.slice a n cap) n (ks.map encK).flatten) (hn : ks.length = n) (hn2 : n ≤ 1000000) :
    Calls Try.prog 82 #[.slice a n cap, .func (.func 83) #[] #[]] w fun e w' => e = .returned (.tuple #[]) ∧ w'.ownsRow B 57 2 (.slice a n cap) n (ks'.map encK).flatten ∧ w.grownBy w' (Value.ownBlock (.slice a n cap)) := by
  have hl' : ks'.length = n := by rw [← hs, List.length_mergeSort, hn]
  rcases hO.2 with ⟨h1, h2⟩ | ⟨g, cap', cur, h1, h2, h3, _⟩
  · cases h1
    have hks : ks' = [] := List.eq_nil_of_length_eq_zero hl'
    subst hks
    refine (AnyF.slices_SortFunc_none { YthcdecgecabgaaasortWh with } none 0 _ w).mono ?_
    rintro e w' ⟨rfl, rfl⟩
    exact ⟨rfl, World.ownsRow_nil _ _ _ _, grow_refl _ _⟩
  · cases h1
    have hH := own_holds (enc := encK) (fun _ => rfl) hn hO
    have eg : ∀ args w, (callFunc 83 args).run Try.prog w = .ok (.enter 83 args) w := enters_of Try.func83 (by kernel_rfl) rfl
    have hcon := AnyQ.slices_SortFunc_total YthcdecgecabgaaasortWh 2 aggWh szWh encK (fun _ => rfl) encK_one cmpK swoK 83 #[] g 0 cap ks.toArray w eg (cmpLaysK g 0 _ w) hH (Array.getElem?_eq_some_iff.1 h3).1 (by simp; omega) totalK
    have hsz : ks.toArray.size = n := by simpa using hn
    rw [hsz] at hcon
    refine Calls.mono hcon ?_
    rintro e w' ⟨rfl, m, os, rfl⟩
    rw [hs]
    obtain ⟨k1, k2⟩ := own_put (m := m) (os := os) (enc := encK) (fun _ => rfl) hl' hO
    exact ⟨rfl, k1, k2⟩

end Go.Proofs.Ythcdecgecabgaaa
