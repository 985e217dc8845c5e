/- The contract of rmap.Pages. -/
import Derived.Test.YthcdecgecabgaaaRmv
namespace Go.Proofs.Ythcdecgecabgaaa
open Go.RowKit
open Go.Lib Go.Sort
open Go.ChangeMaps (setBlock)
set_option linter.unusedVariables false
set_option linter.unusedSimpArgs false
attribute [local go_sem] setCell_drewN alloc_drewN lt_moreE le_moreE lt_moreK le_moreK cell_more frozen_more set_more drew_more drewN_more

/-- A page, and its frame by a function. -/
def encF (F : Int → Int) (p : Int) : List Value := [.int .i64 p, .int .i64 (F p)]
set_option maxRecDepth 100000 in
theorem rmap_byPage (F : Int → Int) (x y : Int) (W : World) : Calls Try.prog 85 #[.agg #[.int .i64 x, .int .i64 (F x)], .agg #[.int .i64 y, .int .i64 (F y)]] W fun e w' => e = .returned (.int .i64 (cmpP x y)) ∧ ∃ q os', w' = grow (W.drewN q) os' := by
  have hcon := fun W' => cmp_cmp W' x y
  unfold cmpP
  generalize Lib.compareInt x y = r at hcon ⊢
  generalize F x = fx at *
  generalize F y = fy at *
  have HC := Lib.hid hcon
  clear hcon
  go_enter Try.func85, Try.ntmps85
  go_wp2_with fail
  refine (HC.out _).mono ?_
  rintro e w' ⟨rfl, hww⟩
  rw [hww]
  clear hww w'
  go_wp2_with fail
  go_ret
  exact ⟨rfl, 0, _, by rw [alloc_eq_grow, alloc_eq_grow, grow_grow]; rfl⟩
theorem cmpLaysF (F : Int → Int) (blk off size : Nat) (w : World) : CmpLays Try.prog 85 #[] (encF F) 2 cmpP blk off size w := fun _ _ _ _ x y => rmap_byPage F x y _
theorem aggMp (w : World) : (isAgg 171).run Try.prog w = .ok true w := Try.isAgg171 w
theorem szMp (w : World) : (Go.sizeOf 171).run Try.prog w = .ok 2 w := Try.sizeOf171 w
theorem encF_one (F : Int → Int) (x : Int) (v : Value) (hv : v ∈ encF F x) : v.oneCell' = true := by
  simp [encF] at hv
  rcases hv with rfl | rfl <;> rfl
/-- A space's pages in a row of the call's own are sorted. -/
theorem sort_mapped (w : World) (F : Int → Int) {B n cap : Nat} {a : Option Addr} (ks ks' : List Int) (hs : ks.mergeSort (fun x y => !ltOf cmpP y x) = ks') (hO : w.ownsRow B 171 2 (.slice a n cap) n (ks.map (encF F)).flatten) (hn : ks.length = n) (hn2 : n ≤ 1000000) :
    Calls Try.prog 84 #[.slice a n cap, .func (.func 85) #[] #[]] w fun e w' => e = .returned (.tuple #[]) ∧ w'.ownsRow B 171 2 (.slice a n cap) n (ks'.map (encF F)).flatten ∧ w.grownBy w' (Value.ownBlock (.slice a n cap)) := by
  have hl' : ks'.length = n := by rw [← hs, List.length_mergeSort, hn]
  rcases hO.2 with ⟨h1, h2⟩ | ⟨g, cap', cur, h1, h2, h3, _⟩
  · cases h1
    have hks : ks' = [] := List.eq_nil_of_length_eq_zero hl'
    subst hks
    refine (AnyF.slices_SortFunc_none { YthcdecgecabgaaasortMp with } none 0 _ w).mono ?_
    rintro e w' ⟨rfl, rfl⟩
    exact ⟨rfl, World.ownsRow_nil _ _ _ _, grow_refl _ _⟩
  · cases h1
    have hH := own_holds (enc := encF F) (fun _ => rfl) hn hO
    have eg : ∀ args w, (callFunc 85 args).run Try.prog w = .ok (.enter 85 args) w := enters_of Try.func85 (by kernel_rfl) rfl
    have hcon := AnyQ.slices_SortFunc_total YthcdecgecabgaaasortMp 2 aggMp szMp (encF F) (fun _ => rfl) (encF_one F) cmpP swoP 85 #[] g 0 cap ks.toArray w eg (cmpLaysF F g 0 _ w) hH (Array.getElem?_eq_some_iff.1 h3).1 (by simp; omega) totalP
    have hsz : ks.toArray.size = n := by simpa using hn
    rw [hsz] at hcon
    refine Calls.mono hcon ?_
    rintro e w' ⟨rfl, m, os, rfl⟩
    rw [hs]
    obtain ⟨k1, k2⟩ := own_put (m := m) (os := os) (enc := encF F) (fun _ => rfl) hl' hO
    exact ⟨rfl, k1, k2⟩
theorem el_Mapped : ElemAt Try.prog 79 171 (.agg #[.int .i64 0, .int .i64 0]) 2 16 := ⟨Try.underlying79, by kernel_rfl, rfl, by decide, by decide⟩
/-- The pages that the loop came by: each with its frame. -/
def pgF (rs : List Rw) (s p : Int) : Int := (frameAt rs s p).getD 0
def PagesSo (out : List Int) (seen : Array Nat) (es : List RE) (s : Int) : Prop := out.Perm (((sawE seen es).filter fun e => e.row.s == s).map fun e => e.row.p)
theorem pagesSo_nil (es : List RE) (n : Int) : PagesSo [] #[] es n := by unfold PagesSo; rw [sawE_nil]; exact List.Perm.refl _
theorem pagesSo_push {out : List Int} {seen : Array Nat} {es : List RE} {n : Int} {x : RE} (h : PagesSo out seen es n) (hn : (es.map RE.born).Nodup) (hx : x ∈ es) (hs : x.born ∉ seen.toList) : (x.row.s = n → PagesSo (out ++ [x.row.p]) (seen.push x.born) es n) ∧ (x.row.s ≠ n → PagesSo out (seen.push x.born) es n) := by
  have hp := ((sawE_push hn hx hs).filter fun e => e.row.s == n).map fun e => e.row.p
  rw [List.filter_append, List.map_append] at hp
  unfold PagesSo at h ⊢
  refine ⟨fun hf => ?_, fun hf => ?_⟩
  · rw [show [x].filter (fun e => e.row.s == n) = [x] by simp [hf]] at hp
    exact (h.append_right _).trans hp.symm
  · rw [show [x].filter (fun e => e.row.s == n) = [] by simp [hf], List.map_nil, List.append_nil] at hp
    exact h.trans hp.symm
theorem pagesSo_end {out : List Int} {seen : Array Nat} {es : List RE} {rs : List Rw} {n : Int} (h : PagesSo out seen es n) (hm : MapOf es rs) (ha : AllSeen (es.map RE.ke) seen) : out.Perm ((pagesR rs n).map Prod.fst) := by
  unfold PagesSo at h
  rw [sawE_all ha] at h
  refine h.trans ?_
  unfold pagesR
  have := (hm.1.filter fun x => x.s == n).map Rw.p
  rw [List.filter_map, List.map_map] at this
  rw [List.map_map]
  exact this
theorem pagesSo_len {out : List Int} {seen : Array Nat} {es : List RE} {n : Int} (h : PagesSo out seen es n) : out.length ≤ es.length := by
  have h1 := h.length_eq
  rw [List.length_map] at h1
  have h2 := List.length_filter_le (fun e : RE => e.row.s == n) (sawE seen es)
  have h3 := sawE_len seen es
  omega
theorem pagesR_asc {rs : List Rw} (h : Asc rs) (n : Int) : ((pagesR rs n).map Prod.fst).Pairwise (· < ·) := by
  unfold pagesR
  rw [List.map_map, List.pairwise_map]
  have h2 := h.filter (p := fun x => x.s == n)
  rw [List.pairwise_iff_forall_sublist] at h2 ⊢
  intro a b hab
  have hm := hab.subset
  have ha := (List.mem_filter.1 (hm (by simp : a ∈ [a, b]))).2
  have hb := (List.mem_filter.1 (hm (by simp : b ∈ [a, b]))).2
  have := h2 hab
  unfold ltK Rw.key at this
  simp at ha hb this
  show a.p < b.p
  omega
theorem pagesR_enc {rs : List Rw} (h : Asc rs) (n : Int) : (((pagesR rs n).map Prod.fst).map (encF (pgF rs n))) = (pagesR rs n).map encK := by
  rw [List.map_map]
  apply List.map_congr_left
  rintro ⟨p, f⟩ hp
  unfold pagesR at hp
  obtain ⟨x, hx, he⟩ := List.mem_map.1 hp
  obtain ⟨h1, h2⟩ := List.mem_filter.1 hx
  obtain ⟨rfl, rfl⟩ := Prod.mk.inj he
  have h3 := frameAt_mem h h1
  have h4 : x.s = n := by simpa using h2
  show encF (pgF rs n) x.p = encK (x.p, x.f)
  unfold encF encK pgF
  rw [← h4, h3]
  rfl
theorem pagesR_len (rs : List Rw) (n : Int) : (pagesR rs n).length ≤ rs.length := by
  unfold pagesR
  rw [List.length_map]
  exact List.length_filter_le _ _
theorem pages_flat (F : Int → Int) (l : List Int) (k : Int) : ((l ++ [k]).map (encF F)).flatten = (l.map (encF F)).flatten ++ encF F k := by simp

set_option maxRecDepth 100000 in
set_option maxHeartbeats 4000000 in
theorem rmap_Pages (w : World) {B hb mb : Nat} {rs : List Rw} (hO : RmOn w B hb mb rs) (hlen : rs.length ≤ 100000) (n : Int) :
    Calls Try.prog 39 #[.pointer (some ⟨hb, 0, none⟩), .int .i64 n] w fun e w' => Ext w w' ∧ ∃ a cap, e = .returned (.slice a (pagesR rs n).length cap) ∧ w'.ownsRow w.heap.size 171 2 (.slice a (pagesR rs n).length cap) (pagesR rs n).length ((pagesR rs n).map encK).flatten := by
  obtain ⟨y0, hwl⟩ := hO.hcell
  obtain ⟨es, clock, hAt, hMp⟩ := hO
  have hlen2 : es.length ≤ 100000 := by have := hMp.len; omega
  have HAt := Lib.hid hAt
  have HMp := Lib.hid hMp
  have HBn := Lib.hid hAt.borns
  have HFr := Lib.hid hAt.fresh
  have HPg := Lib.hid (fun (e : RE) (he : e ∈ es) (hs : e.row.s = n) => (by
    have := frameAt_mem hMp.2 (hMp.mem.2 ⟨e, he, rfl⟩)
    unfold pgF
    rw [← hs, this]
    rfl : pgF rs n e.row.p = e.row.f))
  have HEn := Lib.hid (pagesR_enc hMp.2 n)
  generalize pgF rs n = F at *
  clear hAt hMp
  go_enter Try.func39, Try.ntmps39
  go_wp2_with (at_range; refine wpList_range2 rfl _ _ 57 3 rfl Try.underlying163 mb _ clock rfl HAt.out.map ?_)
  go_frame
  have HR := Lib.hid (heap_alloc_new w (.mapIter (some mb) clock #[] clock))
  have HA1 := Lib.hid (HAt.out.ext ((Ext.refl w).alloc (.mapIter (some mb) clock #[] clock)))
  have HE1 := Lib.hid ((Ext.refl w).alloc (.mapIter (some mb) clock #[] clock))
  have hwr : w.heap.size ≤ w.heap.size := Nat.le_refl _
  generalize w.alloc (.mapIter (some mb) clock #[] clock) = W1 at *
  generalize hrw : w.heap.size = r at hwr HR hwl ⊢
  have HRW := Lib.hid hrw
  clear hrw y0
  go_loopw [5, 6, 7] (fun o _ _ wr => ∃ (seen : Array Nat) (out : List Int), Ext w wr ∧ Hid (wr.heap[r]? = some (.mapIter (some mb) clock seen clock)) ∧ Hid (RmAt wr B hb mb es clock) ∧ Hid (PagesSo out seen es n) ∧ Hid (wr.ownsRow w.heap.size 171 2 o out.length (out.map (encF F)).flatten)) (fun _ _ _ wr => match wr.heap[r]? with
    | some (.mapIter _ _ seen _) => leftE seen es
    | _ => 0)
  case atStart => exact ⟨#[], [], HE1.out, HR, HA1, Lib.hid (pagesSo_nil es n), World.ownsRow_nil _ _ _ _⟩
  case round =>
    obtain ⟨seen, out, hEr, HRr, HAr, HKr, HOr⟩ := hrel
    have HEr := Lib.hid hEr
    have HMr := Lib.hid HAr.out.map
    clear hEr
    go_wp2_with (at_next; refine wpList_next2 rfl _ rfl r mb clock seen (es.map RE.ke) clock rfl HRr.out HMr.out HFr.out (Nat.le_refl _) ?_ ?_)
    · intro hall
      have hp := pagesSo_end HKr.out HMp.out hall
      have hs := sortP hp (pagesR_asc HMp.out.2 n)
      have hol : out.length = (pagesR rs n).length := by have := hp.length_eq; rwa [List.length_map] at this
      obtain ⟨a, cap, rfl⟩ := own_form HOr.out
      have HOx := Lib.hid (show wr.ownsRow w.heap.size 171 2 (.slice a out.length cap) out.length (out.map (encF F)).flatten from HOr.out)
      have hl3 := pagesSo_len HKr.out
      have HSo := Lib.hid (fun w' hO => sort_mapped w' F (B := w.heap.size) (n := out.length) (cap := cap) (a := a) out _ hs hO rfl (by omega))
      have HOl := Lib.hid hol
      clear hall hp hs hol HOr
      go_wp2_with fail
      refine (HSo.out _ HOx.out).mono ?_
      rintro e w' ⟨rfl, hO', hg'⟩
      rw [HEn.out] at hO'
      have HE' := Lib.hid (show Ext w w' from .of (grow_row HEr.out.grow HOx.out hg'))
      have HO' := Lib.hid hO'
      clear hO' hg'
      go_wp2_with fail
      go_ret
      refine ⟨HE'.out, a, cap, by rw [← HOl.out]; rfl, ?_⟩
      have := HO'.out
      rw [HOl.out] at this
      exact this
    · intro x W2 hcm
      obtain ⟨hx, hnx, hR2, hoth, hgrow, hen0⟩ := hcm
      obtain ⟨e, he, rfl⟩ := List.mem_map.1 hx
      have hkp := pagesSo_push HKr.out HBn.out he hnx
      have hms := leftE_push he (show e.born ∉ seen.toList from hnx)
      have HMs := Lib.hid hms
      have HR2 := Lib.hid (show W2.heap[r]? = some (.mapIter (some mb) clock (seen.push e.born) clock) from hR2)
      have HE2 := Lib.hid (show Ext w W2 from ext_grow HEr.out hgrow (by rw [HRW.out]; exact Nat.le_refl _))
      have HO2 := Lib.hid (own_iter HRr.out hoth HOr.out)
      have HKp := Lib.hid hkp
      have HPe := Lib.hid (HPg.out e he)
      have hl3 := pagesSo_len HKr.out
      clear hx hnx hoth hR2 hgrow HAr HKr HEr HOr hkp hms he HMr
      unfold RE.ke at hen0
      dsimp only at hen0
      obtain ⟨⟨s, p, f⟩, born⟩ := e
      dsimp only at hen0 HMs HR2 HKp HPe
      by_cases hf : s = n
      · have heq : (s == n) = true := by simpa using hf
        have HK2 := Lib.hid (HKp.out.1 hf)
        have HP2 := Lib.hid (HPe.out hf)
        clear hf HKp HPe
        go_wp2_with ((at_builtin; refine wpList_append_new w el_Mapped rfl _ _ rfl u5 out.length _ rfl (by repeat (first | exact HO2.out | apply own_more | apply own_alloc | apply own_drew | apply own_drewN)) (by repeat (first | exact HE2.out | apply Ext.more | apply Ext.alloc | apply Ext.drew | apply Ext.drewN)) _ _ 1 _ rfl (by simp) rfl rfl (by omega) ?_); intro v' x' HO' keep; have HR3 := Lib.hid (keep r _ ((by repeat (first | (with_reducible exact HR2.out) | (with_reducible apply box_more) | (with_reducible apply box_alloc) | (with_reducible apply box_drew) | (with_reducible apply box_drewN)))) (by intro e_; have h_ := HO2.out; rcases h_.2 with ⟨q1, _⟩ | ⟨g_, _, _, q1, _, q3, _⟩ <;> subst q1 <;> cases e_; rw [HR2.out] at q3; cases q3)); clear keep)
        go_roundw
        case rel => exact ⟨seen.push born, out ++ [p], (by repeat (first | exact Ext.refl _ | apply Ext.more | apply Ext.alloc | apply Ext.drew | apply Ext.drewN)), HR3, HAt.out.ext (by repeat (first | exact Ext.refl _ | apply Ext.more | apply Ext.alloc | apply Ext.drew | apply Ext.drewN)), HK2, by
          show World.ownsRow _ _ _ _ _ _ _
          rw [pages_flat, List.length_append]
          unfold encF
          rw [HP2.out]
          exact HO'.out⟩
        case measure =>
          rw [HR3.out, HRr.out]
          exact HMs.out
      · have heq : (s == n) = false := by simpa using hf
        have HK2 := Lib.hid (HKp.out.2 hf)
        clear hf HKp
        go_wp2_with fail
        go_roundw
        case rel => exact ⟨seen.push born, out, (by repeat (first | exact HE2.out | apply Ext.more | apply Ext.alloc | apply Ext.drew | apply Ext.drewN)), show _ = _ from (by repeat (first | (with_reducible exact HR2.out) | (with_reducible apply box_more) | (with_reducible apply box_alloc) | (with_reducible apply box_drew) | (with_reducible apply box_drewN))), HAt.out.ext (by repeat (first | exact HE2.out | apply Ext.more | apply Ext.alloc | apply Ext.drew | apply Ext.drewN)), HK2, (by repeat (first | exact HO2.out | apply own_more | apply own_alloc | apply own_drew | apply own_drewN))⟩
        case measure =>
          rw [show (W2.alloc (Obj.cells #[Value.int IntKind.i64 s, Value.int IntKind.i64 p] 57)).heap[r]? = some (.mapIter (some mb) clock (seen.push born) clock) from (by repeat (first | (with_reducible exact HR2.out) | (with_reducible apply box_more) | (with_reducible apply box_alloc) | (with_reducible apply box_drew) | (with_reducible apply box_drewN))), HRr.out]
          exact HMs.out

end Go.Proofs.Ythcdecgecabgaaa
