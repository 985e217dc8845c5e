/- The contracts of rmap.Of and rmap.Count. -/
import Derived.Test.YthcdecgecabgaaaRmt
namespace Go.Proofs.Ythcdecgecabgaaa
open Go.RowKit
open Go.ChangeMaps (setBlock)
set_option linter.unusedVariables false
set_option linter.unusedSimpArgs false
attribute [local go_sem] setCell_drewN alloc_drewN lt_moreE le_moreE lt_moreK le_moreK cell_more frozen_more set_more drew_more drewN_more

/-- The entries that a loop came by, and how many are left. -/
def sawE (seen : Array Nat) (es : List RE) : List RE := es.filter fun e => decide (e.born ∈ seen.toList)
def leftE (seen : Array Nat) (es : List RE) : Nat := (es.filter fun e => decide (e.born ∉ seen.toList)).length
theorem sawE_nil (es : List RE) : sawE #[] es = [] := by
  unfold sawE
  rw [List.filter_eq_nil_iff]
  intro e _
  simp
theorem sawE_push {seen : Array Nat} : ∀ {es : List RE} {x : RE}, (es.map RE.born).Nodup → x ∈ es → x.born ∉ seen.toList → (sawE (seen.push x.born) es).Perm (sawE seen es ++ [x]) := by
  intro es
  induction es with
  | nil => intro x _ hx; cases hx
  | cons y es ih =>
    intro x hn hx hs
    obtain ⟨h1, h2⟩ := List.nodup_cons.1 hn
    unfold sawE at ih ⊢
    rw [List.filter_cons, List.filter_cons]
    rcases List.mem_cons.1 hx with rfl | hx'
    · rw [if_pos (by simp), if_neg (by simpa using hs)]
      have : (es.filter fun e => decide (e.born ∈ (seen.push x.born).toList)) = es.filter fun e => decide (e.born ∈ seen.toList) := by
        apply List.filter_congr
        intro e he
        have hne : e.born ≠ x.born := fun hh => h1 (List.mem_map.2 ⟨e, he, hh⟩)
        simp [hne]
      rw [this]
      exact (List.perm_append_singleton _ _).symm
    · have hne : y.born ≠ x.born := fun hh => h1 (List.mem_map.2 ⟨x, hx', hh.symm⟩)
      have h3 := ih h2 hx' hs
      by_cases hy : y.born ∈ seen.toList
      · rw [if_pos (by simpa using Or.inl (by simpa using hy)), if_pos (by simpa using hy)]
        exact h3.cons y
      · rw [if_neg (by simp [hne]; simpa using hy), if_neg (by simpa using hy)]
        exact h3
theorem leftE_push {seen : Array Nat} {es : List RE} {x : RE} (hx : x ∈ es) (hs : x.born ∉ seen.toList) : leftE (seen.push x.born) es < leftE seen es := by
  unfold leftE
  have hle : ∀ l : List RE, (l.filter fun y => decide (y.born ∉ (seen.push x.born).toList)).length ≤ (l.filter fun y => decide (y.born ∉ seen.toList)).length := by
    intro l
    induction l with
    | nil => simp
    | cons y l ihl =>
      simp only [List.filter_cons]
      by_cases h1 : y.born ∈ seen.toList
      · rw [if_neg (by simp; intro hh; exact absurd (by simpa using h1) hh), if_neg (by simpa using h1)]; exact ihl
      · rw [if_pos (c := decide (y.born ∉ seen.toList) = true) (decide_eq_true h1)]
        split
        · simp only [List.length_cons]; omega
        · simp only [List.length_cons]; omega
  induction es with
  | nil => cases hx
  | cons y es ih =>
    simp only [List.filter_cons]
    rcases List.mem_cons.1 hx with e | hx
    · rw [if_neg (by rw [← e]; simp), if_pos (decide_eq_true (by rw [← e]; exact hs))]
      have := hle es
      simp only [List.length_cons]
      omega
    · have := ih hx
      by_cases h1 : y.born ∈ seen.toList
      · rw [if_neg (by simp; intro hh; exact absurd (by simpa using h1) hh), if_neg (by simpa using h1)]; exact this
      · rw [if_pos (c := decide (y.born ∉ seen.toList) = true) (decide_eq_true h1)]
        split
        · simp only [List.length_cons]; omega
        · simp only [List.length_cons]; omega
theorem sawE_all {seen : Array Nat} {es : List RE} (h : AllSeen (es.map RE.ke) seen) : sawE seen es = es := by
  unfold sawE
  rw [List.filter_eq_self]
  intro e he
  exact decide_eq_true (h e.ke (List.mem_map_of_mem he))
theorem sawE_len (seen : Array Nat) (es : List RE) : (sawE seen es).length ≤ es.length := List.length_filter_le _ _
theorem RmAt.fresh {w : World} {B hb mb clock : Nat} {es : List RE} (h : RmAt w B hb mb es clock) : Fresh2 (es.map RE.ke) clock := by
  refine ⟨fun x hx => ?_, by rw [List.map_map]; exact h.borns⟩
  obtain ⟨g, hg, rfl⟩ := List.mem_map.1 hx
  exact h.old g hg
theorem RmAt.iter {w w2 : World} {B hb mb clock r : Nat} {es : List RE} {m : Option Nat} {s c : Nat} {seen : Array Nat} (h : RmAt w B hb mb es clock) (hr : w.heap[r]? = some (.mapIter m s seen c))
    (hk : ∀ (k : Nat) (ob : Obj), w.heap[k]? = some ob → k ≠ r → w2.heap[k]? = some ob) : RmAt w2 B hb mb es clock :=
  h.kept fun q ob hq hc => hk q ob hq fun e => by
    subst e
    rw [hr] at hq
    cases hq
    rcases hc with rfl | rfl
    · have := h.hdr; rw [hr] at this; cases this
    · have := h.map; rw [hr] at this; cases this
theorem own_iter {w w2 : World} {r B sz n : Nat} {m : Option Nat} {s c : Nat} {seen : Array Nat} {T : TypeId} {v : Value} {xs : List Value} (hr : w.heap[r]? = some (.mapIter m s seen c)) (hk : ∀ (k : Nat) (ob : Obj), w.heap[k]? = some ob → k ≠ r → w2.heap[k]? = some ob) (h : w.ownsRow B T sz v n xs) : w2.ownsRow B T sz v n xs := by
  refine ⟨h.1, h.2.imp id fun ⟨g, cap, cur, a, b, c, d⟩ => ⟨g, cap, cur, a, b, hk g _ c ?_, d⟩⟩
  intro e
  subst e
  rw [hr] at c
  cases c
theorem el_Where : ElemAt Try.prog 24 57 (.agg #[.int .i64 0, .int .i64 0]) 2 16 := ⟨Try.underlying24, by kernel_rfl, rfl, by decide, by decide⟩
theorem keys_flat (l : List (Int × Int)) (k : Int × Int) : ((l ++ [k]).map encK).flatten = (l.map encK).flatten ++ encK k := by simp
theorem ofR_asc {rs : List Rw} (h : Asc rs) (n : Int) : (ofR rs n).Pairwise ltK := by
  unfold ofR
  rw [List.pairwise_map]
  exact (h.filter _)
def KeysSo (out : List (Int × Int)) (seen : Array Nat) (es : List RE) (n : Int) : Prop := out.Perm (((sawE seen es).filter fun e => e.row.f == n).map fun e => e.row.key)
theorem keysSo_nil (es : List RE) (n : Int) : KeysSo [] #[] es n := by unfold KeysSo; rw [sawE_nil]; exact List.Perm.refl _
theorem keysSo_push {out : List (Int × Int)} {seen : Array Nat} {es : List RE} {n : Int} {x : RE} (h : KeysSo out seen es n) (hn : (es.map RE.born).Nodup) (hx : x ∈ es) (hs : x.born ∉ seen.toList) : (x.row.f = n → KeysSo (out ++ [x.row.key]) (seen.push x.born) es n) ∧ (x.row.f ≠ n → KeysSo out (seen.push x.born) es n) := by
  have hp := ((sawE_push hn hx hs).filter fun e => e.row.f == n).map fun e => e.row.key
  rw [List.filter_append, List.map_append] at hp
  unfold KeysSo at h ⊢
  refine ⟨fun hf => ?_, fun hf => ?_⟩
  · rw [show [x].filter (fun e => e.row.f == n) = [x] by simp [hf]] at hp
    exact (h.append_right _).trans hp.symm
  · rw [show [x].filter (fun e => e.row.f == n) = [] by simp [hf], List.map_nil, List.append_nil] at hp
    exact h.trans hp.symm
theorem keysSo_end {out : List (Int × Int)} {seen : Array Nat} {es : List RE} {rs : List Rw} {n : Int} (h : KeysSo out seen es n) (hm : MapOf es rs) (ha : AllSeen (es.map RE.ke) seen) : out.Perm (ofR rs n) := by
  unfold KeysSo at h
  rw [sawE_all ha] at h
  refine h.trans ?_
  unfold ofR
  have := (hm.1.filter fun x => x.f == n).map Rw.key
  rw [List.filter_map, List.map_map] at this
  exact this
theorem keysSo_len {out : List (Int × Int)} {seen : Array Nat} {es : List RE} {n : Int} (h : KeysSo out seen es n) : out.length ≤ es.length := by
  have h1 := h.length_eq
  rw [List.length_map] at h1
  have h2 := List.length_filter_le (fun e : RE => e.row.f == n) (sawE seen es)
  have h3 := sawE_len seen es
  omega

set_option maxRecDepth 100000 in
set_option maxHeartbeats 4000000 in
theorem rmap_Of (w : World) {B hb mb : Nat} {rs : List Rw} (hO : RmOn w B hb mb rs) (hlen : rs.length ≤ 100000) (n : Int) :
    Calls Try.prog 38 #[.pointer (some ⟨hb, 0, none⟩), .int .i64 n] w fun e w' => Ext w w' ∧ ∃ a cap, e = .returned (.slice a (ofR rs n).length cap) ∧ w'.ownsRow w.heap.size 57 2 (.slice a (ofR rs n).length cap) (ofR rs n).length ((ofR rs n).map encK).flatten := by
  obtain ⟨y0, hwl⟩ := hO.hcell
  obtain ⟨es, clock, hAt, hMp⟩ := hO
  have hlen2 : es.length ≤ 100000 := by have := hMp.len; omega
  have HAt := Lib.hid hAt
  have HMp := Lib.hid hMp
  have HBn := Lib.hid hAt.borns
  have HFr := Lib.hid hAt.fresh
  clear hAt hMp
  go_enter Try.func38, Try.ntmps38
  go_wp2_with (at_range; refine wpList_range2 rfl _ _ 57 3 rfl Try.underlying163 mb _ clock rfl HAt.out.map ?_)
  go_frame
  have HR := Lib.hid (heap_alloc_new w (.mapIter (some mb) clock #[] clock))
  have HA1 := Lib.hid (HAt.out.ext ((Ext.refl w).alloc (.mapIter (some mb) clock #[] clock)))
  have HE1 := Lib.hid ((Ext.refl w).alloc (.mapIter (some mb) clock #[] clock))
  have hwr : w.heap.size ≤ w.heap.size := Nat.le_refl _
  generalize w.alloc (.mapIter (some mb) clock #[] clock) = W1 at *
  generalize hrw : w.heap.size = r at hwr HR hwl ⊢
  have HRW := Lib.hid hrw
  clear hrw y0
  go_loopw [5, 6, 7] (fun o _ _ wr => ∃ (seen : Array Nat) (out : List (Int × Int)), Ext w wr ∧ Hid (wr.heap[r]? = some (.mapIter (some mb) clock seen clock)) ∧ Hid (RmAt wr B hb mb es clock) ∧ Hid (KeysSo out seen es n) ∧ Hid (wr.ownsRow w.heap.size 57 2 o out.length (out.map encK).flatten)) (fun _ _ _ wr => match wr.heap[r]? with
    | some (.mapIter _ _ seen _) => leftE seen es
    | _ => 0)
  case atStart => exact ⟨#[], [], HE1.out, HR, HA1, Lib.hid (keysSo_nil es n), World.ownsRow_nil _ _ _ _⟩
  case round =>
    obtain ⟨seen, out, hEr, HRr, HAr, HKr, HOr⟩ := hrel
    have HEr := Lib.hid hEr
    have HMr := Lib.hid HAr.out.map
    clear hEr
    go_wp2_with (at_next; refine wpList_next2 rfl _ rfl r mb clock seen (es.map RE.ke) clock rfl HRr.out HMr.out HFr.out (Nat.le_refl _) ?_ ?_)
    · intro hall
      have hp := keysSo_end HKr.out HMp.out hall
      have hs := sortK hp (ofR_asc HMp.out.2 n)
      have hol : out.length = (ofR rs n).length := hp.length_eq
      obtain ⟨a, cap, rfl⟩ := own_form HOr.out
      have HOx := Lib.hid (show wr.ownsRow w.heap.size 57 2 (.slice a out.length cap) out.length (out.map encK).flatten from HOr.out)
      have hl3 := keysSo_len HKr.out
      have HSo := Lib.hid (fun w' hO => sort_where w' (B := w.heap.size) (n := out.length) (cap := cap) (a := a) out _ hs hO rfl (by omega))
      have HOl := Lib.hid hol
      have HOwb := Lib.hid (fun k (e : Value.ownBlock (.slice a out.length cap) = some k) => (World.ownsRow.lt HOx.out k e).1)
      clear hall hp hs hol HOr
      go_wp2_with fail
      refine (HSo.out _ HOx.out).mono ?_
      rintro e w' ⟨rfl, hO', hg'⟩
      have HE' := Lib.hid (show Ext w w' from .of (grow_row HEr.out.grow HOx.out hg'))
      have HO' := Lib.hid hO'
      clear hO' hg'
      go_wp2_with fail
      go_ret
      refine ⟨HE'.out, a, cap, by rw [← HOl.out]; rfl, ?_⟩
      have := HO'.out
      rw [HOl.out] at this
      exact this
    · intro x W2 hcm
      obtain ⟨hx, hnx, hR2, hoth, hgrow, hen0⟩ := hcm
      obtain ⟨e, he, rfl⟩ := List.mem_map.1 hx
      have hkp := keysSo_push HKr.out HBn.out he hnx
      have hms := leftE_push he (show e.born ∉ seen.toList from hnx)
      have HMs := Lib.hid hms
      have HR2 := Lib.hid (show W2.heap[r]? = some (.mapIter (some mb) clock (seen.push e.born) clock) from hR2)
      have HA2 := Lib.hid (HAr.out.iter HRr.out hoth)
      have HE2 := Lib.hid (show Ext w W2 from ext_grow HEr.out hgrow (by rw [HRW.out]; exact Nat.le_refl _))
      have HO2 := Lib.hid (own_iter HRr.out hoth HOr.out)
      have HKp := Lib.hid hkp
      have hl3 := keysSo_len HKr.out
      clear hx hnx hoth hR2 hgrow HAr HKr HEr HOr hkp hms he HMr
      unfold RE.ke at hen0
      dsimp only at hen0
      obtain ⟨⟨s, p, f⟩, born⟩ := e
      dsimp only at hen0 HMs HR2 HKp
      by_cases hf : f = n
      · have heq : (f == n) = true := by simpa using hf
        have HK2 := Lib.hid (HKp.out.1 hf)
        clear hf HKp
        go_wp2_with ((at_builtin; refine wpList_append_new w el_Where rfl _ _ rfl u5 out.length _ rfl (by repeat (first | exact HO2.out | apply own_more | apply own_alloc | apply own_drew | apply own_drewN)) (by repeat (first | exact HE2.out | apply Ext.more | apply Ext.alloc | apply Ext.drew | apply Ext.drewN)) _ _ 1 _ rfl (by simp) rfl rfl (by omega) ?_); intro v' x' HO' keep; have HR3 := Lib.hid (keep r _ ((by repeat (first | (with_reducible exact HR2.out) | (with_reducible apply box_more) | (with_reducible apply box_alloc) | (with_reducible apply box_drew) | (with_reducible apply box_drewN)))) (by intro e_; have h_ := HO2.out; rcases h_.2 with ⟨q1, _⟩ | ⟨g_, _, _, q1, _, q3, _⟩ <;> subst q1 <;> cases e_; rw [HR2.out] at q3; cases q3)); clear keep)
        go_roundw
        case rel => exact ⟨seen.push born, out ++ [(s, p)], (by repeat (first | exact Ext.refl _ | apply Ext.more | apply Ext.alloc | apply Ext.drew | apply Ext.drewN)), HR3, HAt.out.ext (by repeat (first | exact Ext.refl _ | apply Ext.more | apply Ext.alloc | apply Ext.drew | apply Ext.drewN)), HK2, by
          show World.ownsRow _ _ _ _ _ _ _
          rw [keys_flat, List.length_append]
          exact HO'.out⟩
        case measure =>
          rw [HR3.out, HRr.out]
          exact HMs.out
      · have heq : (f == n) = false := by simpa using hf
        have HK2 := Lib.hid (HKp.out.2 hf)
        clear hf HKp
        go_wp2_with fail
        go_roundw
        case rel => exact ⟨seen.push born, out, (by repeat (first | exact HE2.out | apply Ext.more | apply Ext.alloc | apply Ext.drew | apply Ext.drewN)), show _ = _ from (by repeat (first | (with_reducible exact HR2.out) | (with_reducible apply box_more) | (with_reducible apply box_alloc) | (with_reducible apply box_drew) | (with_reducible apply box_drewN))), HAt.out.ext (by repeat (first | exact HE2.out | apply Ext.more | apply Ext.alloc | apply Ext.drew | apply Ext.drewN)), HK2, (by repeat (first | exact HO2.out | apply own_more | apply own_alloc | apply own_drew | apply own_drewN))⟩
        case measure =>
          rw [show (W2.alloc (Obj.cells #[Value.int IntKind.i64 s, Value.int IntKind.i64 p] 57)).heap[r]? = some (.mapIter (some mb) clock (seen.push born) clock) from (by repeat (first | (with_reducible exact HR2.out) | (with_reducible apply box_more) | (with_reducible apply box_alloc) | (with_reducible apply box_drew) | (with_reducible apply box_drewN))), HRr.out]
          exact HMs.out

set_option maxRecDepth 100000 in
theorem rmap_Count (w : World) {B hb mb : Nat} {rs : List Rw} (hO : RmOn w B hb mb rs) (hlen : rs.length ≤ 100000) (n : Int) :
    Calls Try.prog 41 #[.pointer (some ⟨hb, 0, none⟩), .int .i64 n] w fun e w' => Ext w w' ∧ e = .returned (.int .i64 (ofR rs n).length) := by
  have HC := Lib.hid (rmap_Of w hO hlen n)
  clear hO
  go_enter Try.func41, Try.ntmps41
  go_wp2_with fail
  refine HC.out.mono ?_
  rintro e w' ⟨⟨x, rfl⟩, a, cap, rfl, _⟩
  go_wp2_with fail
  go_ret
  exact ⟨(by repeat (first | exact Ext.refl _ | apply Ext.more | apply Ext.alloc | apply Ext.drew | apply Ext.drewN)), rfl⟩

end Go.Proofs.Ythcdecgecabgaaa
