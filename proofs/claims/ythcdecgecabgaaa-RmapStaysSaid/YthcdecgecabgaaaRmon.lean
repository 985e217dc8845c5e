/- The law paviorlaw11.RmapOnce. -/
import Derived.Test.YthcdecgecabgaaaRmz
import Derived.Test.YthcdecgecabgaaaBeds
namespace Go.Proofs.Ythcdecgecabgaaa
open Go.RowKit
set_option linter.unusedVariables false
set_option linter.unusedSimpArgs false
attribute [local go_sem] setCell_drewN alloc_drewN lt_moreE le_moreE lt_moreK le_moreK cell_more frozen_more set_more drew_more drewN_more

/-- The pages that the first frames have. -/
def allR (rs : List Rw) (i : Nat) : List (Int × Int) := ((framesR rs).take i).flatMap (ofR rs)
theorem allR_succ {rs : List Rw} {i : Nat} {f : Int} (h : (framesR rs)[i]? = some f) : allR rs (i + 1) = allR rs i ++ ofR rs f := by
  unfold allR
  rw [take_snocR h, List.flatMap_append]
  simp
theorem ofR_nodup {rs : List Rw} (h : Asc rs) (n : Int) : (ofR rs n).Nodup := (ofR_asc h n).imp fun hh e => by rw [e] at hh; exact ltK_irrefl _ hh
theorem framesR_nodup (rs : List Rw) : (framesR rs).Nodup := (framesR_spec rs).1.imp fun h e => by omega
theorem allR_new {rs : List Rw} (h : Asc rs) {i k : Nat} {f : Int} {x : Int × Int} (hf : (framesR rs)[i]? = some f) (hx : (ofR rs f)[k]? = some x) : x ∉ allR rs i ++ (ofR rs f).take k := by
  intro hm
  rcases List.mem_append.1 hm with hm | hm
  · obtain ⟨f', hf', hx'⟩ := List.mem_flatMap.1 hm
    have h1 := ofR_frame h hx'
    have h2 := ofR_frame h (List.mem_of_getElem? hx)
    rw [h1] at h2
    injection h2 with h2
    subst h2
    obtain ⟨j, hj, hjf⟩ := List.mem_take_iff_getElem.1 hf'
    obtain ⟨hi, hif⟩ := List.getElem?_eq_some_iff.1 hf
    have hj2 : j < i := by omega
    have := List.pairwise_iff_getElem.1 (framesR_spec rs).1 j i (by omega) hi hj2
    rw [hjf, hif] at this
    omega
  · obtain ⟨j, hj, hjx⟩ := List.mem_take_iff_getElem.1 hm
    obtain ⟨hk, hkx⟩ := List.getElem?_eq_some_iff.1 hx
    have := List.pairwise_iff_getElem.1 (ofR_asc h f) j k (by omega) hk (by omega)
    rw [hjx, hkx] at this
    exact ltK_irrefl _ this
theorem ofR_some {rs : List Rw} {i : Nat} {f : Int} (hf : (framesR rs)[i]? = some f) : 0 < (ofR rs f).length := by
  obtain ⟨r, hr, rfl⟩ := ((framesR_spec rs).2 f).1 (List.mem_of_getElem? hf)
  have : r.key ∈ ofR rs r.f := List.mem_map.2 ⟨r, List.mem_filter.2 ⟨hr, by simp⟩, rfl⟩
  exact List.length_pos_of_mem this
theorem allR_nodup {rs : List Rw} (h : Asc rs) : ∀ i, i ≤ (framesR rs).length → (allR rs i).Nodup := by
  intro i
  induction i with
  | zero => intro _; exact List.Pairwise.nil
  | succ i ih =>
    intro hi
    have hz : (framesR rs)[i]? = some (framesR rs)[i] := List.getElem?_eq_getElem (by omega)
    rw [allR_succ hz, List.nodup_append]
    refine ⟨ih (by omega), ofR_nodup h _, fun a ha b hb e => ?_⟩
    subst e
    obtain ⟨k, hk, hkb⟩ := List.mem_iff_getElem.1 hb
    exact allR_new h hz (by rw [List.getElem?_eq_getElem hk, hkb]) (List.mem_append_left _ ha)
theorem allR_perm {rs : List Rw} (h : Asc rs) : (allR rs (framesR rs).length).Perm (rs.map Rw.key) := by
  rw [List.perm_ext_iff_of_nodup (allR_nodup h _ (Nat.le_refl _)) h.nodup]
  intro x
  unfold allR
  rw [List.take_length, List.mem_flatMap, List.mem_map]
  constructor
  · rintro ⟨f, _, hx⟩
    obtain ⟨r, hr, rfl⟩ := List.mem_map.1 hx
    exact ⟨r, (List.mem_filter.1 hr).1, rfl⟩
  · rintro ⟨r, hr, rfl⟩
    exact ⟨r.f, ((framesR_spec rs).2 r.f).2 ⟨r, hr, rfl⟩, List.mem_map.2 ⟨r, List.mem_filter.2 ⟨hr, by simp⟩, rfl⟩⟩
/-- How many of the pages are a space's. -/
def ofS (s : Int) (l : List (Int × Int)) : Nat := l.countP fun x => x.1 == s
theorem ofS_all {rs : List Rw} (h : Asc rs) (s : Int) : ofS s (allR rs (framesR rs).length) = (pagesR rs s).length := by
  unfold ofS pagesR
  rw [(allR_perm h).countP_eq, List.length_map, List.countP_map, List.countP_eq_length_filter]
  rfl
theorem ofS_snoc {s : Int} {l : List (Int × Int)} {q : Nat} {x : Int × Int} (h : l[q]? = some x) : ofS s (l.take (q + 1)) = ofS s (l.take q) + if x.1 = s then 1 else 0 := by
  unfold ofS
  rw [take_snocR h, List.countP_append, List.countP_singleton]
  by_cases hx : x.1 = s
  · rw [if_pos hx]; simp [hx]
  · rw [if_neg hx]; simp [hx]
theorem allR_len {rs : List Rw} (h : Asc rs) {i k : Nat} {f : Int} (hf : (framesR rs)[i]? = some f) (hk : k ≤ (ofR rs f).length) : (allR rs i ++ (ofR rs f).take k).length ≤ rs.length := by
  have h1 : (allR rs i ++ (ofR rs f).take k).Sublist (allR rs (framesR rs).length) := by
    have h2 : (allR rs i ++ (ofR rs f).take k).Sublist (allR rs (i + 1)) := by
      rw [allR_succ hf]
      exact (List.Sublist.refl _).append (List.take_sublist _ _)
    refine h2.trans ?_
    have h3 : allR rs (framesR rs).length = allR rs (i + 1) ++ ((framesR rs).drop (i + 1)).flatMap (ofR rs) := by
      unfold allR
      rw [List.take_length, ← List.flatMap_append, List.take_append_drop]
    rw [h3]
    exact List.sublist_append_left _ _
  have h4 := h1.length_le
  rw [(allR_perm h).length_eq, List.length_map] at h4
  exact h4
theorem outR_len (s p : Int) (rs : List Rw) : (outR s p rs).length ≤ rs.length := List.length_filter_le _ _
theorem ints_at {w : World} {B n cap : Nat} {T : TypeId} {a : Option Addr} {ks : List Int} (h : w.ownsRow B T 1 (.slice a n cap) n (ks.map encI1).flatten) {q : Nat} {k : Int} (hq : ks[q]? = some k) (hn : ks.length = n) :
    ∃ g, a = some ⟨g, 0, none⟩ ∧ B ≤ g ∧ g < w.heap.size ∧ w.cell? ⟨g, q, none⟩ = some (.int .i64 k) := by
  have hql := (List.getElem?_eq_some_iff.1 hq).1
  obtain ⟨g, h1, h2, h3, _, h5, _⟩ := own_at h (by omega)
  refine ⟨g, h1, h2, h3, h5 _ _ ?_⟩
  rw [flat_encI, List.getElem?_map, hq]
  rfl

set_option maxRecDepth 100000 in
set_option maxHeartbeats 8000000 in
theorem law11_RmapOnce (w : World) (l : List Deed11) (hl : ∀ d ∈ l, d.wf) (v : Value) (hv : SlRd w v 5 (l.map Deed11.cells)) (sp : Int) (_ : (Lit.int .i64 sp).wf = true) :
    Calls Try.prog 9 #[v, .int .i64 sp] w fun e w' => e = .returned (.bool true) ∧ w.grownBy w' none := by
  refine growC (R := fun e _ => e = .returned (.bool true)) ?_
  obtain ⟨la, lcap, rfl, hlc, hlx⟩ := hv.form
  rw [List.length_map] at *
  have hll : l.length ≤ 9223372036854775807 := by unfold maxLen at hlc; exact hlc
  have HLX := Lib.hid hlx
  have HWf := Lib.hid hl
  clear hv hlx hl hlc
  go_enter Try.func9, Try.ntmps9
  go_wp2_with fail
  refine (law11_up w).mono ?_
  rintro e w0 ⟨hE0, rfl⟩
  go_wp2_with fail
  refine (rmap_New w w0 hE0).mono ?_
  rintro e w1 ⟨hE1, hb, mb, rfl, hO1⟩
  have HE1 := Lib.hid (hE0.trans hE1)
  have HO1 := Lib.hid hO1
  clear hE0 hE1 hO1
  go_wp2_with fail
  go_loopw [7] (fun i wr => ∃ (q : Nat) (rs : List Rw), q ≤ l.length ∧ q ≤ 60 ∧ rs.length ≤ q ∧ i = .int .i64 q ∧ Ext w wr ∧ Hid (RmOn wr w.heap.size hb mb rs)) (fun i _ => 60 - (intOf i).toNat)
  case atStart => exact ⟨0, [], by omega, by omega, by simp, rfl, HE1.out, HO1⟩
  case round =>
    obtain ⟨q, rs, hq, hq60, hrl, rfl, hEr, HOr⟩ := hrel
    have HEr := Lib.hid hEr
    clear hEr HO1 HE1
    obtain ⟨wo, rfl⟩ : ∃ wo : World, wo = wr := ⟨_, rfl⟩
    by_cases hlt : q < l.length ∧ q < 60
    · obtain ⟨hq1, hq2⟩ := hlt
      have hz : l[q]? = some l[q] := List.getElem?_eq_getElem hq1
      obtain ⟨b, o, rfl, hb1, hc⟩ := HLX.out q l[q].cells (by rw [List.getElem?_map, hz]; rfl) (by simp [Deed11.cells])
      obtain ⟨x0, x1, _, x3, x4⟩ := deed_cells hc
      have HX := Lib.hid (And.intro x0 (And.intro x3 x4))
      have hbw : b < wo.heap.size := Nat.lt_of_lt_of_le hb1 HEr.out.size
      have y1 := (HEr.out.grow).cell x1 (by simp)
      have y3 := (HEr.out.grow).cell x3 (by simp)
      have y4 := (HEr.out.grow).cell x4 (by simp)
      have HWd := Lib.hid (HWf.out _ (List.getElem_mem hq1))
      generalize l[q] = d at *
      obtain ⟨dw, df, dt, ⟨ds, dp⟩⟩ := d
      dsimp only at y1 y3 y4 HX
      clear hc x0 x1 x3 x4 hz
      obtain ⟨l1, l2, l3⟩ := lt_facts hbw
      have hqi : (q : Int) < l.length := by omega
      have hqi0 : 0 ≤ (q : Int) := by omega
      have hd1 : decide ((q : Int) < 60) = true := decide_eq_true (by omega)
      have HAd := Lib.hid (rmap_Add wo.drew (HOr.out.ext ((Ext.refl wo).drew)) df ds dp _ rfl _ rfl)
      have HPk := Lib.hid (fun w' => law11_pick w' dw 4 HWd.out.1 (by omega) (by omega))
      have hal := addR_len df ds dp rs
      generalize addR df ds dp rs = rs2 at *
      obtain ⟨pk, hpk⟩ : ∃ pk, pickM dw 4 = pk := ⟨_, rfl⟩
      rw [hpk] at HPk
      clear hpk
      go_wp2_with fail
      refine wp_region_still_tail 11 (by kernel_rfl) (by kernel_rfl) ?_
      simp only [List.take_succ_cons, List.take_zero, List.drop_succ_cons, List.drop_zero]
      repeat still_step
      refine wpStill_nil ?_
      clear y1 y3 y4
      go_wp2_with fail
      refine (HAd.out).mono ?_
      rintro e w2 ⟨⟨rfl, hO2⟩, hg2⟩
      have HE2 := Lib.hid (ext_grow HEr.out.drew hg2 HOr.out.mB)
      have HO2 := Lib.hid hO2
      clear hO2 hg2 HAd
      have z0 := (HE2.out.grow).cell HX.out.1 (by simp)
      have z3 := (HE2.out.grow).cell HX.out.2.1 (by simp)
      have z4 := (HE2.out.grow).cell HX.out.2.2 (by simp)
      have hbw2 : b < w2.heap.size := Nat.lt_of_lt_of_le hb1 HE2.out.size
      obtain ⟨l4, l5, l6⟩ := lt_facts hbw2
      obtain ⟨fo, hfo⟩ : ∃ fo, frameAt rs2 ds dp = fo := ⟨_, rfl⟩
      have HRm := Lib.hid (rmap_Remove w2 HO2.out ds dp fo hfo)
      clear hfo
      go_wp2_with fail
      refine (HPk.out _).mono ?_
      rintro e w' ⟨rfl, hww⟩
      rw [hww]
      clear hww w'
      by_cases hp0 : pk = 0
      · subst hp0
        go_wp2_with fail
        refine HRm.out.mono ?_
        rintro e w3 ⟨⟨rfl, hO3⟩, hg3⟩
        have HE3 := Lib.hid (ext_grow HE2.out hg3 HO2.out.mB)
        have HO3 := Lib.hid hO3
        have hol := outR_len ds dp rs2
        clear hO3 hg3
        go_wp2_with fail
        go_roundw
        case rel => exact ⟨q + 1, _, by omega, by omega, by omega, by go_num, HE3.out, HO3⟩
        case measure => simp [intOf]; omega
      · have hpb : (pk == 0) = false := by simpa using hp0
        clear hp0
        go_wp2_with fail
        go_roundw
        case rel => exact ⟨q + 1, rs2, by omega, by omega, by omega, by go_num, HE2.out, HO2⟩
        case measure => simp [intOf]; omega
    · have hcs : q = l.length ∨ (q < l.length ∧ q = 60) := by omega
      have hlen : rs.length ≤ 100000 := by omega
      have HAsc := Lib.hid HOr.out.asc
      have HFr := Lib.hid (fun w' (h' : RmOn w' w.heap.size hb mb rs) => rmap_Frames w' h' hlen)
      have HOf := Lib.hid (fun w' (h' : RmOn w' w.heap.size hb mb rs) n => rmap_Of w' h' hlen n)
      have HCt := Lib.hid (fun w' (h' : RmOn w' w.heap.size hb mb rs) n => rmap_Count w' h' hlen n)
      have HPg := Lib.hid (fun w' (h' : RmOn w' w.heap.size hb mb rs) n => rmap_Pages w' h' hlen n)
      have HFm := Lib.hid (fun w' (h' : RmOn w' w.heap.size hb mb rs) s p f hf => rmap_Frame w' h' s p (some f) hf)
      have hrl2 : rs.length ≤ 60 := by omega
      have hfl : (framesR rs).length ≤ 60 := Nat.le_trans (framesR_len rs) hrl2
      clear hlt hlen hrl
      rcases hcs with rfl | ⟨hq6, rfl⟩
      all_goals
        (try have hq7 : (60 : Int) < l.length := by omega)
        go_wp2_with fail
        refine (HFr.out _ HOr.out).mono ?_
        rintro e w2 ⟨hE2, af, cf, rfl, hF2⟩
        have HE2 := Lib.hid (HEr.out.trans hE2)
        have HF2 := Lib.hid hF2
        have HO2 := Lib.hid (HOr.out.ext hE2)
        have hwB := HE2.out.size
        have hwoB := HEr.out.size
        generalize wo.heap.size = BF at *
        clear hE2 hF2 HOr HEr HFr
        go_wp2_with fail
        go_loopw [9, 10, 11, 12, 13, 14, 15] (fun o i _ _ _ _ _ wr => ∃ (q : Nat), q ≤ (framesR rs).length ∧ i = .int .i64 q ∧ Ext w2 wr ∧ Hid (wr.ownsRow w2.heap.size 57 2 o (allR rs q).length ((allR rs q).map encK).flatten)) (fun _ i _ _ _ _ _ _ => (framesR rs).length - (intOf i).toNat)
        case atStart => exact ⟨0, by omega, rfl, Ext.refl _, World.ownsRow_nil _ _ _ _⟩
        case round =>
          obtain ⟨q, hq', rfl, ⟨x, rfl⟩, HA⟩ := hrel
          by_cases hlt : q < (framesR rs).length
          · have hz : (framesR rs)[q]? = some (framesR rs)[q] := List.getElem?_eq_getElem hlt
            obtain ⟨gf, rfl, _, hgf, f0⟩ := ints_at HF2.out hz rfl
            generalize (framesR rs)[q] = f at *
            have hqi : (q : Int) < (framesR rs).length := by omega
            have hqi0 : 0 ≤ (q : Int) := by omega
            have hpos := ofR_some hz
            have HSu := Lib.hid (allR_succ hz)
            have HNw := Lib.hid (fun (k : Nat) (x : Int × Int) hx => allR_new HAsc.out (k := k) (x := x) hz hx)
            have HLn := Lib.hid (fun (k : Nat) hk => allR_len HAsc.out (k := k) hz hk)
            have HFa := Lib.hid (fun (k : Nat) (x : Int × Int) (hx : (ofR rs f)[k]? = some x) => ofR_frame HAsc.out (List.mem_of_getElem? hx))
            have hol := ofR_len rs f
            have HOf2 := Lib.hid (fun w' h' => HOf.out w' h' f)
            have HCt2 := Lib.hid (fun w' h' => HCt.out w' h' f)
            clear hz
            generalize ofR rs f = L at *
            have hl0 : (0 : Int) < L.length := by omega
            have hln0 : ((L.length : Int) == 0) = false := by simpa using (show ¬ (L.length : Int) = 0 by omega)
            obtain ⟨l1, l2, l3⟩ := lt_facts hgf
            go_wp2_with fail
            refine (HOf2.out _ (HO2.out.ext (by repeat (first | exact Ext.refl _ | apply Ext.more | apply Ext.alloc | apply Ext.drew | apply Ext.drewN)))).mono ?_
            rintro e w3 ⟨hE3, ao, co, rfl, hL3⟩
            have HE3 := Lib.hid (show Ext w2 w3 from Ext.trans (by repeat (first | exact Ext.refl _ | apply Ext.more | apply Ext.alloc | apply Ext.drew | apply Ext.drewN)) hE3)
            have HA3 := Lib.hid (own_ext HA.out hE3)
            have HL3 := Lib.hid hL3
            have HO3 := Lib.hid (HO2.out.ext HE3.out)
            have f3 := (HE3.out.grow).cell f0 (by simp)
            have hgf3 : gf < w3.heap.size := Nat.lt_of_lt_of_le hgf HE3.out.size
            obtain ⟨l4, l5, l6⟩ := lt_facts hgf3
            have hsx := size_le_more w2 x
            have HSep := Lib.hid (show Sep u9 (.slice ao L.length co) from fun g h1 h2 => by
              have h3 := (World.ownsRow.lt HA.out g h1).2
              have h4 := (World.ownsRow.lt HL3.out g h2).1
              omega)
            have HBd := Lib.hid (show Beds w3 w2.heap.size 57 2 [(u9, (allR rs q).length, ((allR rs q).map encK).flatten), (.slice ao L.length co, L.length, (L.map encK).flatten)] from
              ⟨fun r hr => by
                rcases List.mem_cons.1 hr with rfl | hr
                · exact HA3.out
                · rw [List.mem_singleton.1 hr]
                  exact own_low HL3.out hsx,
               .cons (fun r hr => by rw [List.mem_singleton.1 hr]; exact HSep.out) (.cons (fun r hr => by cases hr) .nil)⟩)
            have HF0 := Lib.hid f0
            clear hE3 hL3 HA3 HL3 HSep f0 HA
            go_wp2_with fail
            refine (HCt2.out _ HO3.out).mono ?_
            rintro e w4 ⟨⟨x4, rfl⟩, rfl⟩
            have HB4 := Lib.hid (show Beds (more w3 x4) w2.heap.size 57 2 [(u9, (allR rs q ++ L.take 0).length, ((allR rs q ++ L.take 0).map encK).flatten), (.slice ao L.length co, L.length, (L.map encK).flatten)] from by
              rw [List.take_zero, List.append_nil]
              exact Beds.more HBd.out x4)
            have HE4 := Lib.hid (show Ext w2 (more w3 x4) from HE3.out.more x4)
            clear HBd HE3 HO3 f3 HCt2 HOf2 l1 l2 l3 l4 l5 l6 hgf3
            go_wp2_with fail
            generalize more w3 x4 = w4 at *
            go_loopw [9, 12, 13, 14, 15] (fun o i _ _ _ wr => ∃ (k : Nat), k ≤ L.length ∧ i = .int .i64 k ∧ Ext w2 wr ∧ Hid (Beds wr w2.heap.size 57 2 [(o, (allR rs q ++ L.take k).length, ((allR rs q ++ L.take k).map encK).flatten), (.slice ao L.length co, L.length, (L.map encK).flatten)])) (fun _ i _ _ _ _ => L.length - (intOf i).toNat)
            case atStart => exact ⟨0, by omega, rfl, HE4.out, HB4⟩
            case round =>
              obtain ⟨k, hk, rfl, hEk, HBk⟩ := hrel
              have HEk := Lib.hid hEk
              clear hEk HB4 HE4
              obtain ⟨wk, rfl⟩ : ∃ wk : World, wk = wr := ⟨_, rfl⟩
              by_cases hkl : k < L.length
              · have hzk : L[k]? = some L[k] := List.getElem?_eq_getElem hkl
                obtain ⟨go, rfl, _, hgo, c0, c1⟩ := keys_at (HBk.out.own 1 _ rfl) hzk rfl
                have hnw := HNw.out k _ hzk
                have hfa := HFa.out k _ hzk
                have htk := take_snocR hzk
                have HTk := Lib.hid htk
                generalize L[k] = xx at *
                obtain ⟨s, p⟩ := xx
                dsimp only at c0 c1 hfa
                have hll2 := HLn.out k hk
                have HNx := Lib.hid hnw
                generalize hALL : allR rs q ++ L.take k = ALL at *
                have HALL := Lib.hid hALL
                have HFk := Lib.hid (fun w' h' => HFm.out w' h' s p f hfa)
                obtain ⟨l1, l2, l3⟩ := lt_facts hgo
                have hki : (k : Int) < L.length := by omega
                have hki0 : 0 ≤ (k : Int) := by omega
                clear hzk hnw hfa htk hALL
                go_wp2_with fail
                refine (HFk.out _ (HO2.out.ext HEk.out)).mono ?_
                rintro e w5 ⟨hE5, rfl⟩
                have HE5 := Lib.hid (HEk.out.trans hE5)
                have HB5 := Lib.hid (show Beds w5 w2.heap.size 57 2 [(u9, ALL.length, (ALL.map encK).flatten), (.slice (some ⟨go, 0, none⟩) L.length co, L.length, (L.map encK).flatten)] from by
                  obtain ⟨y, rfl⟩ := hE5
                  exact Beds.more HBk.out y)
                have e0 := (hE5.grow).cell c0 (by simp)
                have e1 := (hE5.grow).cell c1 (by simp)
                have hgo5 : go < w5.heap.size := Nat.lt_of_lt_of_le hgo hE5.size
                have ff := (HE5.out.grow).cell HF0.out (by simp)
                have hgf5 : gf < w5.heap.size := Nat.lt_of_lt_of_le hgf HE5.out.size
                clear c0 c1 l1 l2 l3 hE5 HBk HEk HFk
                obtain ⟨l1, l2, l3⟩ := lt_facts hgo5
                obtain ⟨l4, l5, l6⟩ := lt_facts hgf5
                have hOA := HB5.out.own 0 _ rfl
                dsimp only at hOA
                obtain ⟨aa, ca, rfl⟩ := own_form hOA
                have HOA := Lib.hid (show w5.ownsRow w2.heap.size 57 2 (.slice aa ALL.length ca) ALL.length (ALL.map encK).flatten from hOA)
                clear hOA
                unfold frameV
                go_wp2_with fail
                go_loopw [15] (fun i wi => ∃ j : Nat, j ≤ ALL.length ∧ i = .int .i64 j ∧ Ext w5 wi) (fun i _ => ALL.length - (intOf i).toNat)
                case atStart => exact ⟨0, by omega, rfl, Ext.refl _⟩
                case round =>
                  obtain ⟨j, hj, rfl, ⟨xj, rfl⟩⟩ := hrel
                  by_cases hjl : j < ALL.length
                  · have hzj : ALL[j]? = some ALL[j] := List.getElem?_eq_getElem hjl
                    obtain ⟨gj, rfl, _, hgj, d0, d1⟩ := keys_at HOA.out hzj rfl
                    have hne : ALL[j] ≠ (s, p) := fun e => HNx.out (e ▸ List.getElem_mem hjl)
                    generalize ALL[j] = y at *
                    obtain ⟨ys, yp⟩ := y
                    dsimp only at d0 d1
                    obtain ⟨m1, m2, m3⟩ := lt_facts hgj
                    have hji : (j : Int) < ALL.length := by omega
                    have hji0 : 0 ≤ (j : Int) := by omega
                    have hcs : ¬ ys = s ∨ (ys = s ∧ ¬ yp = p) := by
                      by_cases e1 : ys = s
                      · exact .inr ⟨e1, fun e2 => hne (by rw [e1, e2])⟩
                      · exact .inl e1
                    clear hzj hne
                    rcases hcs with hb | ⟨rfl, hb⟩
                    all_goals
                      go_wp2_with fail
                      go_region
                      all_goals
                        go_wp2_with fail
                        go_roundw
                        case rel => exact ⟨j + 1, by omega, by go_num, (by repeat (first | exact Ext.refl _ | apply Ext.more | apply Ext.alloc | apply Ext.drew | apply Ext.drewN))⟩
                        case measure => simp [intOf]; omega
                  · obtain rfl : j = ALL.length := by omega
                    have HB6 := Lib.hid (show Beds (more w5 xj) w2.heap.size 57 2 [(.slice aa ALL.length ca, ALL.length, (ALL.map encK).flatten), (.slice (some ⟨go, 0, none⟩) L.length co, L.length, (L.map encK).flatten)] from Beds.more HB5.out xj)
                    have HOA6 := Lib.hid (own_more HOA.out xj)
                    have HE6 := Lib.hid (show Ext w2 (more w5 xj) from HE5.out.more xj)
                    have hlb : ALL.length ≤ 1000 := by omega
                    clear HB5 HOA ff l4 l5 l6 hgf5
                    go_wp2_with ((at_builtin; refine wpList_append_newB w2 el_Where rfl _ _ rfl (.slice aa ALL.length ca) ALL.length _ rfl (by repeat (first | exact HOA6.out | apply own_more | apply own_alloc | apply own_drew | apply own_drewN)) (by repeat (first | exact HE6.out | apply Ext.more | apply Ext.alloc | apply Ext.drew | apply Ext.drewN)) _ _ 1 _ rfl (by simp) rfl rfl (by omega) ?_); intro v' x' HO' keep blk; refine of_hold ?_)
                    have hkf : keys_flat ALL (s, p) = keys_flat ALL (s, p) := rfl
                    have HB7 := Lib.hid (show Beds (more w2 x') w2.heap.size 57 2 [(v', ALL.length + 1, ((ALL ++ [(s, p)]).map encK).flatten), (.slice (some ⟨go, 0, none⟩) L.length co, L.length, (L.map encK).flatten)] from by
                      rw [keys_flat]
                      exact Beds.put HB6.out HO'.out keep blk)
                    clear hkf keep blk HO' HB6
                    unfold Hold
                    go_wp2_with fail
                    go_roundw
                    case rel => exact ⟨k + 1, by omega, by go_num, (by repeat (first | exact Ext.refl _ | apply Ext.more | apply Ext.alloc | apply Ext.drew | apply Ext.drewN)), by
                      show Beds _ _ _ _ _
                      rw [HTk.out, ← List.append_assoc, HALL.out, List.length_append]
                      exact HB7.out⟩
                    case measure => simp [intOf]; omega
              · obtain rfl : k = L.length := by omega
                have hoe := HBk.out.own 0 _ rfl
                rw [List.take_length, ← HSu.out] at hoe
                have HOE := Lib.hid hoe
                clear hoe HBk
                go_wp2_with fail
                go_roundw
                case rel => exact ⟨q + 1, by omega, by go_num, HEk.out, HOE⟩
                case measure => simp [intOf]; omega
          · obtain rfl : q = (framesR rs).length := by omega
            have hcnt := ofS_all HAsc.out sp
            obtain ⟨A, hA⟩ : ∃ A, allR rs (framesR rs).length = A := ⟨_, rfl⟩
            rw [hA] at hcnt HA
            have hAl : A.length ≤ 60 := by
              rw [← hA, (allR_perm HAsc.out).length_eq, List.length_map]
              exact hrl2
            have HCn := Lib.hid hcnt
            have HPg2 := Lib.hid (fun w' h' => HPg.out w' h' sp)
            clear hcnt hA
            generalize pagesR rs sp = PL at *
            go_wp2_with fail
            refine (HPg2.out _ (HO2.out.ext (by repeat (first | exact Ext.refl _ | apply Ext.more | apply Ext.alloc | apply Ext.drew | apply Ext.drewN)))).mono ?_
            rintro e w3 ⟨hE3, ap, cp, rfl, _⟩
            have HE3 := Lib.hid (HE2.out.trans (show Ext w2 w3 from Ext.trans (by repeat (first | exact Ext.refl _ | apply Ext.more | apply Ext.alloc | apply Ext.drew | apply Ext.drewN)) hE3))
            have HA3 := Lib.hid (own_ext HA.out hE3)
            obtain ⟨aa, ca, rfl⟩ := own_form HA3.out
            have HA4 := Lib.hid (show w3.ownsRow w2.heap.size 57 2 (.slice aa A.length ca) A.length (A.map encK).flatten from HA3.out)
            clear hE3 HA HA3
            go_wp2_with fail
            go_loopw [17, 18] (fun c i wr => ∃ q : Nat, q ≤ A.length ∧ i = .int .i64 q ∧ c = .int .i64 (ofS sp (A.take q) : Nat) ∧ Ext w3 wr) (fun _ i _ => A.length - (intOf i).toNat)
            case atStart => exact ⟨0, by omega, rfl, rfl, Ext.refl _⟩
            case round =>
              obtain ⟨q, hq, rfl, rfl, ⟨x3, rfl⟩⟩ := hrel
              by_cases hql : q < A.length
              · have hz : A[q]? = some A[q] := List.getElem?_eq_getElem hql
                obtain ⟨g, rfl, _, hg, c0, c1⟩ := keys_at HA4.out hz rfl
                have hsn := ofS_snoc (s := sp) hz
                have hsl : ofS sp (A.take q) ≤ A.length := by
                  unfold ofS
                  have h1 := List.countP_le_length (p := fun x : Int × Int => x.1 == sp) (l := A.take q)
                  have h2 := List.length_take_le q A
                  omega
                generalize A[q] = y at *
                obtain ⟨ys, yp⟩ := y
                dsimp only at c0 c1 hsn
                generalize ofS sp (A.take q) = cn at *
                obtain ⟨m1, m2, m3⟩ := lt_facts hg
                have hqi : (q : Int) < A.length := by omega
                have hqi0 : 0 ≤ (q : Int) := by omega
                clear hz
                by_cases he : ys = sp
                · rw [if_pos he] at hsn
                  have heb : (ys == sp) = true := by simpa using he
                  have HSn := Lib.hid hsn
                  clear he hsn
                  go_wp2_with fail
                  go_roundw
                  case rel => exact ⟨q + 1, by omega, by go_num, by rw [HSn.out]; go_num, (by repeat (first | exact Ext.refl _ | apply Ext.more | apply Ext.alloc | apply Ext.drew | apply Ext.drewN))⟩
                  case measure => simp [intOf]; omega
                · rw [if_neg he] at hsn
                  have heb : (ys == sp) = false := by simpa using he
                  have HSn := Lib.hid hsn
                  clear he hsn
                  go_wp2_with fail
                  go_roundw
                  case rel => exact ⟨q + 1, by omega, by go_num, by rw [HSn.out]; rfl, (by repeat (first | exact Ext.refl _ | apply Ext.more | apply Ext.alloc | apply Ext.drew | apply Ext.drewN))⟩
                  case measure => simp [intOf]; omega
              · obtain rfl : q = A.length := by omega
                rw [List.take_length, HCn.out]
                go_wp2_with fail
                go_ret
                exact ⟨(by repeat (first | exact HE3.out | apply Ext.more | apply Ext.alloc | apply Ext.drew | apply Ext.drewN)), by simp⟩

end Go.Proofs.Ythcdecgecabgaaa
