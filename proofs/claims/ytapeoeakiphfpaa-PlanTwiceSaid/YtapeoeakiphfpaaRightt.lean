import Derived.Test.YtapeoeakiphfpaaPlaq
/- The contract of plan.Rights. -/
namespace Go.Proofs.Ytapeoeakiphfpaa
open Go.RowKit
set_option linter.unusedVariables false
set_option linter.unusedSimpArgs false
attribute [local go_sem] setCell_drewN alloc_drewN lt_moreE le_moreE lt_moreK le_moreK cell_more frozen_more set_more drew_more drewN_more

/-- A leaf whose word may bear other rights. -/
structure WithOk (ws : List Int) (n : Nat) (wr ex : Bool) (f : Found) : Prop where
  l0 : 0 ≤ f.fLevel
  l1 : f.fLevel ≤ 3
  t0 : 0 ≤ f.fTable
  t1 : f.fTable < n
  q0 : 0 ≤ f.fPlace
  q1 : f.fPlace < 8
  ok : okD f.fLevel (wxD (decD f.fLevel (ws.getD (f.fTable.toNat * 8 + f.fPlace.toNat) 0)) wr ex) = true
theorem with_ok {ws : List Int} {n : Nat} {root asid a b : Int} {l : List Found} (h : wholeRes asid a b (leavesRes ws n root a b) = .yes l) (wr ex : Bool) : ∀ f ∈ l, WithOk ws n wr ex f := by
  intro f hf
  unfold leavesRes at h
  split at h
  · cases h
  · split at h
    · cases h
    · split at h
      · cases h
      · rename_i all hall
        unfold wholeRes at h
        dsimp only at h
        split at h
        · cases h
        · split at h
          · cases h
          · injection h with h
            subst h
            obtain ⟨hk, q, _, _, hq⟩ := whole_mem 4097 0 all (by omega) hall f (List.mem_filter.1 hf).1
            obtain ⟨d, hd, hok, _, hdk, _, t0, t1, p0, p1, _, hl⟩ := leaf_word hq hk
            refine ⟨by omega, by omega, t0, t1, p0, p1, ?_⟩
            have hd : decD f.fLevel (ws.getD (f.fTable.toNat * 8 + f.fPlace.toNat) 0) = d := hd
            rw [hd]
            exact okD_wx hok (by omega) wr ex
set_option maxRecDepth 100000 in
set_option maxHeartbeats 8000000 in
theorem plan_Rights (w : World) {b g n c : Nat} {ws : List Int} (hm : MemAt w b g n c ws) (hw : WOk ws) (root asid from_ to : Int) (hto : (Lit.int .i64 to).wf = true) (wr ex : Bool) (Q : LeavesR) (hQ : wholeRes asid from_ to (leavesRes ws n root from_ to) = Q) :
    Calls Try.prog 47 #[.pointer (some ⟨b, 0, none⟩), .int .i64 root, .int .i64 asid, .int .i64 from_, .int .i64 to, .bool wr, .bool ex] w fun e w' => Ext w w' ∧ StepsRet w.heap.size w' (rightsRes ws asid wr ex Q) e := by
  have HL := Lib.hid (plan_whole w hm hw root asid from_ to hto _ rfl Q hQ)
  have hok := whole_ok2 (leaves_ok ws n root from_ to) hQ
  cases Q with
  | no k =>
    clear hm hw hQ hto hok
    go_enter Try.func47, Try.ntmps47
    go_wp2_with fail
    refine HL.out.mono ?_
    rintro e w' ⟨⟨ex1, rfl⟩, rfl⟩
    go_wp2_with fail
    go_ret2
    exact ⟨(by repeat (first | exact Ext.refl _ | apply Ext.more | apply Ext.alloc | apply Ext.drew | apply Ext.drewN)), rfl⟩
  | yes l =>
    obtain ⟨hln, hk⟩ := hok l rfl
    have hwo := with_ok hQ wr ex
    have HA := Lib.hid (fun w B cap a (S : List Found) (hS : ∀ f ∈ S, FOk f) (hSl : S.length ≤ 5000) hO => plan_away w (B := B) (cap := cap) (a := a) (l := S) hO hS hSl asid)
    have HK := Lib.hid hk
    have HWO := Lib.hid hwo
    have HM := Lib.hid hm
    have HWs := Lib.hid hw
    clear hm hw hQ hto hok hk hwo
    go_enter Try.func47, Try.ntmps47
    go_wp2_with fail
    refine HL.out.mono ?_
    rintro e w' ⟨⟨ex1, rfl⟩, a, cap, rfl, hO⟩
    have hoc := own_cap hO
    have hm' : cap ≤ 9223372036854775807 := by have := hoc.2.2; unfold maxLen at this; exact this
    have hcl := hoc.2.1
    have HAt := Lib.hid (own_at hO)
    clear hO hoc
    go_wp2_with fail
    go_loopw [18, 40] (fun o i wr' => ∃ q : Nat, q ≤ l.length ∧ i = .int .i64 q ∧ Ext (more w ex1) wr' ∧ Hid (wr'.ownsRow (more w ex1).heap.size 80 11 o ((l.take q).filter (chF wr ex)).length (((l.take q).filter (chF wr ex)).map Found.cells).flatten)) (fun _ i _ => l.length - (intOf i).toNat)
    case atStart => exact ⟨0, by omega, rfl, (by repeat (first | exact Ext.refl _ | apply Ext.more | apply Ext.alloc | apply Ext.drew | apply Ext.drewN)), World.ownsRow_nil _ _ _ _⟩
    case round =>
      obtain ⟨q, hq, rfl, ⟨x, rfl⟩, HO⟩ := hrel
      by_cases hlt : q < l.length
      · obtain ⟨gr, rfl, _, hgr, _, hx, _⟩ := HAt.out (by omega)
        have hz : l[q]? = some l[q] := List.getElem?_eq_getElem hlt
        obtain ⟨x0, x1, x2, x3, x4, x5, x6, x7, x8, x9, x10⟩ := found_at hx q _ hz
        have htk : (l.take (q + 1)).filter (chF wr ex) = (l.take q).filter (chF wr ex) ++ (if chF wr ex l[q] then [l[q]] else []) := by rw [take_snoc hz, filter_snoc]
        have HTk := Lib.hid htk
        have HFl : ((l.take q).filter (chF wr ex)).length ≤ q := by have := List.length_filter_le (chF wr ex) (l.take q); rw [List.length_take] at this; omega
        obtain ⟨out, hout⟩ : ∃ out, (l.take q).filter (chF wr ex) = out := ⟨_, rfl⟩
        rw [hout] at HTk HO HFl
        have hchf : ∀ f, chF wr ex f = (!(f.fWrite == wr) || !(f.fExec == ex)) := fun f => rfl
        rw [hchf] at HTk
        clear htk hz hx hout hchf
        generalize l[q] = z at *
        obtain ⟨F0, F1, F2, F3, F4, F5, F6, F7, F8, F9, F10⟩ := z
        dsimp only at x0 x1 x2 x3 x4 x5 x6 x7 x8 x9 x10 HTk
        cases h8 : (F8 == wr) with
        | false =>
          have hn8 : (F8 != wr) = true := by rw [bne, h8]; rfl
          have HTy := Lib.hid (show (l.take (q + 1)).filter (chF wr ex) = out ++ [⟨F0, F1, F2, F3, F4, F5, F6, F7, F8, F9, F10⟩] from by rw [HTk.out, h8]; rfl)
          clear HTk
          go_wp2_with ((at_builtin; refine wpList_append_new (more w ex1) el_Found rfl _ _ rfl u18 out.length _ rfl (by repeat (first | exact HO.out | apply own_more | apply own_alloc | apply own_drew | apply own_drewN)) (by repeat (first | exact Ext.refl _ | apply Ext.more | apply Ext.alloc | apply Ext.drew | apply Ext.drewN)) _ _ 1 _ rfl (by simp) rfl rfl (by omega) ?_); intro v' x' HO' keep; clear keep)
          go_roundw
          case rel => exact ⟨q + 1, by omega, by go_num, (by repeat (first | exact Ext.refl _ | apply Ext.more | apply Ext.alloc | apply Ext.drew | apply Ext.drewN)), by
            show World.ownsRow _ _ _ _ _ _ _
            rw [HTy.out]
            simpa [Found.cells] using HO'.out⟩
          case measure => simp [intOf]; omega
        | true =>
          have hn8 : (F8 != wr) = false := by rw [bne, h8]; rfl
          cases h9 : (F9 == ex) with
          | false =>
            have hn9 : (F9 != ex) = true := by rw [bne, h9]; rfl
            have HTy := Lib.hid (show (l.take (q + 1)).filter (chF wr ex) = out ++ [⟨F0, F1, F2, F3, F4, F5, F6, F7, F8, F9, F10⟩] from by rw [HTk.out, h8, h9]; rfl)
            clear HTk
            go_wp2_with ((at_builtin; refine wpList_append_new (more w ex1) el_Found rfl _ _ rfl u18 out.length _ rfl (by repeat (first | exact HO.out | apply own_more | apply own_alloc | apply own_drew | apply own_drewN)) (by repeat (first | exact Ext.refl _ | apply Ext.more | apply Ext.alloc | apply Ext.drew | apply Ext.drewN)) _ _ 1 _ rfl (by simp) rfl rfl (by omega) ?_); intro v' x' HO' keep; clear keep)
            go_roundw
            case rel => exact ⟨q + 1, by omega, by go_num, (by repeat (first | exact Ext.refl _ | apply Ext.more | apply Ext.alloc | apply Ext.drew | apply Ext.drewN)), by
              show World.ownsRow _ _ _ _ _ _ _
              rw [HTy.out]
              simpa [Found.cells] using HO'.out⟩
            case measure => simp [intOf]; omega
          | true =>
            have hn9 : (F9 != ex) = false := by rw [bne, h9]; rfl
            have HTn := Lib.hid (show (l.take (q + 1)).filter (chF wr ex) = out from by rw [HTk.out, h8, h9]; exact List.append_nil _)
            clear HTk
            go_wp2_with fail
            go_roundw
            case rel => exact ⟨q + 1, by omega, by go_num, (by repeat (first | exact Ext.refl _ | apply Ext.more | apply Ext.alloc | apply Ext.drew | apply Ext.drewN)), by
              show World.ownsRow _ _ _ _ _ _ _
              rw [HTn.out]
              exact (by repeat (first | (with_reducible apply own_alloc) | (with_reducible apply own_drew) | (with_reducible apply own_drewN) | exact HO.out | (with_reducible apply own_more)))⟩
            case measure => simp [intOf]; omega
      · obtain rfl : q = l.length := by omega
        rw [List.take_length] at HO
        clear HAt hlt
        have HKs := Lib.hid (show ∀ f ∈ l.filter (chF wr ex), FOk f from fun f hf => HK.out f (List.mem_filter.1 hf).1)
        have HWs2 := Lib.hid (show ∀ f ∈ l.filter (chF wr ex), WithOk ws n wr ex f from fun f hf => HWO.out f (List.mem_filter.1 hf).1)
        have hSl : (l.filter (chF wr ex)).length ≤ 5000 := by have := List.length_filter_le (chF wr ex) l; omega
        have hres : rightsRes ws asid wr ex (.yes l) = .yes (awayL asid (l.filter (chF wr ex)) ++ setL ws asid wr ex (l.filter (chF wr ex))) := rfl
        have HRes := Lib.hid hres
        clear hres
        generalize l.filter (chF wr ex) = S at *
        obtain ⟨a, cap, rfl⟩ := own_form HO.out
        have HMc := Lib.hid (show MemAt (more (more w ex1) x) b g n c ws from (by repeat (first | exact HM.out | apply MemAt.more | apply MemAt.alloc | apply MemAt.drew | apply MemAt.drewN)))
        have hBc : w.heap.size ≤ (more (more w ex1) x).heap.size := by simp only [size_more]; omega
        have HEc := Lib.hid (show Ext w (more (more w ex1) x) from (by repeat (first | exact Ext.refl _ | apply Ext.more | apply Ext.alloc | apply Ext.drew | apply Ext.drewN)))
        generalize more (more w ex1) x = Wc at *
        have hoc := own_cap HO.out
        have hm' : cap ≤ 9223372036854775807 := by have := hoc.2.2; unfold maxLen at this; exact this
        have hcl := hoc.2.1
        have HAt := Lib.hid (own_at HO.out)
        clear hoc HM HK HWO HL
        go_wp2_with fail
        refine (HA.out _ _ _ _ S HKs.out hSl HO.out).mono ?_
        rintro e w' ⟨⟨ex2, rfl⟩, a2, c2, rfl, hO2⟩
        have hAl : (awayL asid S).length ≤ 50000 := by unfold awayL; have := tellA_len asid S; simp; omega
        generalize awayL asid S = A at *
        have HO2 := Lib.hid hO2
        clear hO2 HA
        go_wp2_with fail
        go_loopw [21, 64] (fun o i wr' => ∃ q : Nat, q ≤ S.length ∧ i = .int .i64 q ∧ Ext Wc wr' ∧ Hid (wr'.ownsRow Wc.heap.size 73 10 o (A.length + q) (CS A ++ CS (setL ws asid wr ex (S.take q))))) (fun _ i _ => S.length - (intOf i).toNat)
        case atStart => exact ⟨0, by omega, rfl, (by repeat (first | exact Ext.refl _ | apply Ext.more | apply Ext.alloc | apply Ext.drew | apply Ext.drewN)), by
          show World.ownsRow _ _ _ _ _ (A.length + 0) (CS A ++ [])
          rw [List.append_nil]
          exact HO2.out⟩
        case round =>
          obtain ⟨q, hq, rfl, ⟨x, rfl⟩, HO3⟩ := hrel
          by_cases hlt : q < S.length
          · obtain ⟨gr, rfl, _, hgr, _, hx, _⟩ := HAt.out (by omega)
            obtain ⟨hg1, hg2, hg3⟩ := lt_facts hgr
            have hz : S[q]? = some S[q] := List.getElem?_eq_getElem hlt
            obtain ⟨x0, x1, x2, x3, x4, x5, x6, x7, x8, x9, x10⟩ := found_at hx q _ hz
            have hok := HKs.out _ (List.getElem_mem hlt)
            have hwo := HWs2.out _ (List.getElem_mem hlt)
            have E := Lib.hid (show CS (setL ws asid wr ex (S.take (q + 1))) = CS (setL ws asid wr ex (S.take q)) ++ (wrF asid (rwF ws wr ex S[q]) S[q]).cells from by
              unfold setL
              rw [take_snoc hz, List.map_append, List.map_cons, List.map_nil, CS_snoc])
            have HWi := Lib.hid (fun w (hm : MemAt w b g n c ws) => plan_with w hm HWs.out S[q] wr ex _ hwo.l0 hwo.l1 hwo.t0 hwo.t1 hwo.q0 hwo.q1 rfl hwo.ok)
            have hrw : encW (wxD (decD S[q].fLevel (ws.getD (S[q].fTable.toNat * 8 + S[q].fPlace.toNat) 0)) wr ex) = rwF ws wr ex S[q] := rfl
            rw [hrw] at HWi
            generalize rwF ws wr ex S[q] = V at *
            have HWr := Lib.hid (fun w => plan_write w _ hok asid V)
            have hwf : wrF asid V S[q] = ⟨1, asid, S[q].fLevel, S[q].fTable, S[q].fPlace, ownF S[q], V, 0, 0, 0⟩ := rfl
            rw [hwf] at E
            clear hz hx hok hwo hrw hwf
            generalize S[q] = z at *
            generalize ownF z = O at *
            obtain ⟨F0, F1, F2, F3, F4, F5, F6, F7, F8, F9, F10⟩ := z
            dsimp only at x0 x1 x2 x3 x4 x5 x6 x7 x8 x9 x10 E HWr HWi
            go_wp2_with fail
            refine (HWi.out _ (by repeat (first | exact HMc.out | apply MemAt.more | apply MemAt.alloc | apply MemAt.drew | apply MemAt.drewN))).mono ?_
            rintro e w' ⟨⟨ex3, rfl⟩, rfl⟩
            go_wp2_with fail
            refine (HWr.out _).mono ?_
            rintro e w' ⟨⟨ex4, rfl⟩, rfl⟩
            go_wp2_with ((at_builtin; refine wpList_append_new Wc el_Step rfl _ _ rfl u21 (A.length + q) _ rfl (by repeat (first | exact HO3.out | apply own_more | apply own_alloc | apply own_drew | apply own_drewN)) (by repeat (first | exact Ext.refl _ | apply Ext.more | apply Ext.alloc | apply Ext.drew | apply Ext.drewN)) _ _ 1 _ rfl (by simp) rfl rfl (by omega) ?_); intro v' x' HO' keep; clear keep)
            go_roundw
            case rel => exact ⟨q + 1, by omega, by go_num, (by repeat (first | exact Ext.refl _ | apply Ext.more | apply Ext.alloc | apply Ext.drew | apply Ext.drewN)), by
              show World.ownsRow _ _ _ _ _ _ _
              rw [E.out, ← List.append_assoc]
              exact HO'.out⟩
            case measure => simp [intOf]; omega
          · obtain rfl : q = S.length := by omega
            rw [List.take_length] at HO3
            go_wp2_with fail
            go_ret2
            exact ⟨(by repeat (first | exact HEc.out | apply Ext.more | apply Ext.alloc | apply Ext.drew | apply Ext.drewN)), stepsRet_yes HRes.out HO3.out hBc (by simp [setL]) (by rw [← CS_append])⟩

end Go.Proofs.Ytapeoeakiphfpaa
