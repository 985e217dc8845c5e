import Derived.Test.YthcdecgecabgaaaBMerglMerkMovdRights
import Derived.Test.YthcdecgecabgaaaBPlaqRighttPltpMovc
import Derived.Test.YthcdecgecabgaaaWata
import Derived.Test.YthcdecgecabgaaaBCutcCutdMovj
/- The middle of the law paviorlaw18.MoveKeeps: the steps are done before a watch. -/
namespace Go.Proofs.Ythcdecgecabgaaa
open Go.RowKit
set_option linter.unusedVariables false
set_option linter.unusedSimpArgs false
attribute [local go_sem] setCell_drewN alloc_drewN lt_moreE le_moreE lt_moreK le_moreK cell_more frozen_more set_more drew_more drewN_more

set_option maxRecDepth 1000000 in
set_option maxHeartbeats 16000000 in
theorem keeps_steps (w : World) {n : Nat} {ws : List Int} (HW : Hid (WOk ws)) (hn1 : 1 ≤ n) (hn2 : n ≤ 24) (rs ps : List (Int × Int)) (h4' : rs.length ≤ 4) (h20' : ps.length ≤ 20) (ra : Option Addr) (rcap : Nat) (fa : Option Addr) (fcap : Nat) (HPv : Hid (SlRd w (.slice fa ps.length fcap) 2 (ps.map slotC))) (hrcap : rs.length ≤ maxLen) (hfcap : ps.length ≤ maxLen) (HRC : Hid (∀ (i : Nat) (c : List Value), (List.map slotC rs)[i]? = some c → c ≠ [] → ∃ b o, ra = some ⟨b, o, none⟩ ∧ b < w.heap.size ∧ ∀ j u, c[j]? = some u → w.cell? ⟨b, o + (i * 2 + j), none⟩ = some u)) (frm dst : Int) (hf0 : 0 ≤ frm) (hf1 : frm < n) (ht0 : 0 ≤ dst) (ht1 : dst < n)
    {h hc B2 : Nat} {gb0 gc0 : Nat → Nat} {S : List Step} {sa : Option Addr} {scap : Nat} (hSl : S.length ≤ 1000) (hscap1 : S.length ≤ scap) (hscap2 : scap ≤ 9223372036854775807) (w6 : World) (HS : Hid (Safe n ws [] S)) (HS6 : Hid (∀ (s : Step), s ∈ S → s.fKind ≠ 6)) (HWU : Hid (WOk (doW n ws S))) (HO : Hid (OwnS w6 B2 (.slice sa S.length scap) S)) (HE6 : Hid (Ext w w6)) (HR : Hid (RefAt w6 h hc n gb0 gc0 ws)) (HCo : Hid (∀ (i : Nat), i < 8 → (doW n ws S).getD (dst.toNat * 8 + i) 0 = ws.getD (frm.toNat * 8 + i) 0)) (HWk : Hid (∀ (i : Nat), i < rs.length → ∀ (q : Int), 0 ≤ q → q < 4096 → ∃ x : Found, walkAt ws n q 4 0 (rs.getD i (0, 0)).2 = some x ∧ walkAt (doW n ws S) n q 4 0 (rs.getD i (0, 0)).2 = some (if hasW ps (rs.getD i (0, 0)).1 q = true then { x with fFrame := dst, fBase := dst } else x)))
    {c0 c1 c6 c7 c8 c9 c10 c11 c12 c14 c17 c18 c19 c20 c21 c22 c23 c24 c25 c26 c27 c28 c29 c30 c31 c32 c33 c34 c35 c36 c37 c38 c39 c40 c41 c42 c43 c44 c45 c46 c47 c48 c49 c50 c51 c52 c53 c54 c55 c56 c57 c58 c59 c60 c61 c62 c63 c64 c65 c66 c67 c68 c69 c70 c71 c72 c73 c74 c75 c76 c77 c78 c79 c80 c81 c82 c83 c84 c85 c86 c87 c88 c89 c90 c91 c92 c93 c94 c95 c96 c97 c98 c99 c100 c101 c102 c103 c104 c105 c106 c107 c108 c109 c110 c111 c112 c113 c114 c115 c116 c117 c118 c119 c120 c121 c122 c123 c124 c125 c126 c127 c128 c129 c130 c131 c132 c133 c134 c135 c136 c137 c138 c139 c140 c141 c142 c143 c144 c145 c146 c147 c148 c149 c150 c151 c152 c153 c154 c155 c156 c157 c158 c159 c160 c161 c162 c163 c164 c165 c166 c167 c168 c169 c170 c171 c172 c173 c174 c175 c176 c177 c178 c179 c180 c181 c182 c183 c184 c185 c186 c187 c188 c189 c190 c191 c192 c193 c194 c195 c196 c197 c198 c199 c200 c201 c202 c203 c204 c205 c206 c207 c208 c209 c210 c211 c212 c213 c214 c215 c216 c217 c218 c219 c220 c221 c222 c223 c224 c225 c226 c227 c228 c229 c230 c231 c232 c233 c234 c235 c236 c237 c238 c239 c240 c241 c242 c243 c244 c245 c246 c247 c248 c249 c250 c251 c252 c253 c254 c255 c256 c257 c258 c259 c260 c261 c262 c263 c264 c265 c266 c267 c268 c269 c270 c271 c272 c273 c274 c275 c276 c277 c278 c279 c280 c281 c282 c283 c284 c285 c286 c287 c288 c289 c290 c291 c292 c293 c294 c295 c296 c297 c298 c299 c300 c301 c302 c303 c304 c305 c306 c307 c308 c309 c310 c311 c312 c313 c314 : Value}
    (K : Act → World → Prop) (hK : ∀ (a : Act) (w' : World), Code.wp Try.prog (restAt 31 Try.f3.body) (bodyPost Try.prog Try.f3 fun e w' => Ext w w' ∧ e = .returned (.bool true)) a w' → K a w') :
    Code.wp Try.prog (headAt 31 Try.f3.body) (Exit.then K (bodyPost Try.prog Try.f3 fun e w' => Ext w w' ∧ e = .returned (.bool true))) ⟨#[c0, c1, (.slice ra rs.length rcap), (.slice fa ps.length fcap), (.int .i64 frm), (.int .i64 dst), c6, c7, c8, c9, c10, c11, c12, (.bool true), c14, (.slice (some ⟨h, 0, none⟩) n hc), (.slice sa S.length scap), c17, c18, c19, c20, c21, c22, c23, c24, c25, c26, c27, c28, c29, c30, c31, c32, c33, c34, c35, c36, c37, c38, c39, c40, c41, c42, c43, c44, c45, c46, c47, c48, c49, c50, c51, c52, c53, c54, c55, c56, c57, c58, c59, c60, c61, c62, c63, c64, c65, c66, c67, c68, c69, c70, c71, c72, c73, c74, c75, c76, c77, c78, c79, c80, c81, c82, c83, c84, c85, c86, c87, c88, c89, c90, c91, c92, c93, c94, c95, c96, c97, c98, c99, c100, c101, c102, c103, c104, c105, c106, c107, c108, c109, c110, c111, c112, c113, c114, c115, c116, c117, c118, c119, c120, c121, c122, c123, c124, c125, c126, c127, c128, c129, c130, c131, c132, c133, c134, c135, c136, c137, c138, c139, c140, c141, c142, c143, c144, c145, c146, c147, c148, c149, c150, c151, c152, c153, c154, c155, c156, c157, c158, c159, c160, c161, c162, c163, c164, c165, c166, c167, c168, c169, c170, c171, c172, c173, c174, c175, c176, c177, c178, c179, c180, c181, c182, c183, c184, c185, c186, c187, c188, c189, c190, c191, c192, c193, c194, c195, c196, c197, c198, c199, c200, c201, c202, c203, c204, c205, c206, c207, c208, c209, c210, c211, c212, c213, c214, c215, c216, c217, c218, c219, c220, c221, c222, c223, c224, c225, c226, c227, c228, c229, c230, c231, c232, c233, c234, c235, c236, c237, c238, c239, c240, c241, c242, c243, c244, c245, c246, c247, c248, c249, c250, c251, c252, c253, c254, c255, c256, c257, c258, c259, c260, c261, c262, c263, c264, c265, c266, c267, c268, c269, c270, c271, c272, c273, c274, c275, c276, c277, c278, c279, c280, c281, c282, c283, c284, c285, c286, c287, c288, c289, c290, c291, c292, c293, c294, c295, c296, c297, c298, c299, c300, c301, c302, c303, c304, c305, c306, c307, c308, c309, c310, c311, c312, c313, c314], []⟩ w6 := by
  conv at hK => intro a w'; arg 1; arg 2; whnf
  conv => arg 2; whnf
  have n1 : 1 ≤ n := hn1
  have n2 : n ≤ 512 := by omega
  have HWs := HW
  have hcap1 := hscap1
  go_wp2_with fail
  refine (watch_New w6 w6 (Ext.refl w6)).mono ?_
  rintro e w1 ⟨hE1, _, wb, mb, rfl, hw1⟩
  have HE1 := Lib.hid hE1
  have HW1 := Lib.hid hw1
  clear hw1 hE1
  go_wp2_with fail
  refine (ref12_Copy _ (HR.out.kept0 HE1.out.grow) n1 n2).mono ?_
  rintro e w2 ⟨hE2, mh, mc, gb, gc, rfl, hr2, hmh, hgb⟩
  have HW2 := Lib.hid (HW1.out.ext hE2)
  have HE2 := Lib.hid (HE1.out.trans hE2)
  have HR2 := Lib.hid hr2
  have hmw : w6.heap.size ≤ mh := Nat.le_trans HE1.out.size hmh
  have HGB := Lib.hid (show ∀ i, i < n → w6.heap.size ≤ gb i from fun i hi => Nat.le_trans HE1.out.size (hgb i hi))
  clear hE2 hr2 hmh hgb HW1 HE1
  go_wp2_with fail
  generalize hBw : w6.heap.size = Bw at *
  have HBw := Lib.hid hBw
  clear hBw
  go_loopw [27, 28, 29] (fun i _ _ wr => ∃ k : Nat, k ≤ S.length ∧ i = .int .i64 k ∧ Ext w6 wr ∧ ∃ (gs : List Gap) (clock : Nat) (vs : List Int) (gb gc : Nat → Nat), Hid (WatchAt wr Bw wb mb gs clock false) ∧ Hid (Safe n vs (gs.map Gap.gc) (S.drop k)) ∧ Hid (RefAt wr mh mc n gb gc vs) ∧ Hid (∀ i, i < n → Bw ≤ gb i) ∧ WOk vs ∧ Hid (doW n vs (S.drop k) = doW n ws S)) (fun i _ _ _ => S.length - (intOf i).toNat)
  case atStart => exact ⟨0, Nat.zero_le _, rfl, HE2.out, [], 0, ws, gb, gc, HW2, HS, HR2, HGB, HWs.out, Lib.hid rfl⟩
  case round =>
    obtain ⟨k, hk, rfl, hEr, gs, clock, vs, gb, gc, HWr, HSr, HRr, HGB, hwv, HDR⟩ := hrel
    have HEr := Lib.hid hEr
    have HWv := Lib.hid hwv
    clear hEr hwv HW2 HR2 HE2
    by_cases hlt : k < S.length
    · have hz : S[k]? = some S[k] := List.getElem?_eq_getElem hlt
      have h6 := Lib.hid (HS6.out _ (List.getElem_mem hlt))
      have hdr := HSr.out
      have hdo := HDR.out
      rw [List.drop_eq_getElem_cons hlt] at hdr hdo
      rw [doW_cons] at hdo
      generalize S[k] = s at *
      have HSd := Lib.hid hdr
      have HDR1 := Lib.hid hdo
      clear hdo HDR
      have HOr := own_ext HO.out HEr.out
      obtain ⟨g, rfl, _, hgs, _, hcl, _⟩ := own_at HOr (by omega)
      obtain ⟨x0, x1, x2, x3, x4, x5, x6, x7, x8, x9⟩ := step_at hcl k s hz
      obtain ⟨kd, asd, lv, tb, pl, fi, va, dst', fr', ii⟩ := s
      dsimp only at *
      have HB4 := Lib.hid (heap_alloc_new wr (.cells #[.int .i64 kd, .int .i64 asd, .int .i64 lv, .int .i64 tb, .int .i64 pl, .int .i64 fi, .int .u64 va, .int .i64 dst', .int .i64 fr', .int .i64 ii] 46))
      have HW4 := Lib.hid (HWr.out.ext ((Ext.refl wr).alloc (.cells #[.int .i64 kd, .int .i64 asd, .int .i64 lv, .int .i64 tb, .int .i64 pl, .int .i64 fi, .int .u64 va, .int .i64 dst', .int .i64 fr', .int .i64 ii] 46)))
      have HE4 := Lib.hid (HEr.out.alloc (.cells #[.int .i64 kd, .int .i64 asd, .int .i64 lv, .int .i64 tb, .int .i64 pl, .int .i64 fi, .int .u64 va, .int .i64 dst', .int .i64 fr', .int .i64 ii] 46))
      have HR4 := Lib.hid (HRr.out.alloc (.cells #[.int .i64 kd, .int .i64 asd, .int .i64 lv, .int .i64 tb, .int .i64 pl, .int .i64 fi, .int .u64 va, .int .i64 dst', .int .i64 fr', .int .i64 ii] 46))
      have hB4 : Bw ≤ (wr.alloc (.cells #[.int .i64 kd, .int .i64 asd, .int .i64 lv, .int .i64 tb, .int .i64 pl, .int .i64 fi, .int .u64 va, .int .i64 dst', .int .i64 fr', .int .i64 ii] 46)).heap.size := by rw [← HBw.out]; exact HE4.out.size
      have hBWw : w6.heap.size ≤ Bw := by rw [HBw.out]; exact Nat.le_refl _
      clear hcl hz hdr HOr HWr HEr HRr HSr
      rcases safe_cases HSd.out with ⟨hk1, hso, htn, L, hL, hm, h⟩ | ⟨hk1, p0, p1, h⟩ | ⟨hk1, hso, h⟩ | ⟨hk1, h⟩
      · dsimp only at hk1 hL htn hm h
        subst hk1 hL
        rcases h with ⟨ho, hn, hG, h⟩ | ⟨ho, hn, hG, h⟩
        · have HSn := Lib.hid h
          clear h HSd
          have HHas := Lib.hid (hasB_of (n := n) ⟨hm.t0, htn, hm.p0, hm.p1⟩)
          have hm' := hm
          obtain ⟨T, rfl⟩ := Int.eq_ofNat_of_zero_le hm.t0
          obtain ⟨P, rfl⟩ := Int.eq_ofNat_of_zero_le hm.p0
          have hTn : T < n := by omega
          have hP8 : P < 8 := by have := hm.p1; omega
          have hP8' : (P : Int) < 8 := by omega
          have hT8' : (T : Int) < n := by omega
          rw [Int.toNat_natCast, Int.toNat_natCast] at ho
          have HMay := Lib.hid hm
          have HO1 := Lib.hid ho
          have HN1 := Lib.hid hn
          have HG1 := Lib.hid hG
          have hold := HWv.out.getD (T * 8 + P)
          have HOld := Lib.hid hold
          have HSo := Lib.hid hso
          clear hm hm' ho hn hG hold
          go_wp2_with (go_at_call 19; refine (ref03_HasB _ _ _ _ _ _ _ HHas.out).mono ?_; rintro e w' ⟨rfl, hww⟩; rw [hww]; clear hww w')
          obtain ⟨c0, c1, c2, c3, c4, c5, c6, c7, c8, c9, cf⟩ := cells10 HB4.out
          have y0 := HR4.out.hcell T hTn
          have y1 := HR4.out.cell T P hTn hP8
          have hccT := HR4.out.cc T hTn
          have hncT := HR4.out.nc
          generalize (wr.alloc (.cells #[.int .i64 1, .int .i64 asd, .int .i64 L, .int .i64 T, .int .i64 P, .int .i64 fi, .int .u64 va, .int .i64 dst', .int .i64 fr', .int .i64 ii] 46)) = W4 at *
          generalize wr.heap.size = xb at *
          generalize hX : vs.getD (T * 8 + P) 0 = X at *
          refine wp_region_still_tail 22 (by kernel_rfl) (by kernel_rfl) ?_
          simp only [List.take_succ_cons, List.take_zero, List.drop_succ_cons, List.drop_zero]
          repeat still_step
          refine wpStill_nil ?_
          go_wp2_with fail
          clear y0 y1 c0 c1 c2 c3 c4 c5 c6 c7 c8 c9 cf
          refine (watch_close w6 _ HE4.out.drew (HW4.out.ext ((Ext.refl W4).drew)) hBWw hB4 HMay.out X va HOld.out.1 HOld.out.2 HSo.out.1 HSo.out.2 HO1.out HN1.out (fun g hg => HG1.out g.gc (List.mem_map_of_mem hg))).mono ?_
          rintro e W5 ⟨rfl, hE5, hK5, tb5, bo5, hW5⟩
          have HSf := Lib.hid (show Hid (Safe n (stepW n vs ⟨1, asd, L, T, P, fi, va, dst', fr', ii⟩) ((gs ++ [(⟨(T : Int), (P : Int), asd, L, fi, List.replicate (spanL L).toNat false, X, tb5, bo5⟩ : Gap)]).map Gap.gc) (S.drop (k + 1))) from by rw [List.map_append]; exact HSn.out)
          have HW5 := Lib.hid hW5
          have HE5 := Lib.hid hE5
          have HR5 := Lib.hid (RefAt.keepG (by repeat (first | exact HR4.out | apply RefAt.more | apply RefAt.alloc | apply RefAt.drew | apply RefAt.drewN)) hK5)
          have HB5 := Lib.hid (hK5 _ _ (box_drew HB4.out) (notG_of (by decide) (by decide)))
          have hso := HSo.out
          clear hW5 hE5 hK5 HW4 HE4 HR4 HB4
          obtain ⟨c0, c1, c2, c3, c4, c5, c6, c7, c8, c9, cf⟩ := cells10 HB5.out
          go_wp2_with fail
          have HDo := ref12_Do1 w6 W5 HE5.out HR5.out (by rw [HBw.out]; exact hmw) (fun i hi => by rw [HBw.out]; exact HGB.out i hi) ⟨1, asd, L, T, P, fi, va, dst', fr', ii⟩
          dsimp only at HDo
          with_reducible refine HDo.mono ?_
          clear HDo
          rintro e w9 ⟨rfl, hE9, hK9, gb9, gc9, hr9, hgb9⟩
          have HW9 := Lib.hid (HW5.out.keepW hK9)
          have HE9 := Lib.hid hE9
          have HR9 := Lib.hid (show RefAt w9 mh mc n gb9 gc9 (stepW n vs ⟨1, asd, L, T, P, fi, va, dst', fr', ii⟩) from hr9)
          have HGB9 := Lib.hid (show ∀ i, i < n → Bw ≤ gb9 i from fun i hi => by rw [← HBw.out]; exact hgb9 i hi)
          clear hE9 hK9 hr9 hgb9
          go_wp2_with fail
          go_roundw
          case rel => exact ⟨k + 1, by omega, by go_num, HE9.out, _, _, _, _, _, HW9, HSf.out, HR9, HGB9, WOk_stepW HWv.out hso, HDR1⟩
          case measure => simp [intOf]; omega
        · have HSn := Lib.hid h
          clear h HSd
          have HHas := Lib.hid (hasB_of (n := n) ⟨hm.t0, htn, hm.p0, hm.p1⟩)
          have hm' := hm
          obtain ⟨T, rfl⟩ := Int.eq_ofNat_of_zero_le hm.t0
          obtain ⟨P, rfl⟩ := Int.eq_ofNat_of_zero_le hm.p0
          have hTn : T < n := by omega
          have hP8 : P < 8 := by have := hm.p1; omega
          have hP8' : (P : Int) < 8 := by omega
          have hT8' : (T : Int) < n := by omega
          rw [Int.toNat_natCast, Int.toNat_natCast] at ho
          have HMay := Lib.hid hm
          have HO1 := Lib.hid ho
          have HN1 := Lib.hid hn
          have HG1 := Lib.hid hG
          have hold := HWv.out.getD (T * 8 + P)
          have HOld := Lib.hid hold
          have HSo := Lib.hid hso
          clear hm hm' ho hn hG hold
          go_wp2_with (go_at_call 19; refine (ref03_HasB _ _ _ _ _ _ _ HHas.out).mono ?_; rintro e w' ⟨rfl, hww⟩; rw [hww]; clear hww w')
          obtain ⟨c0, c1, c2, c3, c4, c5, c6, c7, c8, c9, cf⟩ := cells10 HB4.out
          have y0 := HR4.out.hcell T hTn
          have y1 := HR4.out.cell T P hTn hP8
          have hccT := HR4.out.cc T hTn
          have hncT := HR4.out.nc
          generalize (wr.alloc (.cells #[.int .i64 1, .int .i64 asd, .int .i64 L, .int .i64 T, .int .i64 P, .int .i64 fi, .int .u64 va, .int .i64 dst', .int .i64 fr', .int .i64 ii] 46)) = W4 at *
          generalize wr.heap.size = xb at *
          generalize hX : vs.getD (T * 8 + P) 0 = X at *
          refine wp_region_still_tail 22 (by kernel_rfl) (by kernel_rfl) ?_
          simp only [List.take_succ_cons, List.take_zero, List.drop_succ_cons, List.drop_zero]
          repeat still_step
          refine wpStill_nil ?_
          go_wp2_with fail
          clear y0 y1 c0 c1 c2 c3 c4 c5 c6 c7 c8 c9 cf
          refine (watch_open w6 _ HE4.out.drew (HW4.out.ext ((Ext.refl W4).drew)) hBWw hB4 HMay.out X va HOld.out.1 HOld.out.2 HSo.out.1 HSo.out.2 HO1.out HN1.out (fun g hg hk => HG1.out g.gc (List.mem_map_of_mem hg) hk)).mono ?_
          rintro e W5 ⟨rfl, hE5, hK5, hW5⟩
          have HSf := Lib.hid (show Hid (Safe n (stepW n vs ⟨1, asd, L, T, P, fi, va, dst', fr', ii⟩) ((gs.filter fun g => !decide (g.t = (T : Int) ∧ g.p = (P : Int))).map Gap.gc) (S.drop (k + 1))) from by rw [key_gc]; exact HSn.out)
          have HW5 := Lib.hid hW5
          have HE5 := Lib.hid hE5
          have HR5 := Lib.hid (RefAt.keepG (by repeat (first | exact HR4.out | apply RefAt.more | apply RefAt.alloc | apply RefAt.drew | apply RefAt.drewN)) hK5)
          have HB5 := Lib.hid (hK5 _ _ (box_drew HB4.out) (notG_of (by decide) (by decide)))
          have hso := HSo.out
          clear hW5 hE5 hK5 HW4 HE4 HR4 HB4
          obtain ⟨c0, c1, c2, c3, c4, c5, c6, c7, c8, c9, cf⟩ := cells10 HB5.out
          go_wp2_with fail
          have HDo := ref12_Do1 w6 W5 HE5.out HR5.out (by rw [HBw.out]; exact hmw) (fun i hi => by rw [HBw.out]; exact HGB.out i hi) ⟨1, asd, L, T, P, fi, va, dst', fr', ii⟩
          dsimp only at HDo
          with_reducible refine HDo.mono ?_
          clear HDo
          rintro e w9 ⟨rfl, hE9, hK9, gb9, gc9, hr9, hgb9⟩
          have HW9 := Lib.hid (HW5.out.keepW hK9)
          have HE9 := Lib.hid hE9
          have HR9 := Lib.hid (show RefAt w9 mh mc n gb9 gc9 (stepW n vs ⟨1, asd, L, T, P, fi, va, dst', fr', ii⟩) from hr9)
          have HGB9 := Lib.hid (show ∀ i, i < n → Bw ≤ gb9 i from fun i hi => by rw [← HBw.out]; exact hgb9 i hi)
          clear hE9 hK9 hr9 hgb9
          go_wp2_with fail
          go_roundw
          case rel => exact ⟨k + 1, by omega, by go_num, HE9.out, _, _, _, _, _, HW9, HSf.out, HR9, HGB9, WOk_stepW HWv.out hso, HDR1⟩
          case measure => simp [intOf]; omega
      · dsimp only at hk1 p0 p1 h
        subst hk1
        have HSn := Lib.hid h
        clear h HSd
        go_wp2_with fail
        refine (watch_Told w6 _ HE4.out HW4.out hBWw asd fi p0 p1).mono ?_
        rintro e W5 ⟨rfl, hE5, hK5, hW5⟩
        have HSf := Lib.hid (show Hid (Safe n (stepW n vs ⟨2, asd, lv, tb, pl, fi, va, dst', fr', ii⟩) ((gs.map (tellIf asd fi)).map Gap.gc) (S.drop (k + 1))) from by rw [tell_gc]; exact HSn.out)
        have HW5 := Lib.hid hW5
        have HE5 := Lib.hid hE5
        have HR5 := Lib.hid (HR4.out.keepG hK5)
        have HB5 := Lib.hid (hK5 _ _ HB4.out (notG_of (by decide) (by decide)))
        clear hW5 hE5 hK5 HW4 HE4 HR4 HB4
        obtain ⟨c0, c1, c2, c3, c4, c5, c6, c7, c8, c9, cf⟩ := cells10 HB5.out
        go_wp2_with fail
        have HDo := ref12_Do1 w6 W5 HE5.out HR5.out (by rw [HBw.out]; exact hmw) (fun i hi => by rw [HBw.out]; exact HGB.out i hi) ⟨2, asd, lv, tb, pl, fi, va, dst', fr', ii⟩
        dsimp only at HDo
        with_reducible refine HDo.mono ?_
        clear HDo
        rintro e w9 ⟨rfl, hE9, hK9, gb9, gc9, hr9, hgb9⟩
        have HW9 := Lib.hid (HW5.out.keepW hK9)
        have HE9 := Lib.hid hE9
        have HR9 := Lib.hid (show RefAt w9 mh mc n gb9 gc9 (stepW n vs ⟨2, asd, lv, tb, pl, fi, va, dst', fr', ii⟩) from hr9)
        have HGB9 := Lib.hid (show ∀ i, i < n → Bw ≤ gb9 i from fun i hi => by rw [← HBw.out]; exact hgb9 i hi)
        clear hE9 hK9 hr9 hgb9
        go_wp2_with fail
        go_roundw
        case rel => exact ⟨k + 1, by omega, by go_num, HE9.out, _, _, _, _, _, HW9, HSf.out, HR9, HGB9, by rw [stepW_none (by show (2 : Int) ≠ 1; omega) (by show (2 : Int) ≠ 4; omega) (by show (2 : Int) ≠ 5; omega)]; exact HWv.out, HDR1⟩
        case measure => simp [intOf]; omega
      · dsimp only at hk1 h
        have HSn := Lib.hid h
        clear h HSd
        rcases hk1 with rfl | rfl
        · have HSo := Lib.hid hso
          clear hso
          have HSf := HSn
          have HW5 := HW4
          have HE5 := HE4
          have HR5 := HR4
          have HB5 := HB4
          have hso := HSo.out
          clear HW4 HE4 HR4 HB4
          go_wp2_with fail
          have hsz : (wr.alloc (.cells #[.int .i64 4, .int .i64 asd, .int .i64 lv, .int .i64 tb, .int .i64 pl, .int .i64 fi, .int .u64 va, .int .i64 dst', .int .i64 fr', .int .i64 ii] 46)).heap.size = wr.heap.size + 1 := by simp
          generalize (wr.alloc (.cells #[.int .i64 4, .int .i64 asd, .int .i64 lv, .int .i64 tb, .int .i64 pl, .int .i64 fi, .int .u64 va, .int .i64 dst', .int .i64 fr', .int .i64 ii] 46)) = W5 at *
          generalize wr.heap.size = xb at *
          have HDo := ref12_Do1 w6 W5 HE5.out HR5.out (by rw [HBw.out]; exact hmw) (fun i hi => by rw [HBw.out]; exact HGB.out i hi) ⟨4, asd, lv, tb, pl, fi, va, dst', fr', ii⟩
          dsimp only at HDo
          rw [hsz] at HDo
          clear hsz
          with_reducible refine HDo.mono ?_
          clear HDo
          rintro e w9 ⟨rfl, hE9, hK9, gb9, gc9, hr9, hgb9⟩
          have HW9 := Lib.hid (HW5.out.keepW hK9)
          have HE9 := Lib.hid hE9
          have HR9 := Lib.hid (show RefAt w9 mh mc n gb9 gc9 (stepW n vs ⟨4, asd, lv, tb, pl, fi, va, dst', fr', ii⟩) from hr9)
          have HGB9 := Lib.hid (show ∀ i, i < n → Bw ≤ gb9 i from fun i hi => by rw [← HBw.out]; exact hgb9 i hi)
          clear hE9 hK9 hr9 hgb9
          go_wp2_with fail
          go_roundw
          case rel => exact ⟨k + 1, by omega, by go_num, HE9.out, _, _, _, _, _, HW9, HSf.out, HR9, HGB9, WOk_stepW HWv.out hso, HDR1⟩
          case measure => simp [intOf]; omega
        · have HSo := Lib.hid hso
          clear hso
          have HSf := HSn
          have HW5 := HW4
          have HE5 := HE4
          have HR5 := HR4
          have HB5 := HB4
          have hso := HSo.out
          clear HW4 HE4 HR4 HB4
          go_wp2_with fail
          have hsz : (wr.alloc (.cells #[.int .i64 5, .int .i64 asd, .int .i64 lv, .int .i64 tb, .int .i64 pl, .int .i64 fi, .int .u64 va, .int .i64 dst', .int .i64 fr', .int .i64 ii] 46)).heap.size = wr.heap.size + 1 := by simp
          generalize (wr.alloc (.cells #[.int .i64 5, .int .i64 asd, .int .i64 lv, .int .i64 tb, .int .i64 pl, .int .i64 fi, .int .u64 va, .int .i64 dst', .int .i64 fr', .int .i64 ii] 46)) = W5 at *
          generalize wr.heap.size = xb at *
          have HDo := ref12_Do1 w6 W5 HE5.out HR5.out (by rw [HBw.out]; exact hmw) (fun i hi => by rw [HBw.out]; exact HGB.out i hi) ⟨5, asd, lv, tb, pl, fi, va, dst', fr', ii⟩
          dsimp only at HDo
          rw [hsz] at HDo
          clear hsz
          with_reducible refine HDo.mono ?_
          clear HDo
          rintro e w9 ⟨rfl, hE9, hK9, gb9, gc9, hr9, hgb9⟩
          have HW9 := Lib.hid (HW5.out.keepW hK9)
          have HE9 := Lib.hid hE9
          have HR9 := Lib.hid (show RefAt w9 mh mc n gb9 gc9 (stepW n vs ⟨5, asd, lv, tb, pl, fi, va, dst', fr', ii⟩) from hr9)
          have HGB9 := Lib.hid (show ∀ i, i < n → Bw ≤ gb9 i from fun i hi => by rw [← HBw.out]; exact hgb9 i hi)
          clear hE9 hK9 hr9 hgb9
          go_wp2_with fail
          go_roundw
          case rel => exact ⟨k + 1, by omega, by go_num, HE9.out, _, _, _, _, _, HW9, HSf.out, HR9, HGB9, WOk_stepW HWv.out hso, HDR1⟩
          case measure => simp [intOf]; omega
      · exact absurd hk1 h6.out
    · obtain rfl : k = S.length := by omega
      have HBr := Lib.hid (watch_Broken wr HWr.out)
      have hdo := HDR.out
      rw [List.drop_length] at hdo
      obtain ⟨wz, rfl⟩ : ∃ wz : World, wz = wr := ⟨_, rfl⟩
      have HRa := Lib.hid (show RefAt wz mh mc n gb gc (doW n ws S) from hdo ▸ HRr.out)
      have HRb := Lib.hid (show RefAt wz h hc n gb0 gc0 ws from HR.out.kept0 HEr.out.grow)
      have HEz := Lib.hid (show Ext w wz from HE6.out.trans HEr.out)
      clear hlt HDR hdo HRr HWr HEr HSr HR HE6 HGB HWv HO HS HS6
      generalize doW n ws S = us at *
      go_upto_region 48 with fail
      refine keeps_walks w HW hn1 hn2 rs ps h4' h20' ra rcap fa fcap HPv hrcap hfcap HRC frm dst hf0 hf1 ht0 ht1 wz HBr HRa HRb HEz HWU HCo HWk _ _ ?_ ?_
      all_goals assumption

end Go.Proofs.Ythcdecgecabgaaa
