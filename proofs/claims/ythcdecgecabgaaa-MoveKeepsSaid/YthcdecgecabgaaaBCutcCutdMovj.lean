import Derived.Test.YthcdecgecabgaaaBBaseWord
import Derived.Test.YthcdecgecabgaaaBMerglMerkMovdRights
import Derived.Test.YthcdecgecabgaaaBPlaqRighttPltpMovc
import Derived.Test.YthcdecgecabgaaaWata
import Derived.Deep.DeepCutAuto
/- A region of a function's code, and what follows it in its sequence, taken out by a function: so a long walk is cut into theorems. -/
namespace Go.Proofs.Ythcdecgecabgaaa
open Go.RowKit

def isRegion (n : Nat) : Code → Bool
  | .region k _ _ => k == n
  | _ => false
def seqAt (n : Nat) : Code → Option (Code × Code)
  | .seq x y => bif isRegion n x then some (x, y) else match seqAt n x with
    | some r => some r
    | none => seqAt n y
  | .block _ c => seqAt n c
  | .loop c => seqAt n c
  | .scope c => seqAt n c
  | .cond _ a b => match seqAt n a with
    | some r => some r
    | none => seqAt n b
  | _ => none
noncomputable def headAt (n : Nat) (c : Option Code) : Code := (((c.getD .skip |> seqAt n)).getD (.skip, .skip)).1
noncomputable def restAt (n : Nat) (c : Option Code) : Code := (((c.getD .skip |> seqAt n)).getD (.skip, .skip)).2

end Go.Proofs.Ythcdecgecabgaaa

/- What follows a sequence that begins with a region, in the sequence round it. -/
namespace Go.Proofs.Ythcdecgecabgaaa
open Go.RowKit

def heads (n : Nat) : Code → Bool
  | .region k _ _ => k == n
  | .seq x _ => heads n x
  | _ => false
def seqUp (n : Nat) : Code → Option Code
  | .seq x y => bif heads n x && !isRegion n x then some y else match seqUp n x with
    | some r => some r
    | none => seqUp n y
  | .block _ c => seqUp n c
  | .loop c => seqUp n c
  | .scope c => seqUp n c
  | .cond _ a b => match seqUp n a with
    | some r => some r
    | none => seqUp n b
  | _ => none
noncomputable def upAt (n : Nat) (c : Option Code) : Code := ((c.getD .skip |> seqUp n)).getD .skip

end Go.Proofs.Ythcdecgecabgaaa

/- The end of the law paviorlaw18.MoveKeeps: what the walks find in either memory. -/
namespace Go.Proofs.Ythcdecgecabgaaa
open Go.RowKit
set_option linter.unusedVariables false
set_option linter.unusedSimpArgs false
attribute [local go_sem] setCell_drewN alloc_drewN lt_moreE le_moreE lt_moreK le_moreK cell_more frozen_more set_more drew_more drewN_more

set_option maxRecDepth 1000000 in
set_option maxHeartbeats 16000000 in
theorem keeps_walks (w : World) {n : Nat} {ws : List Int} (HW : Hid (WOk ws)) (hn1 : 1 ≤ n) (hn2 : n ≤ 24) (rs ps : List (Int × Int)) (h4' : rs.length ≤ 4) (h20' : ps.length ≤ 20) (ra : Option Addr) (rcap : Nat) (fa : Option Addr) (fcap : Nat) (HPv : Hid (SlRd w (.slice fa ps.length fcap) 2 (ps.map slotC))) (hrcap : rs.length ≤ maxLen) (hfcap : ps.length ≤ maxLen) (HRC : Hid (∀ (i : Nat) (c : List Value), (List.map slotC rs)[i]? = some c → c ≠ [] → ∃ b o, ra = some ⟨b, o, none⟩ ∧ b < w.heap.size ∧ ∀ j u, c[j]? = some u → w.cell? ⟨b, o + (i * 2 + j), none⟩ = some u)) (frm dst : Int) (hf0 : 0 ≤ frm) (hf1 : frm < n) (ht0 : 0 ≤ dst) (ht1 : dst < n)
    {h hc mh mc wb : Nat} {gb gc gb0 gc0 : Nat → Nat} {us : List Int} (wz : World) (HBr : Hid (Calls Try.prog 23 #[.pointer (some ⟨wb, 0, none⟩)] wz fun e w' => e = .returned (.bool false) ∧ w' = wz)) (HRa : Hid (RefAt wz mh mc n gb gc us)) (HRb : Hid (RefAt wz h hc n gb0 gc0 ws)) (HEz : Hid (Ext w wz)) (HWU : Hid (WOk us)) (HCo : Hid (∀ (i : Nat), i < 8 → (us).getD (dst.toNat * 8 + i) 0 = ws.getD (frm.toNat * 8 + i) 0)) (HWk : Hid (∀ (i : Nat), i < rs.length → ∀ (q : Int), 0 ≤ q → q < 4096 → ∃ x : Found, walkAt ws n q 4 0 (rs.getD i (0, 0)).2 = some x ∧ walkAt us n q 4 0 (rs.getD i (0, 0)).2 = some (if hasW ps (rs.getD i (0, 0)).1 q = true then { x with fFrame := dst, fBase := dst } else x)))
    {c0 c1 c6 c7 c8 c9 c10 c11 c12 c14 c16 c17 c18 c19 c20 c21 c22 c23 c24 c27 c28 c29 c30 c31 c32 c33 c34 c35 c36 c37 c38 c39 c40 c41 c42 c43 c44 c45 c46 c47 c48 c49 c50 c51 c52 c53 c54 c55 c56 c57 c58 c59 c60 c61 c62 c63 c64 c65 c66 c67 c68 c69 c70 c71 c72 c73 c74 c75 c76 c77 c78 c79 c80 c81 c82 c83 c84 c85 c86 c87 c88 c89 c90 c91 c92 c93 c94 c95 c96 c97 c98 c99 c100 c101 c102 c103 c104 c105 c106 c107 c108 c109 c110 c111 c112 c113 c114 c115 c116 c117 c118 c119 c120 c121 c122 c123 c124 c125 c126 c127 c128 c129 c130 c131 c132 c133 c134 c135 c136 c137 c138 c139 c140 c141 c142 c143 c144 c145 c146 c147 c148 c149 c150 c151 c152 c153 c154 c155 c156 c157 c158 c159 c160 c161 c162 c163 c164 c165 c166 c167 c168 c169 c170 c171 c172 c173 c174 c175 c176 c177 c178 c179 c180 c181 c182 c183 c184 c185 c186 c187 c188 c189 c190 c191 c192 c193 c194 c195 c196 c197 c198 c199 c200 c201 c202 c203 c204 c205 c206 c207 c208 c209 c210 c211 c212 c213 c214 c215 c216 c217 c218 c219 c220 c221 c222 c223 c224 c225 c226 c227 c228 c229 c230 c231 c232 c233 c234 c235 c236 c237 c238 c239 c240 c241 c242 c243 c244 c245 c246 c247 c248 c249 c250 c251 c252 c253 c254 c255 c256 c257 c258 c259 c260 c261 c262 c263 c264 c265 c266 c267 c268 c269 c270 c271 c272 c273 c274 c275 c276 c277 c278 c279 c280 c281 c282 c283 c284 c285 c286 c287 c288 c289 c290 c291 c292 c293 c294 c295 c296 c297 c298 c299 c300 c301 c302 c303 c304 c305 c306 c307 c308 c309 c310 c311 c312 c313 c314 : Value}
    (K K1 : Act → World → Prop) (hK : ∀ (a : Act) (w' : World), Code.wp Try.prog (restAt 48 Try.f3.body) (Exit.then K1 (bodyPost Try.prog Try.f3 fun e w' => Ext w w' ∧ e = .returned (.bool true))) a w' → K a w') (hK1 : ∀ (a : Act) (w' : World), Code.wp Try.prog (upAt 48 Try.f3.body) (bodyPost Try.prog Try.f3 fun e w' => Ext w w' ∧ e = .returned (.bool true)) a w' → K1 a w') :
    Code.wp Try.prog (headAt 48 Try.f3.body) (Exit.then K (Exit.then K1 (bodyPost Try.prog Try.f3 fun e w' => Ext w w' ∧ e = .returned (.bool true)))) ⟨#[c0, c1, (.slice ra rs.length rcap), (.slice fa ps.length fcap), (.int .i64 frm), (.int .i64 dst), c6, c7, c8, c9, c10, c11, c12, (.bool true), c14, (.slice (some ⟨h, 0, none⟩) n hc), c16, c17, c18, c19, c20, c21, c22, c23, c24, (.pointer (some ⟨wb, 0, none⟩)), (.slice (some ⟨mh, 0, none⟩) n mc), c27, c28, c29, c30, c31, c32, c33, c34, c35, c36, c37, c38, c39, c40, c41, c42, c43, c44, c45, c46, c47, c48, c49, c50, c51, c52, c53, c54, c55, c56, c57, c58, c59, c60, c61, c62, c63, c64, c65, c66, c67, c68, c69, c70, c71, c72, c73, c74, c75, c76, c77, c78, c79, c80, c81, c82, c83, c84, c85, c86, c87, c88, c89, c90, c91, c92, c93, c94, c95, c96, c97, c98, c99, c100, c101, c102, c103, c104, c105, c106, c107, c108, c109, c110, c111, c112, c113, c114, c115, c116, c117, c118, c119, c120, c121, c122, c123, c124, c125, c126, c127, c128, c129, c130, c131, c132, c133, c134, c135, c136, c137, c138, c139, c140, c141, c142, c143, c144, c145, c146, c147, c148, c149, c150, c151, c152, c153, c154, c155, c156, c157, c158, c159, c160, c161, c162, c163, c164, c165, c166, c167, c168, c169, c170, c171, c172, c173, c174, c175, c176, c177, c178, c179, c180, c181, c182, c183, c184, c185, c186, c187, c188, c189, c190, c191, c192, c193, c194, c195, c196, c197, c198, c199, c200, c201, c202, c203, c204, c205, c206, c207, c208, c209, c210, c211, c212, c213, c214, c215, c216, c217, c218, c219, c220, c221, c222, c223, c224, c225, c226, c227, c228, c229, c230, c231, c232, c233, c234, c235, c236, c237, c238, c239, c240, c241, c242, c243, c244, c245, c246, c247, c248, c249, c250, c251, c252, c253, c254, c255, c256, c257, c258, c259, c260, c261, c262, c263, c264, c265, c266, c267, c268, c269, c270, c271, c272, c273, c274, c275, c276, c277, c278, c279, c280, c281, c282, c283, c284, c285, c286, c287, c288, c289, c290, c291, c292, c293, c294, c295, c296, c297, c298, c299, c300, c301, c302, c303, c304, c305, c306, c307, c308, c309, c310, c311, c312, c313, c314], []⟩ wz := by
  conv at hK => intro a w'; arg 1; arg 2; whnf
  conv at hK1 => intro a w'; arg 1; arg 2; whnf
  conv => arg 2; whnf
  have n1 : 1 ≤ n := hn1
  have n2 : n ≤ 512 := by omega
  have HWs := HW
  go_wp2_with fail
  refine HBr.out.mono ?_
  rintro e w' ⟨rfl, hww⟩
  rw [hww]
  clear hww w'
  obtain ⟨T, rfl⟩ := Int.eq_ofNat_of_zero_le ht0
  obtain ⟨F, rfl⟩ := Int.eq_ofNat_of_zero_le hf0
  rw [Int.toNat_natCast, Int.toNat_natCast] at HCo
  go_wp2_with fail
  go_loopw [30] (fun i wr => ∃ k : Nat, k ≤ 8 ∧ i = .int .i64 k ∧ Ext wz wr) (fun i _ => 8 - (intOf i).toNat)
  case atStart => exact ⟨0, by omega, rfl, Ext.refl _⟩
  case round =>
    obtain ⟨k, hk, rfl, ⟨x, rfl⟩⟩ := hrel
    by_cases hlt : k < 8
    · have hTn : T < n := by omega
      have hFn : F < n := by omega
      have y0 := HRa.out.hcell T hTn
      have y1 := HRa.out.cell T k hTn hlt
      have y2 := HRa.out.cc T hTn
      have y3 := HRa.out.nc
      have z0 := HRb.out.hcell F hFn
      have z1 := HRb.out.cell F k hFn hlt
      have z2 := HRb.out.cc F hFn
      have z3 := HRb.out.nc
      rw [HCo.out k hlt] at y1
      have i0 : (T : Int) < n := by omega
      have i1 : (F : Int) < n := by omega
      have i2 : 0 ≤ (T : Int) := by omega
      have i3 : 0 ≤ (F : Int) := by omega
      have i4 : (k : Int) < 8 := by omega
      have i5 : 0 ≤ (k : Int) := by omega
      have lt1 := HRa.out.lth
      have lt2 := HRa.out.ltg T hTn
      have lt3 := HRb.out.lth
      have lt4 := HRb.out.ltg F hFn
      obtain ⟨u1, u2, u3⟩ := lt_facts HRa.out.lth
      obtain ⟨u4, u5, u6⟩ := lt_facts (HRa.out.ltg T hTn)
      obtain ⟨u7, u8, u9⟩ := lt_facts HRb.out.lth
      obtain ⟨u10, u11, u12⟩ := lt_facts (HRb.out.ltg F hFn)
      generalize ws.getD (F * 8 + k) 0 = X at *
      go_wp2_with fail
      go_quiet (fail)
      go_wp2_with fail
      go_roundw
      case rel => exact ⟨k + 1, by omega, by go_num, (by repeat (first | exact Ext.refl _ | apply Ext.more | apply Ext.alloc | apply Ext.drew | apply Ext.drewN))⟩
      case measure => simp [intOf]; omega
    · have hk3 : ((k : Int) < 8) = False := eq_false (by omega)
      clear hlt hk
      have HRa2 := Lib.hid (show RefAt (more wz x) mh mc n gb gc us from (by repeat (first | exact HRa.out | apply RefAt.more | apply RefAt.alloc | apply RefAt.drew | apply RefAt.drewN)))
      have HRb2 := Lib.hid (show RefAt (more wz x) h hc n gb0 gc0 ws from (by repeat (first | exact HRb.out | apply RefAt.more | apply RefAt.alloc | apply RefAt.drew | apply RefAt.drewN)))
      have HEz2 := Lib.hid (show Ext w (more wz x) from HEz.out.more x)
      clear HRa HRb HEz HCo
      generalize more wz x = wy at *
      obtain ⟨_, _, hpe, _, hpc⟩ := HPv.out.form
      rw [List.length_map] at hpe
      cases hpe
      have HPC := Lib.hid hpc
      clear hpc
      go_wp2_with fail
      go_loopw [31, 32, 33, 34, 35, 36, 37, 38] (fun i _ _ _ _ _ _ _ wr => ∃ q : Nat, q ≤ rs.length ∧ i = .int .i64 q ∧ Ext wy wr) (fun i _ _ _ _ _ _ _ _ => rs.length - (intOf i).toNat)
      case atStart => exact ⟨0, by omega, rfl, Ext.refl _⟩
      case round =>
        obtain ⟨q, hq, rfl, hEo⟩ := hrel
        obtain ⟨wo, rfl⟩ : ∃ wo : World, wo = wr := ⟨_, rfl⟩
        have HEo := Lib.hid hEo
        clear hEo
        by_cases hltq : q < rs.length
        · have hz : rs[q]? = some rs[q] := List.getElem?_eq_getElem hltq
          obtain ⟨b1, o1, rfl, hb1, hc1⟩ := HRC.out q (slotC rs[q]) (by rw [List.getElem?_map, hz]; rfl) (by simp [slotC])
          obtain ⟨x0', x1'⟩ := slotZ_at hc1
          have x0 := (HEz2.out.grow).cell x0' (by simp)
          have x1 := (HEz2.out.grow).cell x1' (by simp)
          have hszy := HEz2.out.size
          have hb1y : b1 < wy.heap.size := by omega
          obtain ⟨k1, k2, k3⟩ := lt_facts hb1y
          have hqi : (q : Int) < rs.length := by omega
          have hqi0 : 0 ≤ (q : Int) := by omega
          have hwq := HWk.out q hltq
          rw [show rs.getD q (0, 0) = rs[q] from by rw [List.getD_eq_getElem?_getD, hz]; rfl] at hwq
          have HWq := Lib.hid hwq
          generalize rs[q] = z at *
          obtain ⟨za, zb⟩ := z
          dsimp only at x0 x1
          clear hz hc1 x0' x1' hwq
          go_wp2_with fail
          go_loopw [32, 33, 34, 35, 36, 37, 38] (fun i _ _ _ _ _ _ wr => ∃ k : Nat, k ≤ 4096 ∧ i = .int .i64 k ∧ Ext wy wr) (fun i _ _ _ _ _ _ _ => 4096 - (intOf i).toNat)
          case atStart => exact ⟨0, by omega, rfl, HEo.out⟩
          case round =>
            obtain ⟨k, hk, rfl, ⟨x, rfl⟩⟩ := hrel
            by_cases hk2 : k < 4096
            · obtain ⟨fx, hx, hy⟩ := HWq.out k (by omega) (by omega)
              obtain ⟨bh, hbh⟩ : ∃ bh, hasW ps za (k : Int) = bh := ⟨_, rfl⟩
              (try dsimp only at hx); (try dsimp only at hy)
              rw [hbh] at hy
              obtain ⟨fy, hfy⟩ : ∃ fy : Found, (if bh = true then { fx with fFrame := (T : Int), fBase := (T : Int) } else fx) = fy := ⟨_, rfl⟩
              rw [hfy] at hy
              have HX := Lib.hid (fun w hr => ref04_Walk (w := w) (h := h) (hc := hc) (gb := gb0) (gc := gc0) hr HW.out zb k (by omega) (by omega) _ hx)
              have HY := Lib.hid (fun w hr => ref04_Walk (w := w) (h := mh) (hc := mc) (gb := gb) (gc := gc) hr HWU.out zb k (by omega) (by omega) _ hy)
              have HFy := Lib.hid hfy
              have HBh := Lib.hid hbh
              clear hx hy hfy hbh
              obtain ⟨F0, F1, F2, F3, F4, F5, F6, F7, F8, F9, F10⟩ := fx
              obtain ⟨Y0, Y1, Y2, Y3, Y4, Y5, Y6, Y7, Y8, Y9, Y10⟩ := fy
              go_wp2_with fail
              refine (HX.out _ (by repeat (first | exact HRb2.out | apply RefAt.more | apply RefAt.alloc | apply RefAt.drew | apply RefAt.drewN))).mono ?_
              rintro e w' ⟨⟨ex1, rfl⟩, rfl⟩
              rw [refV_s]
              go_wp2_with fail
              refine (HY.out _ (by repeat (first | exact HRa2.out | apply RefAt.more | apply RefAt.alloc | apply RefAt.drew | apply RefAt.drewN))).mono ?_
              rintro e W2 ⟨hE2, rfl⟩
              have HB2 := Lib.hid (boxE (heap_alloc_new _ _) hE2)
              have HE2 := Lib.hid (show Ext wy W2 from Ext.trans (by repeat (first | exact Ext.refl _ | apply Ext.more | apply Ext.alloc | apply Ext.drew | apply Ext.drewN)) hE2)
              have hg1 : wy.heap.size ≤ (more (more wy x) ex1).heap.size := by simp only [size_more]; omega
              have hb12 : (more (more wy x) ex1).heap.size < W2.heap.size := (Array.getElem?_eq_some_iff.1 HB2.out).1
              clear hE2
              generalize (more (more wy x) ex1).heap.size = b33 at *
              rw [refV_s]
              go_wp2_with fail
              have HB3 := Lib.hid (box_alloc HB2.out (.cells #[.int .i64 Y0, .int .i64 Y1, .int .i64 Y2, .int .i64 Y3, .int .i64 Y4, .int .i64 Y5, .int .i64 Y6, .int .i64 Y7, .bool Y8, .bool Y9, .bool Y10] 53))
              have HC3 := Lib.hid (heap_alloc_new W2 (.cells #[.int .i64 Y0, .int .i64 Y1, .int .i64 Y2, .int .i64 Y3, .int .i64 Y4, .int .i64 Y5, .int .i64 Y6, .int .i64 Y7, .bool Y8, .bool Y9, .bool Y10] 53))
              have HE3 := Lib.hid (HE2.out.alloc (.cells #[.int .i64 Y0, .int .i64 Y1, .int .i64 Y2, .int .i64 Y3, .int .i64 Y4, .int .i64 Y5, .int .i64 Y6, .int .i64 Y7, .bool Y8, .bool Y9, .bool Y10] 53))
              clear HB2 HE2
              generalize (W2.alloc (.cells #[.int .i64 Y0, .int .i64 Y1, .int .i64 Y2, .int .i64 Y3, .int .i64 Y4, .int .i64 Y5, .int .i64 Y6, .int .i64 Y7, .bool Y8, .bool Y9, .bool Y10] 53)) = W3 at *
              generalize W2.heap.size = b35 at *
              go_loopw [37, 38] (fun hb i wr => ∃ (p : Nat) (bb : Bool), p ≤ ps.length ∧ i = .int .i64 p ∧ hb = .bool bb ∧ Hid (hasW (ps.take p) za (k : Int) = bb) ∧ Ext W3 wr) (fun _ i _ => ps.length - (intOf i).toNat)
              case atStart => exact ⟨0, false, by omega, rfl, rfl, Lib.hid rfl, Ext.refl _⟩
              case round =>
                obtain ⟨p, bb, hp, rfl, rfl, HBB, ⟨x, rfl⟩⟩ := hrel
                by_cases hpl : p < ps.length
                · have hzp : ps[p]? = some ps[p] := List.getElem?_eq_getElem hpl
                  obtain ⟨b2, o2, rfl, hb2, hc2⟩ := HPC.out p (slotC ps[p]) (by rw [List.getElem?_map, hzp]; rfl) (by simp [slotC])
                  obtain ⟨y0', y1'⟩ := slotZ_at hc2
                  have hEw : Ext w W3 := HEz2.out.trans HE3.out
                  have y0 := (hEw.grow).cell y0' (by simp)
                  have y1 := (hEw.grow).cell y1' (by simp)
                  have z0 := (HE3.out.grow).cell x0 (by simp)
                  have hsz3 := hEw.size
                  have hsz4 := HE3.out.size
                  have hb2w : b2 < W3.heap.size := by omega
                  have hb1w : b1 < W3.heap.size := by omega
                  obtain ⟨v1, v2, v3⟩ := lt_facts hb2w
                  obtain ⟨v4, v5, v6⟩ := lt_facts hb1w
                  have hpi : (p : Int) < ps.length := by omega
                  have hpi0 : 0 ≤ (p : Int) := by omega
                  have hsn : hasW (ps.take (p + 1)) za (k : Int) = (bb || (ps[p].1 == za && ps[p].2 == (k : Int))) := by
                    rw [take_snoc hzp]
                    unfold hasW
                    rw [List.any_append, show (ps.take p).any (fun x => x.1 == za && x.2 == (k : Int)) = bb from HBB.out]
                    simp
                  have HSn := Lib.hid hsn
                  generalize ps[p] = y at *
                  obtain ⟨ya, yb⟩ := y
                  dsimp only at y0 y1 HSn
                  clear hzp hc2 y0' y1' hEw hsn
                  cases bb with
                  | true =>
                    have HN := Lib.hid (show hasW (ps.take (p + 1)) za (k : Int) = true from HSn.out)
                    clear HSn
                    go_wp2_with fail
                    go_quiet (fail)
                    go_wp2_with fail
                    go_roundw
                    case rel => exact ⟨p + 1, true, by omega, by go_num, rfl, HN, (by repeat (first | exact Ext.refl _ | apply Ext.more | apply Ext.alloc | apply Ext.drew | apply Ext.drewN))⟩
                    case measure => simp [intOf]; omega
                  | false =>
                    by_cases e1 : ya = za
                    · have h1 : (ya == za) = true := by simpa using e1
                      by_cases e2 : yb = (k : Int)
                      · have h2 : (yb == (k : Int)) = true := by simpa using e2
                        have HN := Lib.hid (show hasW (ps.take (p + 1)) za (k : Int) = true from by rw [HSn.out, h1, h2]; rfl)
                        clear HSn e1 e2
                        go_wp2_with fail
                        go_quiet (fail)
                        go_wp2_with fail
                        go_roundw
                        case rel => exact ⟨p + 1, true, by omega, by go_num, rfl, HN, (by repeat (first | exact Ext.refl _ | apply Ext.more | apply Ext.alloc | apply Ext.drew | apply Ext.drewN))⟩
                        case measure => simp [intOf]; omega
                      · have h2 : (yb == (k : Int)) = false := by simpa using e2
                        have HN := Lib.hid (show hasW (ps.take (p + 1)) za (k : Int) = false from by rw [HSn.out, h1, h2]; rfl)
                        clear HSn e1 e2
                        go_wp2_with fail
                        go_quiet (fail)
                        go_wp2_with fail
                        go_roundw
                        case rel => exact ⟨p + 1, false, by omega, by go_num, rfl, HN, (by repeat (first | exact Ext.refl _ | apply Ext.more | apply Ext.alloc | apply Ext.drew | apply Ext.drewN))⟩
                        case measure => simp [intOf]; omega
                    · have h1 : (ya == za) = false := by simpa using e1
                      have HN := Lib.hid (show hasW (ps.take (p + 1)) za (k : Int) = false from by rw [HSn.out, h1]; rfl)
                      clear HSn e1
                      go_wp2_with fail
                      go_quiet (fail)
                      go_wp2_with fail
                      go_roundw
                      case rel => exact ⟨p + 1, false, by omega, by go_num, rfl, HN, (by repeat (first | exact Ext.refl _ | apply Ext.more | apply Ext.alloc | apply Ext.drew | apply Ext.drewN))⟩
                      case measure => simp [intOf]; omega
                · obtain rfl : p = ps.length := by omega
                  have hbb := HBB.out
                  rw [List.take_length, HBh.out] at hbb
                  subst hbb
                  have HB4 := Lib.hid (box_more HB3.out x)
                  have HC4 := Lib.hid (box_more HC3.out x)
                  have HE4 := Lib.hid (show Ext wy (more W3 x) from HE3.out.more x)
                  clear HB3 HC3 HE3 HBB HBh hpl hp
                  generalize more W3 x = W4 at *
                  have hfy := HFy.out
                  clear HFy HX HY
                  cases bh with
                  | true =>
                    rw [if_pos rfl] at hfy
                    cases hfy
                    obtain ⟨c0, c1, c2, c3, c4, c5, c6, c7, c8, c9, c10, cl⟩ := cellsPl HB4.out
                    obtain ⟨d0, d1, d2, d3, d4, d5, d6, d7, d8, d9, d10, dl⟩ := cellsPl HC4.out
                    have cf : ∀ i, W4.frozen? ⟨b33, i, none⟩ = false := fun i => frozen_of_row _ _ _ _ _ HB4.out
                    obtain ⟨l1, l2, l3⟩ := lt_facts cl
                    obtain ⟨l4, l5, l6⟩ := lt_facts dl
                    have n3 : (b33 = b35) = False := by simp; omega
                    have n4 : (b35 = b33) = False := by simp; omega
                    clear HB4 HC4
                    go_wp2_with fail
                    go_roundw
                    case rel => exact ⟨k + 1, by omega, by go_num, (by repeat (first | (with_reducible exact HE4.out) | (with_reducible refine ext_set ?_ hg1 _ _) | (with_reducible apply Ext.more) | (with_reducible apply Ext.alloc) | (with_reducible apply Ext.drew) | (with_reducible apply Ext.drewN)))⟩
                    case measure => simp [intOf]; omega
                  | false =>
                    rw [if_neg (by simp)] at hfy
                    cases hfy
                    obtain ⟨c0, c1, c2, c3, c4, c5, c6, c7, c8, c9, c10, cl⟩ := cellsPl HB4.out
                    obtain ⟨d0, d1, d2, d3, d4, d5, d6, d7, d8, d9, d10, dl⟩ := cellsPl HC4.out
                    obtain ⟨l1, l2, l3⟩ := lt_facts cl
                    obtain ⟨l4, l5, l6⟩ := lt_facts dl
                    clear HB4 HC4
                    go_wp2_with fail
                    go_roundw
                    case rel => exact ⟨k + 1, by omega, by go_num, HE4.out⟩
                    case measure => simp [intOf]; omega
            · have hk3 : ((k : Int) < 4096) = False := eq_false (by omega)
              clear hk2 hk
              go_wp2_with fail
              go_roundw
              case rel => exact ⟨q + 1, by omega, by go_num, (by repeat (first | exact Ext.refl _ | apply Ext.more | apply Ext.alloc | apply Ext.drew | apply Ext.drewN))⟩
              case measure => simp [intOf]; omega
        · obtain rfl : q = rs.length := by omega
          go_wp2_with fail
          go_ret
          exact ⟨HEz2.out.trans HEo.out, rfl⟩

end Go.Proofs.Ythcdecgecabgaaa
