import Derived.Test.YthcdecgecabgaaaBPhytWalk
/- The contract of walk.Whole. -/
namespace Go.Proofs.Ythcdecgecabgaaa
open Go.RowKit
set_option linter.unusedVariables false
set_option linter.unusedSimpArgs false
attribute [local go_sem] setCell_drewN alloc_drewN

theorem info_Found : (Try.prog.info? 53).map (fun i => (i.zero, i.size, i.bytes)) = some (some (.agg #[.int .i64 0, .int .i64 0, .int .i64 0, .int .i64 0, .int .i64 0, .int .i64 0, .int .i64 0, .int .i64 0, .bool false, .bool false, .bool false]), 11, 72) := by kernel_rfl

/-- A block's cells, as an append wants them. -/
theorem block_news {w : World} {g : Nat} {cs : List Value} {T : TypeId} (h : w.heap[g]? = some (.cells cs.toArray T (0, 0))) : ∀ j u, cs[j]? = some u → w.cell? ((⟨g, 0, none⟩ : Addr).add j) = some u := by
  intro j u hu
  have hadd : (⟨g, 0, none⟩ : Addr).add j = ⟨g, j, none⟩ := by unfold Addr.add; split <;> simp_all
  rw [hadd, cell_of_row w g j _ _ _ h]
  simpa using hu

theorem walkAt_level {ws : List Int} {n page : Int} : ∀ (k : Nat) (lv tb : Int) (f : Found), walkAt ws n page k lv tb = some f → lv ≤ f.fLevel ∧ f.fLevel < lv + k := by
  intro k
  induction k with
  | zero => intro lv tb f h; simp [walkAt] at h
  | succ k ih =>
    intro lv tb f h
    unfold walkAt at h
    split at h
    · split at h
      · have := ih _ _ _ h
        omega
      · simp only [Option.some.injEq] at h
        have : f.fLevel = lv := by
          rw [← h]
          unfold foundD
          split
          · rfl
          · split
            · split <;> rfl
            · rfl
        omega
    · cases h

/-- Is something found there? -/
def Found.leaf (f : Found) : Bool := f.fKind == 2 || f.fKind == 3
/-- How many pages on the next walk begins. -/
def Found.stride (f : Found) : Int := 2 ^ (3 * (3 - f.fLevel)).toNat
/-- All that walks find, from a page on; none: a walk fails. -/
def wholeAt (ws : List Int) (n root : Int) : Nat → Int → Option (List Found)
  | 0, _ => none
  | k + 1, page => if page < 4096 then
      (match walkAt ws n page 4 0 root with
      | none => none
      | some f => (wholeAt ws n root k (page + f.stride)).map fun l => if f.leaf then f :: l else l)
    else some []

/-- What Whole answers. -/
def WholeRet (W w' : World) (r : Option (List Found)) (e : Ending) : Prop := match r with
  | some l => ∃ v, e = .returned (.tuple #[v, .nilIface]) ∧ w'.ownsRow W.heap.size 53 11 v l.length (l.flatMap Found.cells)
  | none => e = .returned (.tuple #[.slice none 0 0, errW 2])

theorem flatMap_snoc {α β : Type} (f : α → List β) (l : List α) (a : α) : (l ++ [a]).flatMap f = l.flatMap f ++ f a := by simp

theorem stride_cases {f : Found} (h0 : 0 ≤ f.fLevel) (h1 : f.fLevel < 4) : f.stride = 512 ∧ f.fLevel = 0 ∨ f.stride = 64 ∧ f.fLevel = 1 ∨ f.stride = 8 ∧ f.fLevel = 2 ∨ f.stride = 1 ∧ f.fLevel = 3 := by
  have : f.fLevel = 0 ∨ f.fLevel = 1 ∨ f.fLevel = 2 ∨ f.fLevel = 3 := by omega
  rcases this with h | h | h | h <;> simp [Found.stride, h]

set_option maxHeartbeats 1000000 in
theorem walk_Whole_no (w : World) {b g n c : Nat} {ws : List Int} (hm : MemAt w b g n c ws) (root : Int) (h : ¬ (0 ≤ root ∧ root < n)) :
    Calls Try.prog 104 #[.pointer (some ⟨b, 0, none⟩), .int .i64 root] w fun e w' => e = .returned (.tuple #[.slice none 0 0, errW 1]) ∧ w.grownBy w' none := by
  have HF := Lib.hid (walk_Walk_no w hm root 0 (by omega))
  clear h hm
  go_enter Try.func104, Try.ntmps104
  go_wp2_with fail
  go_loopw [6, 7] (fun v p wr => v = .slice none 0 0 ∧ p = .int .i64 0 ∧ w = wr) (fun _ _ _ => 0)
  case atStart => exact ⟨rfl, rfl, rfl⟩
  case round =>
    obtain ⟨rfl, rfl, rfl⟩ := hrel
    go_wp2_with fail
    refine HF.out.mono ?_
    rintro e w1 ⟨rfl, hg⟩
    have hz : zeroF.v = .agg #[.int .i64 0, .int .i64 0, .int .i64 0, .int .i64 0, .int .i64 0, .int .i64 0, .int .i64 0, .int .i64 0, .bool false, .bool false, .bool false] := rfl
    rw [hz]
    clear hz
    go_wp2_with fail
    go_ret2
    exact ⟨rfl, grow_alloc hg _⟩

theorem after_append {w w2 : World} {base n sz : Nat} {v : Value} {xs : List Value} {T T' : TypeId} {C : Array Value} {o : Obj} (ho : w.ownsRow base T sz v n xs) (hg : ((w.alloc (.cells C T')).alloc o).grownBy w2 v.ownBlock) (j : Nat) (u : Value) (hu : C[j]? = some u) : w2.cell? ⟨w.heap.size, j, none⟩ = some u := by
  have h : w2.heap[w.heap.size]? = some (.cells C T') := by
    rw [hg.block _ (by simp; omega) ?_]
    · exact heap_alloc2_old _ _ _
    · intro e
      have := (ho.lt _ e.symm).2
      omega
  rw [cell_of_row w2 _ j _ _ _ h]; exact hu
theorem found_one (f : Found) : ∀ u ∈ f.cells, u.oneCell' = true := by
  intro u hu
  simp [Found.cells] at hu
  rcases hu with h | h | h | h | h | h | h | h | h | h | h <;> (subst h; rfl)
theorem own_blockN {w : World} {base n sz : Nat} {v : Value} {xs : List Value} {T : TypeId} (h : w.ownsRow base T sz v n xs) (g : Nat) (hg : v.ownBlock = some g) : ∃ cur, w.heap[g]? = some (.cells cur T (0, 0)) := by
  rcases h.2 with ⟨rfl, _⟩ | ⟨g', cap, cur, rfl, _, hc, _⟩
  · simp [Value.ownBlock] at hg
  · simp [Value.ownBlock] at hg
    subst hg
    exact ⟨cur, hc⟩
theorem mem_own_hdr {w : World} {base k sz b g n c : Nat} {v : Value} {xs : List Value} {ws : List Int} (hm : MemAt w b g n c ws) (h : w.ownsRow base 53 sz v k xs) : some b ≠ v.ownBlock := by
  intro e
  obtain ⟨cur, hc⟩ := own_blockN h _ e.symm
  rw [hm.hdr] at hc
  simp at hc
theorem mem_own_row {w : World} {base k sz b g n c : Nat} {v : Value} {xs : List Value} {ws : List Int} (hm : MemAt w b g n c ws) (h : w.ownsRow base 53 sz v k xs) : some g ≠ v.ownBlock := by
  intro e
  obtain ⟨cur, hc⟩ := own_blockN h _ e.symm
  obtain ⟨cur2, h2, _⟩ := hm.row
  rw [h2] at hc
  simp at hc
theorem grow_own {W w0 w1 w2 : World} {T : TypeId} {sz k : Nat} {v : Value} {xs : List Value} (h : W.grownBy w1 none) (ho : w0.ownsRow W.heap.size T sz v k xs) (hg : w1.grownBy w2 v.ownBlock) : W.grownBy w2 none := by
  cases hv : v.ownBlock with
  | none => rw [hv] at hg; exact grow_trans h hg
  | some g => rw [hv] at hg; exact grow_new h hg (ho.lt _ hv).1

set_option maxRecDepth 100000 in
set_option maxHeartbeats 4000000 in
theorem walk_Whole (W : World) {b g n c : Nat} {ws : List Int} (hm : MemAt W b g n c ws) (hw : WOk ws) (root : Int) (h0 : 0 ≤ root) (h1 : root < n) :
    Calls Try.prog 104 #[.pointer (some ⟨b, 0, none⟩), .int .i64 root] W fun e w' => WholeRet W w' (wholeAt ws n root 4097 0) e ∧ W.grownBy w' none := by
  obtain ⟨i0, hi, hz, hs, hb⟩ := info_parts info_Found
  have HI := Lib.hid hi
  have HZ := Lib.hid hz
  have HS := Lib.hid hs
  have HB := Lib.hid hb
  have HW := Lib.hid hw
  clear hi hz hs hb hw
  go_enter Try.func104, Try.ntmps104
  go_wp2_with fail
  go_loopw [6, 7] (fun v p wr => ∃ (pg : Nat) (k : Nat) (acc : List Found), p = .int .i64 pg ∧ pg ≤ 5000 ∧ acc.length ≤ pg ∧ 4096 < k + pg ∧ 1 ≤ k ∧ Hid (wholeAt ws n root 4097 0 = (wholeAt ws n root k pg).map (acc ++ ·)) ∧ MemAt wr b g n c ws ∧ W.grownBy wr none ∧
      Hid (wr.ownsRow W.heap.size 53 11 v acc.length (acc.flatMap Found.cells))) (fun _ p _ => 5000 - (intOf p).toNat)
  case atStart => exact ⟨0, 4097, [], rfl, by omega, by simp, by omega, by omega, by show _ = _; simp, hm, grow_refl _ _, World.ownsRow_nil _ _ _ _⟩
  case round =>
    obtain ⟨pg, k, acc, rfl, hpg, hal, hkp, hk1, HE, hmr, GR, HO⟩ := hrel
    by_cases hlt : pg < 4096
    · obtain ⟨k, rfl⟩ : ∃ q, k = q + 1 := ⟨k - 1, by omega⟩
      have HE2 : Hid (wholeAt ws n root 4097 0 = (match walkAt ws n pg 4 0 root with
          | none => none
          | some f => (wholeAt ws n root k ((pg : Int) + f.stride)).map fun l => if f.leaf then f :: l else l).map (acc ++ ·)) := by
        show _ = _
        rw [HE.out]
        conv => lhs; unfold wholeAt
        rw [if_pos (by omega)]
      have hlv := fun f => walkAt_level (ws := ws) (n := n) (page := pg) 4 0 root f
      have hdp : decide ((pg : Int) < 4096) = true := by simp; omega
      go_wp2_with fail
      refine (walk_Walk _ hmr HW.out root pg h0 h1 (by omega) (by omega)).mono ?_
      rintro e w1 ⟨rfl, hg⟩
      have hm1 := hmr.kept0 hg
      have G1 := grow_trans GR hg
      have hO1 := HO.out.kept hg (by cases h : Value.ownBlock _ <;> simp)
      have HO1 := Lib.hid hO1
      clear hmr GR HO hg hO1 HE
      cases hwk : walkAt ws n pg 4 0 root with
      | none =>
        have hv : wholeAt ws n root 4097 0 = none := by rw [HE2.out, hwk]; rfl
        have HV := Lib.hid hv
        clear hv HE2 hlv hwk
        have hwv : walkV none = .tuple #[.agg #[.int .i64 0, .int .i64 0, .int .i64 0, .int .i64 0, .int .i64 0, .int .i64 0, .int .i64 0, .int .i64 0, .bool false, .bool false, .bool false], errW 2] := rfl
        rw [hwv]
        clear hwv
        go_wp2_with fail
        go_ret2
        refine ⟨?_, grow_alloc G1 _⟩
        rw [HV.out]
        rfl
      | some f =>
        have hl4 := hlv f hwk
        rw [hwk] at HE2
        clear hlv hwk
        have hst := stride_cases hl4.1 (by omega)
        have HST := Lib.hid hst
        obtain ⟨F0, F1, F2, F3, F4, F5, F6, F7, F8, F9, F10⟩ := f
        dsimp only at hst hl4
        have hwv : walkV (some ⟨F0, F1, F2, F3, F4, F5, F6, F7, F8, F9, F10⟩) = .tuple #[.agg #[.int .i64 F0, .int .i64 F1, .int .i64 F2, .int .i64 F3, .int .i64 F4, .int .i64 F5, .int .i64 F6, .int .i64 F7, .bool F8, .bool F9, .bool F10], .nilIface] := rfl
        rw [hwv]
        clear hwv
        rcases hst with ⟨_, rfl⟩ | ⟨_, rfl⟩ | ⟨_, rfl⟩ | ⟨_, rfl⟩
        · have HN : ∀ acc' : List Found, (∀ l, acc ++ (if (⟨F0, 0, F2, F3, F4, F5, F6, F7, F8, F9, F10⟩ : Found).leaf then ⟨F0, 0, F2, F3, F4, F5, F6, F7, F8, F9, F10⟩ :: l else l) = acc' ++ l) → Hid (wholeAt ws n root 4097 0 = (wholeAt ws n root k ((pg + 512 : Nat) : Int)).map (acc' ++ ·)) := by
            intro acc' ha
            show _ = _
            rw [HE2.out]
            have e : ((pg : Int) + (⟨F0, 0, F2, F3, F4, F5, F6, F7, F8, F9, F10⟩ : Found).stride) = ((pg + 512 : Nat) : Int) := by
              have : (⟨F0, 0, F2, F3, F4, F5, F6, F7, F8, F9, F10⟩ : Found).stride = 512 := by rcases HST.out with ⟨h, _⟩ | ⟨h, _⟩ | ⟨h, _⟩ | ⟨h, _⟩ <;> first | exact h | (exfalso; simp_all)
              rw [this]; simp
            dsimp only
            rw [e]
            cases wholeAt ws n root k ((pg + 512 : Nat) : Int) with
            | none => rfl
            | some l => simpa using ha l
          have HNN := Lib.hid HN
          clear HN HE2 HST
          by_cases hlf : F0 = 2 ∨ F0 = 3
          · have hleaf : (⟨F0, 0, F2, F3, F4, F5, F6, F7, F8, F9, F10⟩ : Found).leaf = true := by simp [Found.leaf, hlf]
            have HNX := HNN.out (acc ++ [⟨F0, 0, F2, F3, F4, F5, F6, F7, F8, F9, F10⟩]) (by intro l; rw [hleaf]; simp)
            clear HNN hleaf
            rcases hlf with rfl | rfl
            all_goals
              go_wp2_with (at_builtin; refine wpList_append_own _ rfl _ _ 150 rfl W.heap.size 53 i0 _ 11 72 Try.underlying150 HI.out HZ.out HS.out HB.out rfl (by decide) _ acc.length _ rfl ((HO1.out.alloc _).alloc _) ⟨w1.heap.size + 1, 0, none⟩ 1 1 [.int .i64 _, .int .i64 0, .int .i64 F2, .int .i64 F3, .int .i64 F4, .int .i64 F5, .int .i64 F6, .int .i64 F7, .bool F8, .bool F9, .bool F10] rfl rfl (block_news (heap_alloc2_new _ _ _)) (found_one ⟨_, 0, F2, F3, F4, F5, F6, F7, F8, F9, F10⟩) (by unfold maxLen; omega) (by omega) (by have := G1.size; simp; omega) ?_; intro v' w2 hown' hgrow hnil; have xw := after_append HO1.out hgrow 1 _ rfl)
              have HO2 := Lib.hid hown'
              have hm2 : MemAt w2 b g n c ws := ((hm1.kept0 (World.grownBy_alloc _ _ none)).kept0 (World.grownBy_alloc _ _ none)).kept hgrow (mem_own_hdr hm1 HO1.out) (mem_own_row hm1 HO1.out)
              have G2 : W.grownBy w2 none := grow_own (grow_alloc (grow_alloc G1 _) _) HO1.out hgrow
              clear hown' hgrow hnil HO1 hm1 G1
              go_roundw
              case rel => exact ⟨pg + 512, k, acc ++ [⟨_, 0, F2, F3, F4, F5, F6, F7, F8, F9, F10⟩], by go_num, by omega, by simp; omega, by omega, by omega, HNX, hm2, G2, by show World.ownsRow _ _ _ _ _ _ _; rw [flatMap_snoc, List.length_append]; exact HO2.out⟩
              case measure => simp [intOf]; omega
          · have hleaf : (⟨F0, 0, F2, F3, F4, F5, F6, F7, F8, F9, F10⟩ : Found).leaf = false := by simp [Found.leaf]; omega
            have HNX := HNN.out acc (by intro l; rw [hleaf]; simp)
            have k2 : (F0 == 2) = false := by simp; omega
            have k3 : (F0 == 3) = false := by simp; omega
            clear HNN hleaf hlf
            go_wp2_with fail
            have HOX := Lib.hid (HO1.out.alloc (.cells #[.int .i64 F0, .int .i64 0, .int .i64 F2, .int .i64 F3, .int .i64 F4, .int .i64 F5, .int .i64 F6, .int .i64 F7, .bool F8, .bool F9, .bool F10] 53))
            go_roundw
            case rel => exact ⟨pg + 512, k, acc, by go_num, by omega, by omega, by omega, by omega, HNX, hm1.kept0 (World.grownBy_alloc _ _ _), grow_alloc G1 _, HOX⟩
            case measure => simp [intOf]; omega

        · have HN : ∀ acc' : List Found, (∀ l, acc ++ (if (⟨F0, 1, F2, F3, F4, F5, F6, F7, F8, F9, F10⟩ : Found).leaf then ⟨F0, 1, F2, F3, F4, F5, F6, F7, F8, F9, F10⟩ :: l else l) = acc' ++ l) → Hid (wholeAt ws n root 4097 0 = (wholeAt ws n root k ((pg + 64 : Nat) : Int)).map (acc' ++ ·)) := by
            intro acc' ha
            show _ = _
            rw [HE2.out]
            have e : ((pg : Int) + (⟨F0, 1, F2, F3, F4, F5, F6, F7, F8, F9, F10⟩ : Found).stride) = ((pg + 64 : Nat) : Int) := by
              have : (⟨F0, 1, F2, F3, F4, F5, F6, F7, F8, F9, F10⟩ : Found).stride = 64 := by rcases HST.out with ⟨h, _⟩ | ⟨h, _⟩ | ⟨h, _⟩ | ⟨h, _⟩ <;> first | exact h | (exfalso; simp_all)
              rw [this]; simp
            dsimp only
            rw [e]
            cases wholeAt ws n root k ((pg + 64 : Nat) : Int) with
            | none => rfl
            | some l => simpa using ha l
          have HNN := Lib.hid HN
          clear HN HE2 HST
          by_cases hlf : F0 = 2 ∨ F0 = 3
          · have hleaf : (⟨F0, 1, F2, F3, F4, F5, F6, F7, F8, F9, F10⟩ : Found).leaf = true := by simp [Found.leaf, hlf]
            have HNX := HNN.out (acc ++ [⟨F0, 1, F2, F3, F4, F5, F6, F7, F8, F9, F10⟩]) (by intro l; rw [hleaf]; simp)
            clear HNN hleaf
            rcases hlf with rfl | rfl
            all_goals
              go_wp2_with (at_builtin; refine wpList_append_own _ rfl _ _ 150 rfl W.heap.size 53 i0 _ 11 72 Try.underlying150 HI.out HZ.out HS.out HB.out rfl (by decide) _ acc.length _ rfl ((HO1.out.alloc _).alloc _) ⟨w1.heap.size + 1, 0, none⟩ 1 1 [.int .i64 _, .int .i64 1, .int .i64 F2, .int .i64 F3, .int .i64 F4, .int .i64 F5, .int .i64 F6, .int .i64 F7, .bool F8, .bool F9, .bool F10] rfl rfl (block_news (heap_alloc2_new _ _ _)) (found_one ⟨_, 1, F2, F3, F4, F5, F6, F7, F8, F9, F10⟩) (by unfold maxLen; omega) (by omega) (by have := G1.size; simp; omega) ?_; intro v' w2 hown' hgrow hnil; have xw := after_append HO1.out hgrow 1 _ rfl)
              have HO2 := Lib.hid hown'
              have hm2 : MemAt w2 b g n c ws := ((hm1.kept0 (World.grownBy_alloc _ _ none)).kept0 (World.grownBy_alloc _ _ none)).kept hgrow (mem_own_hdr hm1 HO1.out) (mem_own_row hm1 HO1.out)
              have G2 : W.grownBy w2 none := grow_own (grow_alloc (grow_alloc G1 _) _) HO1.out hgrow
              clear hown' hgrow hnil HO1 hm1 G1
              go_roundw
              case rel => exact ⟨pg + 64, k, acc ++ [⟨_, 1, F2, F3, F4, F5, F6, F7, F8, F9, F10⟩], by go_num, by omega, by simp; omega, by omega, by omega, HNX, hm2, G2, by show World.ownsRow _ _ _ _ _ _ _; rw [flatMap_snoc, List.length_append]; exact HO2.out⟩
              case measure => simp [intOf]; omega
          · have hleaf : (⟨F0, 1, F2, F3, F4, F5, F6, F7, F8, F9, F10⟩ : Found).leaf = false := by simp [Found.leaf]; omega
            have HNX := HNN.out acc (by intro l; rw [hleaf]; simp)
            have k2 : (F0 == 2) = false := by simp; omega
            have k3 : (F0 == 3) = false := by simp; omega
            clear HNN hleaf hlf
            go_wp2_with fail
            have HOX := Lib.hid (HO1.out.alloc (.cells #[.int .i64 F0, .int .i64 1, .int .i64 F2, .int .i64 F3, .int .i64 F4, .int .i64 F5, .int .i64 F6, .int .i64 F7, .bool F8, .bool F9, .bool F10] 53))
            go_roundw
            case rel => exact ⟨pg + 64, k, acc, by go_num, by omega, by omega, by omega, by omega, HNX, hm1.kept0 (World.grownBy_alloc _ _ _), grow_alloc G1 _, HOX⟩
            case measure => simp [intOf]; omega

        · have HN : ∀ acc' : List Found, (∀ l, acc ++ (if (⟨F0, 2, F2, F3, F4, F5, F6, F7, F8, F9, F10⟩ : Found).leaf then ⟨F0, 2, F2, F3, F4, F5, F6, F7, F8, F9, F10⟩ :: l else l) = acc' ++ l) → Hid (wholeAt ws n root 4097 0 = (wholeAt ws n root k ((pg + 8 : Nat) : Int)).map (acc' ++ ·)) := by
            intro acc' ha
            show _ = _
            rw [HE2.out]
            have e : ((pg : Int) + (⟨F0, 2, F2, F3, F4, F5, F6, F7, F8, F9, F10⟩ : Found).stride) = ((pg + 8 : Nat) : Int) := by
              have : (⟨F0, 2, F2, F3, F4, F5, F6, F7, F8, F9, F10⟩ : Found).stride = 8 := by rcases HST.out with ⟨h, _⟩ | ⟨h, _⟩ | ⟨h, _⟩ | ⟨h, _⟩ <;> first | exact h | (exfalso; simp_all)
              rw [this]; simp
            dsimp only
            rw [e]
            cases wholeAt ws n root k ((pg + 8 : Nat) : Int) with
            | none => rfl
            | some l => simpa using ha l
          have HNN := Lib.hid HN
          clear HN HE2 HST
          by_cases hlf : F0 = 2 ∨ F0 = 3
          · have hleaf : (⟨F0, 2, F2, F3, F4, F5, F6, F7, F8, F9, F10⟩ : Found).leaf = true := by simp [Found.leaf, hlf]
            have HNX := HNN.out (acc ++ [⟨F0, 2, F2, F3, F4, F5, F6, F7, F8, F9, F10⟩]) (by intro l; rw [hleaf]; simp)
            clear HNN hleaf
            rcases hlf with rfl | rfl
            all_goals
              go_wp2_with (at_builtin; refine wpList_append_own _ rfl _ _ 150 rfl W.heap.size 53 i0 _ 11 72 Try.underlying150 HI.out HZ.out HS.out HB.out rfl (by decide) _ acc.length _ rfl ((HO1.out.alloc _).alloc _) ⟨w1.heap.size + 1, 0, none⟩ 1 1 [.int .i64 _, .int .i64 2, .int .i64 F2, .int .i64 F3, .int .i64 F4, .int .i64 F5, .int .i64 F6, .int .i64 F7, .bool F8, .bool F9, .bool F10] rfl rfl (block_news (heap_alloc2_new _ _ _)) (found_one ⟨_, 2, F2, F3, F4, F5, F6, F7, F8, F9, F10⟩) (by unfold maxLen; omega) (by omega) (by have := G1.size; simp; omega) ?_; intro v' w2 hown' hgrow hnil; have xw := after_append HO1.out hgrow 1 _ rfl)
              have HO2 := Lib.hid hown'
              have hm2 : MemAt w2 b g n c ws := ((hm1.kept0 (World.grownBy_alloc _ _ none)).kept0 (World.grownBy_alloc _ _ none)).kept hgrow (mem_own_hdr hm1 HO1.out) (mem_own_row hm1 HO1.out)
              have G2 : W.grownBy w2 none := grow_own (grow_alloc (grow_alloc G1 _) _) HO1.out hgrow
              clear hown' hgrow hnil HO1 hm1 G1
              go_roundw
              case rel => exact ⟨pg + 8, k, acc ++ [⟨_, 2, F2, F3, F4, F5, F6, F7, F8, F9, F10⟩], by go_num, by omega, by simp; omega, by omega, by omega, HNX, hm2, G2, by show World.ownsRow _ _ _ _ _ _ _; rw [flatMap_snoc, List.length_append]; exact HO2.out⟩
              case measure => simp [intOf]; omega
          · have hleaf : (⟨F0, 2, F2, F3, F4, F5, F6, F7, F8, F9, F10⟩ : Found).leaf = false := by simp [Found.leaf]; omega
            have HNX := HNN.out acc (by intro l; rw [hleaf]; simp)
            have k2 : (F0 == 2) = false := by simp; omega
            have k3 : (F0 == 3) = false := by simp; omega
            clear HNN hleaf hlf
            go_wp2_with fail
            have HOX := Lib.hid (HO1.out.alloc (.cells #[.int .i64 F0, .int .i64 2, .int .i64 F2, .int .i64 F3, .int .i64 F4, .int .i64 F5, .int .i64 F6, .int .i64 F7, .bool F8, .bool F9, .bool F10] 53))
            go_roundw
            case rel => exact ⟨pg + 8, k, acc, by go_num, by omega, by omega, by omega, by omega, HNX, hm1.kept0 (World.grownBy_alloc _ _ _), grow_alloc G1 _, HOX⟩
            case measure => simp [intOf]; omega

        · have HN : ∀ acc' : List Found, (∀ l, acc ++ (if (⟨F0, 3, F2, F3, F4, F5, F6, F7, F8, F9, F10⟩ : Found).leaf then ⟨F0, 3, F2, F3, F4, F5, F6, F7, F8, F9, F10⟩ :: l else l) = acc' ++ l) → Hid (wholeAt ws n root 4097 0 = (wholeAt ws n root k ((pg + 1 : Nat) : Int)).map (acc' ++ ·)) := by
            intro acc' ha
            show _ = _
            rw [HE2.out]
            have e : ((pg : Int) + (⟨F0, 3, F2, F3, F4, F5, F6, F7, F8, F9, F10⟩ : Found).stride) = ((pg + 1 : Nat) : Int) := by
              have : (⟨F0, 3, F2, F3, F4, F5, F6, F7, F8, F9, F10⟩ : Found).stride = 1 := by rcases HST.out with ⟨h, _⟩ | ⟨h, _⟩ | ⟨h, _⟩ | ⟨h, _⟩ <;> first | exact h | (exfalso; simp_all)
              rw [this]; simp
            dsimp only
            rw [e]
            cases wholeAt ws n root k ((pg + 1 : Nat) : Int) with
            | none => rfl
            | some l => simpa using ha l
          have HNN := Lib.hid HN
          clear HN HE2 HST
          by_cases hlf : F0 = 2 ∨ F0 = 3
          · have hleaf : (⟨F0, 3, F2, F3, F4, F5, F6, F7, F8, F9, F10⟩ : Found).leaf = true := by simp [Found.leaf, hlf]
            have HNX := HNN.out (acc ++ [⟨F0, 3, F2, F3, F4, F5, F6, F7, F8, F9, F10⟩]) (by intro l; rw [hleaf]; simp)
            clear HNN hleaf
            rcases hlf with rfl | rfl
            all_goals
              go_wp2_with (at_builtin; refine wpList_append_own _ rfl _ _ 150 rfl W.heap.size 53 i0 _ 11 72 Try.underlying150 HI.out HZ.out HS.out HB.out rfl (by decide) _ acc.length _ rfl ((HO1.out.alloc _).alloc _) ⟨w1.heap.size + 1, 0, none⟩ 1 1 [.int .i64 _, .int .i64 3, .int .i64 F2, .int .i64 F3, .int .i64 F4, .int .i64 F5, .int .i64 F6, .int .i64 F7, .bool F8, .bool F9, .bool F10] rfl rfl (block_news (heap_alloc2_new _ _ _)) (found_one ⟨_, 3, F2, F3, F4, F5, F6, F7, F8, F9, F10⟩) (by unfold maxLen; omega) (by omega) (by have := G1.size; simp; omega) ?_; intro v' w2 hown' hgrow hnil; have xw := after_append HO1.out hgrow 1 _ rfl)
              have HO2 := Lib.hid hown'
              have hm2 : MemAt w2 b g n c ws := ((hm1.kept0 (World.grownBy_alloc _ _ none)).kept0 (World.grownBy_alloc _ _ none)).kept hgrow (mem_own_hdr hm1 HO1.out) (mem_own_row hm1 HO1.out)
              have G2 : W.grownBy w2 none := grow_own (grow_alloc (grow_alloc G1 _) _) HO1.out hgrow
              clear hown' hgrow hnil HO1 hm1 G1
              go_roundw
              case rel => exact ⟨pg + 1, k, acc ++ [⟨_, 3, F2, F3, F4, F5, F6, F7, F8, F9, F10⟩], by go_num, by omega, by simp; omega, by omega, by omega, HNX, hm2, G2, by show World.ownsRow _ _ _ _ _ _ _; rw [flatMap_snoc, List.length_append]; exact HO2.out⟩
              case measure => simp [intOf]; omega
          · have hleaf : (⟨F0, 3, F2, F3, F4, F5, F6, F7, F8, F9, F10⟩ : Found).leaf = false := by simp [Found.leaf]; omega
            have HNX := HNN.out acc (by intro l; rw [hleaf]; simp)
            have k2 : (F0 == 2) = false := by simp; omega
            have k3 : (F0 == 3) = false := by simp; omega
            clear HNN hleaf hlf
            go_wp2_with fail
            have HOX := Lib.hid (HO1.out.alloc (.cells #[.int .i64 F0, .int .i64 3, .int .i64 F2, .int .i64 F3, .int .i64 F4, .int .i64 F5, .int .i64 F6, .int .i64 F7, .bool F8, .bool F9, .bool F10] 53))
            go_roundw
            case rel => exact ⟨pg + 1, k, acc, by go_num, by omega, by omega, by omega, by omega, HNX, hm1.kept0 (World.grownBy_alloc _ _ _), grow_alloc G1 _, HOX⟩
            case measure => simp [intOf]; omega
    · have hv : wholeAt ws n root 4097 0 = some acc := by
        obtain ⟨k, rfl⟩ : ∃ q, k = q + 1 := ⟨k - 1, by omega⟩
        rw [HE.out]
        unfold wholeAt
        rw [if_neg (by omega)]
        simp
      have HV := Lib.hid hv
      clear hv HE
      go_wp2_with fail
      go_ret2
      refine ⟨?_, GR⟩
      rw [HV.out]
      exact ⟨_, rfl, HO.out⟩

end Go.Proofs.Ythcdecgecabgaaa
