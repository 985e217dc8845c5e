/- The walks of the laws of layer 3 (phys). -/
import Derived.Test.YtmpgkgnbhjnelaaPhyt
namespace Go.Proofs.Ytmpgkgnbhjnelaa
open Go.RowKit

set_option maxHeartbeats 1000000 in
theorem law03_up (w : World) : Calls Try.prog 15 #[] w fun e w' => e = .returned (.bool true) ∧ w.grownBy w' none := by
  have he := fun w a b => eql_err w a b
  go_enter Try.func15, Try.ntmps15
  go_wp2_with fail
  refine (phys_New_int _ 2 (by omega) (by omega)).mono ?_
  rintro e w1 ⟨b, g, rfl, hm1, hg1, hb, hg⟩
  go_wp2_with fail
  refine (phys_Store_int _ hm1 1 2 7 (by omega) (by decide) (by omega) (by omega)).mono ?_
  rintro e w2 ⟨rfl, hm2, hg2⟩
  have G2 := grow_new hg1 hg2 hg
  clear hm1 hg1 hg2
  go_wp2_with fail
  refine (phys_Copy_int _ hm2 0 1 (by omega) (by decide) (by omega) (by decide)).mono ?_
  rintro e w3 ⟨rfl, hm3, hg3⟩
  have G3 := grow_new G2 hg3 hg
  clear hm2 hg3 G2
  go_wp2_with fail
  refine (phys_Load_int _ hm3 0 2 (by omega) (by decide) (by omega) (by omega)).mono ?_
  rintro e w4 ⟨rfl, rfl⟩
  go_wp2_with fail
  refine (phys_Load_no _ hm3 0 8 (by decide)).mono ?_
  rintro e w5 ⟨rfl, rfl⟩
  go_wp2_with fail
  go_ret
  exact ⟨rfl, G3⟩

theorem getD_replicate0 (n i : Nat) : (List.replicate n (0 : Int)).getD i 0 = 0 := by
  simp only [List.getD, List.getElem?_replicate]
  split <;> rfl

set_option maxHeartbeats 1000000 in
theorem law03_PhysNew (w : World) (k : Int) (_ : (Lit.int .i64 k).wf = true) : Calls Try.prog 3 #[.int .i64 k] w fun e w' => e = .returned (.bool true) ∧ w.grownBy w' none := by
  have he := fun w a b => eql_err w a b
  by_cases h : 1 ≤ k ∧ k ≤ 512
  · obtain ⟨h1, h2⟩ := h
    go_enter Try.func3, Try.ntmps3
    go_wp2_with fail
    refine (law03_up _).mono ?_
    rintro e w0 ⟨rfl, G0⟩
    go_wp2_with fail
    refine (phys_New_int _ k h1 h2).mono ?_
    rintro e w1 ⟨b, g, rfl, hm, hg1, hb, hg⟩
    have G1 := grow_trans G0 hg1
    have hk : ((k.toNat : Int) == k) = true := by simp; omega
    have hk' : ((k.toNat : Int) != k) = false := by simp; omega
    clear hg1 G0
    go_wp2_with fail
    refine (phys_Frames _ hm).mono ?_
    rintro e w2 ⟨rfl, rfl⟩
    go_wp2_with fail
    refine (phys_Load_int _ hm (k - 1) 7 (by omega) (by omega) (by omega) (by omega)).mono ?_
    rintro e w2 ⟨rfl, rfl⟩
    rw [getD_replicate0]
    go_wp2_with fail
    refine (phys_Load_no _ hm k 0 (by omega)).mono ?_
    rintro e w2 ⟨rfl, rfl⟩
    go_wp2_with fail
    go_ret
    exact ⟨rfl, G1⟩
  · have hb : k < 1 ∨ 512 < k := by omega
    have HB := Lib.hid hb
    clear hb
    by_cases h1 : k < 1
    all_goals
      clear h
      go_enter Try.func3, Try.ntmps3
      go_wp2_with fail
      refine (law03_up _).mono ?_
      rintro e w0 ⟨rfl, G0⟩
      go_wp2_with fail
      refine (phys_New_no _ k HB.out).mono ?_
      rintro e w1 ⟨rfl, rfl⟩
      have h2 : 1 ≤ k → 512 < k := by have := HB.out; omega
      go_wp2_with fail
      go_ret
      exact ⟨rfl, G0⟩

end Go.Proofs.Ytmpgkgnbhjnelaa
