/- The walks of the laws of layer 3 (phys). -/
import Derived.Test.YtapeoeakiphfpaaPhyt
namespace Go.Proofs.Ytapeoeakiphfpaa
open Go.RowKit
set_option linter.unusedVariables false
set_option linter.unusedSimpArgs false

set_option maxHeartbeats 1000000 in
theorem law03_up (w : World) : Calls Try.prog 16 #[] w fun e w' => e = .returned (.bool true) ∧ w.grownBy w' none := by
  have he := fun w a b => eql_err w a b
  go_enter Try.func16, Try.ntmps16
  go_wp2_with fail
  refine (phys_New_int _ 2 (by omega) (by omega)).mono ?_
  rintro e w1 ⟨b, g, rfl, hm1, hg1, hb, hg⟩
  go_wp2_with fail
  refine (phys_Store_int _ hm1 1 2 7 (by omega) (by decide) (by omega) (by omega)).mono ?_
  rintro e w2 ⟨rfl, hm2, hg2⟩
  have G2 := grow_new hg1 hg2 hg
  clear hm1 hg1 hg2
  go_wp2_with fail
  refine (phys_Copy_int _ hm2 0 1 (by omega) (by decide) (by omega) (by decide)).mono ?_
  rintro e w3 ⟨rfl, hm3, hg3⟩
  have G3 := grow_new G2 hg3 hg
  clear hm2 hg3 G2
  go_wp2_with fail
  refine (phys_Load_int _ hm3 0 2 (by omega) (by decide) (by omega) (by omega)).mono ?_
  rintro e w4 ⟨rfl, rfl⟩
  go_wp2_with fail
  refine (phys_Load_no _ hm3 0 8 (by decide)).mono ?_
  rintro e w5 ⟨rfl, rfl⟩
  go_wp2_with fail
  go_ret
  exact ⟨rfl, G3⟩

theorem getD_replicate0 (n i : Nat) : (List.replicate n (0 : Int)).getD i 0 = 0 := by
  simp only [List.getD, List.getElem?_replicate]
  split <;> rfl

end Go.Proofs.Ytapeoeakiphfpaa
