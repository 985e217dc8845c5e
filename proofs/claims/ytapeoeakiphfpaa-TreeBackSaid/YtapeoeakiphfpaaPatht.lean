/- The law paviorlaw12.TreePaths. -/
import Derived.Test.YtapeoeakiphfpaaPathr
import Derived.Test.YtapeoeakiphfpaaCode
namespace Go.Proofs.Ytapeoeakiphfpaa
open Go.RowKit
set_option linter.unusedVariables false
set_option linter.unusedSimpArgs false
attribute [local go_sem] setCell_drewN alloc_drewN lt_moreE le_moreE lt_moreK le_moreK cell_more frozen_more set_more drew_more drewN_more

theorem tree_PathR (w : World) {b g n c : Nat} {ws : List Int} (hm : MemAt w b g n c ws) (hw : WOk ws) (root asid page : Int) (L : Nat) (h0 : 0 ≤ root) (h1 : root < n) (p0 : 0 ≤ page) (p1 : page < 4096) (l0 : 1 ≤ L) (l1 : L < 4)
    (fresh : List Int) (v : Value) (hv : SlRd w v 1 (fresh.map intCells)) (hfl : fresh.length ≤ 1000) (r : Option (List (Int × Int) × Desc)) (hr : wayAt ws n page (L + 1) 0 root = r) (R : PathR) (hR : pathRes n asid page L fresh r = R) :
    Calls Try.prog 35 #[.pointer (some ⟨b, 0, none⟩), .int .i64 root, .int .i64 asid, .int .i64 page, .int .i64 L, v] w fun e w' => Ext w w' ∧ PathRet w.heap.size w' R e := hR ▸ tree_Path w hm hw root asid page L h0 h1 p0 p1 l0 l1 fresh v hv hfl r hr

theorem tree_Path_no (w : World) {b g n c : Nat} {ws : List Int} (hm : MemAt w b g n c ws) (root asid page level : Int) (v : Value) (h : ¬ (0 ≤ root ∧ root < n ∧ 0 ≤ page ∧ page < 4096 ∧ 1 ≤ level ∧ level < 4)) :
    Calls Try.prog 35 #[.pointer (some ⟨b, 0, none⟩), .int .i64 root, .int .i64 asid, .int .i64 page, .int .i64 level, v] w fun e w' => Ext w w' ∧ PathRet w.heap.size w' (.no 1) e :=
  tree_Path_err w _ root asid page level v 0 1 (fun w' hE => tree_Need_no w' (hm.kept0 hE.grow) root page level h)
theorem cells2 {w : World} {n : Nat} {T : TypeId} {a0 a1 : Value} (h : w.heap[n]? = some (.cells #[a0, a1] T (0, 0))) :
    w.cell? ⟨n, 0, none⟩ = some a0 ∧ w.cell? ⟨n, 1, none⟩ = some a1 ∧ ∀ i, w.frozen? ⟨n, i, none⟩ = false := by
  have key := fun i => cell_of_row w n i _ _ _ h
  exact ⟨key 0, key 1, fun i => frozen_of_row w n i _ _ h⟩

end Go.Proofs.Ytapeoeakiphfpaa
