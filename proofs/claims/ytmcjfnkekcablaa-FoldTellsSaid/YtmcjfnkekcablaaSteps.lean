/- Steps: what they are, and that two rows of them are the same. -/
import Derived.Test.YtmcjfnkekcablaaFoldp
import Derived.Test.YtmcjfnkekcablaaMorf
namespace Go.Proofs.Ytmcjfnkekcablaa
open Go.RowKit
set_option linter.unusedVariables false
set_option linter.unusedSimpArgs false
attribute [local go_sem] setCell_drewN alloc_drewN lt_moreE le_moreE lt_moreK le_moreK cell_more frozen_more set_more drew_more drewN_more

/-- A step that writes, and one that tells. -/
def wrS (asid : Int) (f : Found) (first v : Int) : Step := ⟨1, asid, f.fLevel, f.fTable, f.fPlace, first, v, 0, 0, 0⟩
def tellS (asid first : Int) : Step := ⟨2, asid, 0, 0, 0, first, 0, 0, 0, 0⟩
/-- A found page's word, folded or not. -/
def foldW (ws : List Int) (fold : Bool) (f : Found) : Int := encW { decD f.fLevel (ws.getD (f.fTable.toNat * 8 + f.fPlace.toNat) 0) with fFold := fold }
def goneL (l : List Found) (asid first : Int) : List Step := l.mapIdx fun i f => wrS asid f (first + i) 0
def toldL (l : List Found) (asid first : Int) : List Step := l.mapIdx fun i _ => tellS asid (first + i)
def backL (ws : List Int) (l : List Found) (asid first : Int) (fold : Bool) : List Step := l.mapIdx fun i f => wrS asid f (first + i) (foldW ws fold f)
def anewL (ws : List Int) (l : List Found) (asid first : Int) (fold : Bool) : List Step := goneL l asid first ++ toldL l asid first ++ backL ws l asid first fold


theorem el_Step : ElemAt Try.prog 40 49 (.agg #[.int .i64 0, .int .i64 0, .int .i64 0, .int .i64 0, .int .i64 0, .int .i64 0, .int .u64 0, .int .i64 0, .int .i64 0, .int .i64 0]) 10 80 := ⟨Try.underlying40, by kernel_rfl, rfl, by decide, by decide⟩
/-- A row of steps of the call's own. -/
abbrev OwnS (w : World) (B : Nat) (v : Value) (l : List Step) : Prop := w.ownsRow B 49 10 v l.length (l.map Step.cells).flatten

end Go.Proofs.Ytmcjfnkekcablaa
