/-
  No cell of these rows narrows 'for every input' (looked for: loops, veiled, ifaces, maps, wideKeys, modest, calm, conditions, laid).
  DERIVED. THE GIVEN ROWS OF THIS SEAT. 12 by the template 'for every input the law returns true; each argument reads behind the call as it read before'; 0 by the template 'total and deterministic' (their statements: YtmcjfnkekcablaaTotals.lean).
  GIVEN WITH THE SEED: the statements are not yours to turn. If you find one false, say at which input.
  Laid BY PROGRAM, IN A SANDBOX (cutbox-rows.mjs): the forced cells as the released guide's own fill.sh prints them over the translation 4cefc1af6fd003eb… (all of the seat's roots in one cut). By AI agents, Wed Nov 11 2026. No macro, syntax, notation, axiom, sorry.
-/
import Derived.Test.YtmcjfnkekcablaaChecked
import GoSem.Claim
import GoSem.ClaimJoined
import GoSem.ClaimMapViews
import Derived.JoinedTies
import Derived.KernelRfl
namespace Go.Proofs.Ytmcjfnkekcablaa
/- THE CELL 'sum', in the pinned program and in every row, IS THE sha256 OF THE DUMP (.gsa) THAT YtmcjfnkekcablaaProg.lean LOADS. Nothing in Lean hashes anything: it is a label: what it is worth is what the hold of that sum in a sandbox is worth. -/
noncomputable def Try.pinned : Pinned := { name := "ytmcjfnkekcablaa", sum := "4cefc1af6fd003ebbf5a1feb6022f28bb460e3c8e585a5e644a82002cfb2a9dd", checked := Try.checked }
namespace Rows
def none {H : Type} : Left H := { results := [], args := [] }

/-- 'paviorlaw17.FoldTells': WHATEVER THE INPUT: true; the input reads as it did. -/
def foldTellsSpec : ChangeSpec := { name := "foldTells", fn := fun _ => fun
  | [d1, d2, d3, d4] => { results := [.lit (.bool true)], args := [d1, d2, d3, d4] }
  | _ => none }
def foldTellsRow : OpenClaim := { program := "ytmcjfnkekcablaa", sum := "4cefc1af6fd003ebbf5a1feb6022f28bb460e3c8e585a5e644a82002cfb2a9dd", func := "pavior/paviorlaw17.FoldTells", spec := "foldTells", recurses := true, apart := false }
def FoldTellsSaid : Prop := foldTellsRow.holds Try.pinned (OpenSpec.ofChange foldTellsSpec)

/-- ITS FALSE NEIGHBOUR: 'it returns false'. Refute it at one input. -/
def foldTellsWrong : ChangeSpec := { name := "foldTells", fn := fun _ => fun
  | [d1, d2, d3, d4] => { results := [.lit (.bool false)], args := [d1, d2, d3, d4] }
  | _ => none }
def FoldTellsWrongFalsely : Prop := foldTellsRow.holds Try.pinned (OpenSpec.ofChange foldTellsWrong)

/-- 'paviorlaw17.FoldSteps': WHATEVER THE INPUT: true; the input reads as it did. -/
def foldStepsSpec : ChangeSpec := { name := "foldSteps", fn := fun _ => fun
  | [d1, d2, d3, d4, d5] => { results := [.lit (.bool true)], args := [d1, d2, d3, d4, d5] }
  | _ => none }
def foldStepsRow : OpenClaim := { program := "ytmcjfnkekcablaa", sum := "4cefc1af6fd003ebbf5a1feb6022f28bb460e3c8e585a5e644a82002cfb2a9dd", func := "pavior/paviorlaw17.FoldSteps", spec := "foldSteps", recurses := true, apart := false }
def FoldStepsSaid : Prop := foldStepsRow.holds Try.pinned (OpenSpec.ofChange foldStepsSpec)

/-- ITS FALSE NEIGHBOUR: 'it returns false'. Refute it at one input. -/
def foldStepsWrong : ChangeSpec := { name := "foldSteps", fn := fun _ => fun
  | [d1, d2, d3, d4, d5] => { results := [.lit (.bool false)], args := [d1, d2, d3, d4, d5] }
  | _ => none }
def FoldStepsWrongFalsely : Prop := foldStepsRow.holds Try.pinned (OpenSpec.ofChange foldStepsWrong)

/-- 'paviorlaw17.FoldStays': WHATEVER THE INPUT: true; the input reads as it did. -/
def foldStaysSpec : ChangeSpec := { name := "foldStays", fn := fun _ => fun
  | [d1, d2, d3, d4] => { results := [.lit (.bool true)], args := [d1, d2, d3, d4] }
  | _ => none }
def foldStaysRow : OpenClaim := { program := "ytmcjfnkekcablaa", sum := "4cefc1af6fd003ebbf5a1feb6022f28bb460e3c8e585a5e644a82002cfb2a9dd", func := "pavior/paviorlaw17.FoldStays", spec := "foldStays", apart := false }
def FoldStaysSaid : Prop := foldStaysRow.holds Try.pinned (OpenSpec.ofChange foldStaysSpec)

/-- ITS FALSE NEIGHBOUR: 'it returns false'. Refute it at one input. -/
def foldStaysWrong : ChangeSpec := { name := "foldStays", fn := fun _ => fun
  | [d1, d2, d3, d4] => { results := [.lit (.bool false)], args := [d1, d2, d3, d4] }
  | _ => none }
def FoldStaysWrongFalsely : Prop := foldStaysRow.holds Try.pinned (OpenSpec.ofChange foldStaysWrong)

/-- 'paviorlaw16.HugeFits': WHATEVER THE INPUT: true; the input reads as it did. -/
def hugeFitsSpec : ChangeSpec := { name := "hugeFits", fn := fun _ => fun
  | [d1, d2] => { results := [.lit (.bool true)], args := [d1, d2] }
  | _ => none }
def hugeFitsRow : OpenClaim := { program := "ytmcjfnkekcablaa", sum := "4cefc1af6fd003ebbf5a1feb6022f28bb460e3c8e585a5e644a82002cfb2a9dd", func := "pavior/paviorlaw16.HugeFits", spec := "hugeFits", apart := false }
def HugeFitsSaid : Prop := hugeFitsRow.holds Try.pinned (OpenSpec.ofChange hugeFitsSpec)

/-- ITS FALSE NEIGHBOUR: 'it returns false'. Refute it at one input. -/
def hugeFitsWrong : ChangeSpec := { name := "hugeFits", fn := fun _ => fun
  | [d1, d2] => { results := [.lit (.bool false)], args := [d1, d2] }
  | _ => none }
def HugeFitsWrongFalsely : Prop := hugeFitsRow.holds Try.pinned (OpenSpec.ofChange hugeFitsWrong)

/-- 'paviorlaw16.HugeSplits': WHATEVER THE INPUT: true; the input reads as it did. -/
def hugeSplitsSpec : ChangeSpec := { name := "hugeSplits", fn := fun _ => fun
  | [d1, d2, d3, d4, d5, d6] => { results := [.lit (.bool true)], args := [d1, d2, d3, d4, d5, d6] }
  | _ => none }
def hugeSplitsRow : OpenClaim := { program := "ytmcjfnkekcablaa", sum := "4cefc1af6fd003ebbf5a1feb6022f28bb460e3c8e585a5e644a82002cfb2a9dd", func := "pavior/paviorlaw16.HugeSplits", spec := "hugeSplits", recurses := true, apart := false }
def HugeSplitsSaid : Prop := hugeSplitsRow.holds Try.pinned (OpenSpec.ofChange hugeSplitsSpec)

/-- ITS FALSE NEIGHBOUR: 'it returns false'. Refute it at one input. -/
def hugeSplitsWrong : ChangeSpec := { name := "hugeSplits", fn := fun _ => fun
  | [d1, d2, d3, d4, d5, d6] => { results := [.lit (.bool false)], args := [d1, d2, d3, d4, d5, d6] }
  | _ => none }
def HugeSplitsWrongFalsely : Prop := hugeSplitsRow.holds Try.pinned (OpenSpec.ofChange hugeSplitsWrong)

/-- 'paviorlaw16.HugeStays': WHATEVER THE INPUT: true; the input reads as it did. -/
def hugeStaysSpec : ChangeSpec := { name := "hugeStays", fn := fun _ => fun
  | [d1, d2, d3, d4, d5] => { results := [.lit (.bool true)], args := [d1, d2, d3, d4, d5] }
  | _ => none }
def hugeStaysRow : OpenClaim := { program := "ytmcjfnkekcablaa", sum := "4cefc1af6fd003ebbf5a1feb6022f28bb460e3c8e585a5e644a82002cfb2a9dd", func := "pavior/paviorlaw16.HugeStays", spec := "hugeStays", apart := false }
def HugeStaysSaid : Prop := hugeStaysRow.holds Try.pinned (OpenSpec.ofChange hugeStaysSpec)

/-- ITS FALSE NEIGHBOUR: 'it returns false'. Refute it at one input. -/
def hugeStaysWrong : ChangeSpec := { name := "hugeStays", fn := fun _ => fun
  | [d1, d2, d3, d4, d5] => { results := [.lit (.bool false)], args := [d1, d2, d3, d4, d5] }
  | _ => none }
def HugeStaysWrongFalsely : Prop := hugeStaysRow.holds Try.pinned (OpenSpec.ofChange hugeStaysWrong)

/-- 'paviorlaw16.HugeMerges': WHATEVER THE INPUT: true; the input reads as it did. -/
def hugeMergesSpec : ChangeSpec := { name := "hugeMerges", fn := fun _ => fun
  | [d1, d2, d3, d4, d5, d6, d7] => { results := [.lit (.bool true)], args := [d1, d2, d3, d4, d5, d6, d7] }
  | _ => none }
def hugeMergesRow : OpenClaim := { program := "ytmcjfnkekcablaa", sum := "4cefc1af6fd003ebbf5a1feb6022f28bb460e3c8e585a5e644a82002cfb2a9dd", func := "pavior/paviorlaw16.HugeMerges", spec := "hugeMerges", apart := false }
def HugeMergesSaid : Prop := hugeMergesRow.holds Try.pinned (OpenSpec.ofChange hugeMergesSpec)

/-- ITS FALSE NEIGHBOUR: 'it returns false'. Refute it at one input. -/
def hugeMergesWrong : ChangeSpec := { name := "hugeMerges", fn := fun _ => fun
  | [d1, d2, d3, d4, d5, d6, d7] => { results := [.lit (.bool false)], args := [d1, d2, d3, d4, d5, d6, d7] }
  | _ => none }
def HugeMergesWrongFalsely : Prop := hugeMergesRow.holds Try.pinned (OpenSpec.ofChange hugeMergesWrong)

/-- 'paviorlaw12.TreePaths': WHATEVER THE INPUT: true; the input reads as it did. -/
def treePathsSpec : ChangeSpec := { name := "treePaths", fn := fun _ => fun
  | [d1, d2, d3, d4, d5, d6, d7] => { results := [.lit (.bool true)], args := [d1, d2, d3, d4, d5, d6, d7] }
  | _ => none }
def treePathsRow : OpenClaim := { program := "ytmcjfnkekcablaa", sum := "4cefc1af6fd003ebbf5a1feb6022f28bb460e3c8e585a5e644a82002cfb2a9dd", func := "pavior/paviorlaw12.TreePaths", spec := "treePaths", apart := false }
def TreePathsSaid : Prop := treePathsRow.holds Try.pinned (OpenSpec.ofChange treePathsSpec)

/-- ITS FALSE NEIGHBOUR: 'it returns false'. Refute it at one input. -/
def treePathsWrong : ChangeSpec := { name := "treePaths", fn := fun _ => fun
  | [d1, d2, d3, d4, d5, d6, d7] => { results := [.lit (.bool false)], args := [d1, d2, d3, d4, d5, d6, d7] }
  | _ => none }
def TreePathsWrongFalsely : Prop := treePathsRow.holds Try.pinned (OpenSpec.ofChange treePathsWrong)

/-- 'paviorlaw12.TreeStays': WHATEVER THE INPUT: true; the input reads as it did. -/
def treeStaysSpec : ChangeSpec := { name := "treeStays", fn := fun _ => fun
  | [d1, d2, d3, d4, d5] => { results := [.lit (.bool true)], args := [d1, d2, d3, d4, d5] }
  | _ => none }
def treeStaysRow : OpenClaim := { program := "ytmcjfnkekcablaa", sum := "4cefc1af6fd003ebbf5a1feb6022f28bb460e3c8e585a5e644a82002cfb2a9dd", func := "pavior/paviorlaw12.TreeStays", spec := "treeStays", recurses := true, apart := false }
def TreeStaysSaid : Prop := treeStaysRow.holds Try.pinned (OpenSpec.ofChange treeStaysSpec)

/-- ITS FALSE NEIGHBOUR: 'it returns false'. Refute it at one input. -/
def treeStaysWrong : ChangeSpec := { name := "treeStays", fn := fun _ => fun
  | [d1, d2, d3, d4, d5] => { results := [.lit (.bool false)], args := [d1, d2, d3, d4, d5] }
  | _ => none }
def TreeStaysWrongFalsely : Prop := treeStaysRow.holds Try.pinned (OpenSpec.ofChange treeStaysWrong)

/-- 'paviorlaw13.PlanStays': WHATEVER THE INPUT: true; the input reads as it did. -/
def planStaysSpec : ChangeSpec := { name := "planStays", fn := fun _ => fun
  | [d1, d2, d3, d4, d5] => { results := [.lit (.bool true)], args := [d1, d2, d3, d4, d5] }
  | _ => none }
def planStaysRow : OpenClaim := { program := "ytmcjfnkekcablaa", sum := "4cefc1af6fd003ebbf5a1feb6022f28bb460e3c8e585a5e644a82002cfb2a9dd", func := "pavior/paviorlaw13.PlanStays", spec := "planStays", apart := false }
def PlanStaysSaid : Prop := planStaysRow.holds Try.pinned (OpenSpec.ofChange planStaysSpec)

/-- ITS FALSE NEIGHBOUR: 'it returns false'. Refute it at one input. -/
def planStaysWrong : ChangeSpec := { name := "planStays", fn := fun _ => fun
  | [d1, d2, d3, d4, d5] => { results := [.lit (.bool false)], args := [d1, d2, d3, d4, d5] }
  | _ => none }
def PlanStaysWrongFalsely : Prop := planStaysRow.holds Try.pinned (OpenSpec.ofChange planStaysWrong)

/-- 'paviorlaw13.PlanSets': WHATEVER THE INPUT: true; the input reads as it did. -/
def planSetsSpec : ChangeSpec := { name := "planSets", fn := fun _ => fun
  | [d1, d2, d3, d4, d5, d6] => { results := [.lit (.bool true)], args := [d1, d2, d3, d4, d5, d6] }
  | _ => none }
def planSetsRow : OpenClaim := { program := "ytmcjfnkekcablaa", sum := "4cefc1af6fd003ebbf5a1feb6022f28bb460e3c8e585a5e644a82002cfb2a9dd", func := "pavior/paviorlaw13.PlanSets", spec := "planSets", apart := false }
def PlanSetsSaid : Prop := planSetsRow.holds Try.pinned (OpenSpec.ofChange planSetsSpec)

/-- ITS FALSE NEIGHBOUR: 'it returns false'. Refute it at one input. -/
def planSetsWrong : ChangeSpec := { name := "planSets", fn := fun _ => fun
  | [d1, d2, d3, d4, d5, d6] => { results := [.lit (.bool false)], args := [d1, d2, d3, d4, d5, d6] }
  | _ => none }
def PlanSetsWrongFalsely : Prop := planSetsRow.holds Try.pinned (OpenSpec.ofChange planSetsWrong)

/-- 'paviorlaw18.MoveSteps': WHATEVER THE INPUT: true; the input reads as it did. -/
def moveStepsSpec : ChangeSpec := { name := "moveSteps", fn := fun _ => fun
  | [d1, d2, d3, d4, d5, d6] => { results := [.lit (.bool true)], args := [d1, d2, d3, d4, d5, d6] }
  | _ => none }
def moveStepsRow : OpenClaim := { program := "ytmcjfnkekcablaa", sum := "4cefc1af6fd003ebbf5a1feb6022f28bb460e3c8e585a5e644a82002cfb2a9dd", func := "pavior/paviorlaw18.MoveSteps", spec := "moveSteps", inPlace := ["internal/reflectlite.TypeOf"], unfollowed := true, recurses := true, apart := false }
def MoveStepsSaid : Prop := moveStepsRow.holds Try.pinned (OpenSpec.ofChange moveStepsSpec)

/-- ITS FALSE NEIGHBOUR: 'it returns false'. Refute it at one input. -/
def moveStepsWrong : ChangeSpec := { name := "moveSteps", fn := fun _ => fun
  | [d1, d2, d3, d4, d5, d6] => { results := [.lit (.bool false)], args := [d1, d2, d3, d4, d5, d6] }
  | _ => none }
def MoveStepsWrongFalsely : Prop := moveStepsRow.holds Try.pinned (OpenSpec.ofChange moveStepsWrong)

/- THE SECOND FORM. 'bulk': how many values and letters a reading holds, each counted each time it is reached (what is shared counts as often as it is met; a slice's spare places count too). A statement '..UptoSaid' is the law's where the arguments, and the package variables that the reading takes, are together of bulk at most 1048576: NARROWER than '..Said'. Prove '..Said' where nothing that the law and all that it calls make is longer than what came in: it says more and counts as full. Else prove '..UptoSaid'. A law counts once. -/
mutual
def uptoBulk {H : Type} : DataW H → Nat
  | .lit (.string bytes) => bytes.length + 1
  | .lit _ => 1
  | .nil => 1
  | .ptr d => uptoBulk d + 1
  | .slice elems spare => uptoBulkAll elems + uptoBulkAll spare + 1
  | .agg parts => uptoBulkAll parts + 1
  | .iface _ d => uptoBulk d + 1
  | .map entries => uptoBulkEntries entries + 1
  | .held _ => 1
def uptoBulkAll {H : Type} : List (DataW H) → Nat
  | [] => 0
  | d :: r => uptoBulk d + uptoBulkAll r
def uptoBulkEntries {H : Type} : List (Lit × DataW H) → Nat
  | [] => 0
  | x :: r => uptoBulkEntry x + uptoBulkEntries r
def uptoBulkEntry {H : Type} : Lit × DataW H → Nat
  | (.string bytes, d) => bytes.length + uptoBulk d + 1
  | (_, d) => uptoBulk d + 1
 end
def uptoSmall : (H : Type) → List (DataW H) → Bool := fun _ ds => decide (uptoBulkAll ds ≤ 1048576)
def OpenSpec.upto (s : _root_.Go.ChangeSpec) : _root_.Go.OpenSpec := { _root_.Go.OpenSpec.ofChange s with cond := some uptoSmall }

/-- 'paviorlaw17.FoldTells', WHERE WHAT IT READS IS OF BULK AT MOST 1048576: true; the input reads as it did. -/
def foldTellsUptoRow : OpenClaim := { program := "ytmcjfnkekcablaa", sum := "4cefc1af6fd003ebbf5a1feb6022f28bb460e3c8e585a5e644a82002cfb2a9dd", func := "pavior/paviorlaw17.FoldTells", spec := "foldTells", recurses := true, apart := false, narrowed := true }
def FoldTellsUptoSaid : Prop := foldTellsUptoRow.holds Try.pinned (OpenSpec.upto foldTellsSpec)

/-- 'paviorlaw17.FoldSteps', WHERE WHAT IT READS IS OF BULK AT MOST 1048576: true; the input reads as it did. -/
def foldStepsUptoRow : OpenClaim := { program := "ytmcjfnkekcablaa", sum := "4cefc1af6fd003ebbf5a1feb6022f28bb460e3c8e585a5e644a82002cfb2a9dd", func := "pavior/paviorlaw17.FoldSteps", spec := "foldSteps", recurses := true, apart := false, narrowed := true }
def FoldStepsUptoSaid : Prop := foldStepsUptoRow.holds Try.pinned (OpenSpec.upto foldStepsSpec)

/-- 'paviorlaw17.FoldStays', WHERE WHAT IT READS IS OF BULK AT MOST 1048576: true; the input reads as it did. -/
def foldStaysUptoRow : OpenClaim := { program := "ytmcjfnkekcablaa", sum := "4cefc1af6fd003ebbf5a1feb6022f28bb460e3c8e585a5e644a82002cfb2a9dd", func := "pavior/paviorlaw17.FoldStays", spec := "foldStays", apart := false, narrowed := true }
def FoldStaysUptoSaid : Prop := foldStaysUptoRow.holds Try.pinned (OpenSpec.upto foldStaysSpec)

/-- 'paviorlaw16.HugeFits', WHERE WHAT IT READS IS OF BULK AT MOST 1048576: true; the input reads as it did. -/
def hugeFitsUptoRow : OpenClaim := { program := "ytmcjfnkekcablaa", sum := "4cefc1af6fd003ebbf5a1feb6022f28bb460e3c8e585a5e644a82002cfb2a9dd", func := "pavior/paviorlaw16.HugeFits", spec := "hugeFits", apart := false, narrowed := true }
def HugeFitsUptoSaid : Prop := hugeFitsUptoRow.holds Try.pinned (OpenSpec.upto hugeFitsSpec)

/-- 'paviorlaw16.HugeSplits', WHERE WHAT IT READS IS OF BULK AT MOST 1048576: true; the input reads as it did. -/
def hugeSplitsUptoRow : OpenClaim := { program := "ytmcjfnkekcablaa", sum := "4cefc1af6fd003ebbf5a1feb6022f28bb460e3c8e585a5e644a82002cfb2a9dd", func := "pavior/paviorlaw16.HugeSplits", spec := "hugeSplits", recurses := true, apart := false, narrowed := true }
def HugeSplitsUptoSaid : Prop := hugeSplitsUptoRow.holds Try.pinned (OpenSpec.upto hugeSplitsSpec)

/-- 'paviorlaw16.HugeStays', WHERE WHAT IT READS IS OF BULK AT MOST 1048576: true; the input reads as it did. -/
def hugeStaysUptoRow : OpenClaim := { program := "ytmcjfnkekcablaa", sum := "4cefc1af6fd003ebbf5a1feb6022f28bb460e3c8e585a5e644a82002cfb2a9dd", func := "pavior/paviorlaw16.HugeStays", spec := "hugeStays", apart := false, narrowed := true }
def HugeStaysUptoSaid : Prop := hugeStaysUptoRow.holds Try.pinned (OpenSpec.upto hugeStaysSpec)

/-- 'paviorlaw16.HugeMerges', WHERE WHAT IT READS IS OF BULK AT MOST 1048576: true; the input reads as it did. -/
def hugeMergesUptoRow : OpenClaim := { program := "ytmcjfnkekcablaa", sum := "4cefc1af6fd003ebbf5a1feb6022f28bb460e3c8e585a5e644a82002cfb2a9dd", func := "pavior/paviorlaw16.HugeMerges", spec := "hugeMerges", apart := false, narrowed := true }
def HugeMergesUptoSaid : Prop := hugeMergesUptoRow.holds Try.pinned (OpenSpec.upto hugeMergesSpec)

/-- 'paviorlaw12.TreePaths', WHERE WHAT IT READS IS OF BULK AT MOST 1048576: true; the input reads as it did. -/
def treePathsUptoRow : OpenClaim := { program := "ytmcjfnkekcablaa", sum := "4cefc1af6fd003ebbf5a1feb6022f28bb460e3c8e585a5e644a82002cfb2a9dd", func := "pavior/paviorlaw12.TreePaths", spec := "treePaths", apart := false, narrowed := true }
def TreePathsUptoSaid : Prop := treePathsUptoRow.holds Try.pinned (OpenSpec.upto treePathsSpec)

/-- 'paviorlaw12.TreeStays', WHERE WHAT IT READS IS OF BULK AT MOST 1048576: true; the input reads as it did. -/
def treeStaysUptoRow : OpenClaim := { program := "ytmcjfnkekcablaa", sum := "4cefc1af6fd003ebbf5a1feb6022f28bb460e3c8e585a5e644a82002cfb2a9dd", func := "pavior/paviorlaw12.TreeStays", spec := "treeStays", recurses := true, apart := false, narrowed := true }
def TreeStaysUptoSaid : Prop := treeStaysUptoRow.holds Try.pinned (OpenSpec.upto treeStaysSpec)

/-- 'paviorlaw13.PlanStays', WHERE WHAT IT READS IS OF BULK AT MOST 1048576: true; the input reads as it did. -/
def planStaysUptoRow : OpenClaim := { program := "ytmcjfnkekcablaa", sum := "4cefc1af6fd003ebbf5a1feb6022f28bb460e3c8e585a5e644a82002cfb2a9dd", func := "pavior/paviorlaw13.PlanStays", spec := "planStays", apart := false, narrowed := true }
def PlanStaysUptoSaid : Prop := planStaysUptoRow.holds Try.pinned (OpenSpec.upto planStaysSpec)

/-- 'paviorlaw13.PlanSets', WHERE WHAT IT READS IS OF BULK AT MOST 1048576: true; the input reads as it did. -/
def planSetsUptoRow : OpenClaim := { program := "ytmcjfnkekcablaa", sum := "4cefc1af6fd003ebbf5a1feb6022f28bb460e3c8e585a5e644a82002cfb2a9dd", func := "pavior/paviorlaw13.PlanSets", spec := "planSets", apart := false, narrowed := true }
def PlanSetsUptoSaid : Prop := planSetsUptoRow.holds Try.pinned (OpenSpec.upto planSetsSpec)

/-- 'paviorlaw18.MoveSteps', WHERE WHAT IT READS IS OF BULK AT MOST 1048576: true; the input reads as it did. -/
def moveStepsUptoRow : OpenClaim := { program := "ytmcjfnkekcablaa", sum := "4cefc1af6fd003ebbf5a1feb6022f28bb460e3c8e585a5e644a82002cfb2a9dd", func := "pavior/paviorlaw18.MoveSteps", spec := "moveSteps", inPlace := ["internal/reflectlite.TypeOf"], unfollowed := true, recurses := true, apart := false, narrowed := true }
def MoveStepsUptoSaid : Prop := moveStepsUptoRow.holds Try.pinned (OpenSpec.upto moveStepsSpec)

end Rows
end Go.Proofs.Ytmcjfnkekcablaa
