/-
  No cell of these rows narrows 'for every input' (looked for: loops, veiled, ifaces, maps, wideKeys, modest, calm, conditions, laid).
  DERIVED. THE GIVEN ROWS OF THIS SEAT. 13 by the template 'for every input the law returns true; each argument reads behind the call as it read before'; 0 by the template 'total and deterministic' (their statements: YtapeoeakiphfpaaTotals.lean).
  GIVEN WITH THE SEED: the statements are not yours to turn. If you find one false, say at which input.
  Laid BY PROGRAM, IN A SANDBOX (cutbox-rows.mjs): the forced cells as the released guide's own fill.sh prints them over the translation f13a6e47cde16c40… (all of the seat's roots in one cut). By AI agents, Wed Nov 11 2026. No macro, syntax, notation, axiom, sorry.
-/
import Derived.Test.YtapeoeakiphfpaaChecked
import GoSem.Claim
import GoSem.ClaimJoined
import GoSem.ClaimMapViews
import Derived.JoinedTies
import Derived.KernelRfl
namespace Go.Proofs.Ytapeoeakiphfpaa
/- THE CELL 'sum', in the pinned program and in every row, IS THE sha256 OF THE DUMP (.gsa) THAT YtapeoeakiphfpaaProg.lean LOADS. Nothing in Lean hashes anything: it is a label: what it is worth is what the hold of that sum in a sandbox is worth. -/
noncomputable def Try.pinned : Pinned := { name := "ytapeoeakiphfpaa", sum := "f13a6e47cde16c40ca44544baf6cb0f1c9b31b2347171be33e470d8e2ce653f1", checked := Try.checked }
namespace Rows
def none {H : Type} : Left H := { results := [], args := [] }

/-- 'paviorlaw03.PhysPlays': WHATEVER THE INPUT: true; the input reads as it did. -/
def physPlaysSpec : ChangeSpec := { name := "physPlays", fn := fun _ => fun
  | [d1, d2] => { results := [.lit (.bool true)], args := [d1, d2] }
  | _ => none }
def physPlaysRow : OpenClaim := { program := "ytapeoeakiphfpaa", sum := "f13a6e47cde16c40ca44544baf6cb0f1c9b31b2347171be33e470d8e2ce653f1", func := "pavior/paviorlaw03.PhysPlays", spec := "physPlays", plainKeys := false, apart := false }
def PhysPlaysSaid : Prop := physPlaysRow.holds Try.pinned (OpenSpec.ofChange physPlaysSpec)

/-- ITS FALSE NEIGHBOUR: 'it returns false'. Refute it at one input. -/
def physPlaysWrong : ChangeSpec := { name := "physPlays", fn := fun _ => fun
  | [d1, d2] => { results := [.lit (.bool false)], args := [d1, d2] }
  | _ => none }
def PhysPlaysWrongFalsely : Prop := physPlaysRow.holds Try.pinned (OpenSpec.ofChange physPlaysWrong)

/-- 'paviorlaw14.MachineNew': WHATEVER THE INPUT: true; the input reads as it did. -/
def machineNewSpec : ChangeSpec := { name := "machineNew", fn := fun _ => fun
  | [d1, d2] => { results := [.lit (.bool true)], args := [d1, d2] }
  | _ => none }
def machineNewRow : OpenClaim := { program := "ytapeoeakiphfpaa", sum := "f13a6e47cde16c40ca44544baf6cb0f1c9b31b2347171be33e470d8e2ce653f1", func := "pavior/paviorlaw14.MachineNew", spec := "machineNew", unfollowed := true, recurses := true, plainKeys := false, apart := false }
def MachineNewSaid : Prop := machineNewRow.holds Try.pinned (OpenSpec.ofChange machineNewSpec)

/-- ITS FALSE NEIGHBOUR: 'it returns false'. Refute it at one input. -/
def machineNewWrong : ChangeSpec := { name := "machineNew", fn := fun _ => fun
  | [d1, d2] => { results := [.lit (.bool false)], args := [d1, d2] }
  | _ => none }
def MachineNewWrongFalsely : Prop := machineNewRow.holds Try.pinned (OpenSpec.ofChange machineNewWrong)

/-- 'paviorlaw12.TreeKeeps': WHATEVER THE INPUT: true; the input reads as it did. -/
def treeKeepsSpec : ChangeSpec := { name := "treeKeeps", fn := fun _ => fun
  | [d1, d2, d3, d4, d5, d6, d7] => { results := [.lit (.bool true)], args := [d1, d2, d3, d4, d5, d6, d7] }
  | _ => none }
def treeKeepsRow : OpenClaim := { program := "ytapeoeakiphfpaa", sum := "f13a6e47cde16c40ca44544baf6cb0f1c9b31b2347171be33e470d8e2ce653f1", func := "pavior/paviorlaw12.TreeKeeps", spec := "treeKeeps", recurses := true, plainKeys := false, apart := false }
def TreeKeepsSaid : Prop := treeKeepsRow.holds Try.pinned (OpenSpec.ofChange treeKeepsSpec)

/-- ITS FALSE NEIGHBOUR: 'it returns false'. Refute it at one input. -/
def treeKeepsWrong : ChangeSpec := { name := "treeKeeps", fn := fun _ => fun
  | [d1, d2, d3, d4, d5, d6, d7] => { results := [.lit (.bool false)], args := [d1, d2, d3, d4, d5, d6, d7] }
  | _ => none }
def TreeKeepsWrongFalsely : Prop := treeKeepsRow.holds Try.pinned (OpenSpec.ofChange treeKeepsWrong)

/-- 'paviorlaw12.TreeBack': WHATEVER THE INPUT: true; the input reads as it did. -/
def treeBackSpec : ChangeSpec := { name := "treeBack", fn := fun _ => fun
  | [d1, d2, d3, d4, d5, d6] => { results := [.lit (.bool true)], args := [d1, d2, d3, d4, d5, d6] }
  | _ => none }
def treeBackRow : OpenClaim := { program := "ytapeoeakiphfpaa", sum := "f13a6e47cde16c40ca44544baf6cb0f1c9b31b2347171be33e470d8e2ce653f1", func := "pavior/paviorlaw12.TreeBack", spec := "treeBack", recurses := true, plainKeys := false, apart := false }
def TreeBackSaid : Prop := treeBackRow.holds Try.pinned (OpenSpec.ofChange treeBackSpec)

/-- ITS FALSE NEIGHBOUR: 'it returns false'. Refute it at one input. -/
def treeBackWrong : ChangeSpec := { name := "treeBack", fn := fun _ => fun
  | [d1, d2, d3, d4, d5, d6] => { results := [.lit (.bool false)], args := [d1, d2, d3, d4, d5, d6] }
  | _ => none }
def TreeBackWrongFalsely : Prop := treeBackRow.holds Try.pinned (OpenSpec.ofChange treeBackWrong)

/-- 'paviorlaw16.HugeParts': WHATEVER THE INPUT: true; the input reads as it did. -/
def hugePartsSpec : ChangeSpec := { name := "hugeParts", fn := fun _ => fun
  | [d1, d2, d3, d4, d5, d6] => { results := [.lit (.bool true)], args := [d1, d2, d3, d4, d5, d6] }
  | _ => none }
def hugePartsRow : OpenClaim := { program := "ytapeoeakiphfpaa", sum := "f13a6e47cde16c40ca44544baf6cb0f1c9b31b2347171be33e470d8e2ce653f1", func := "pavior/paviorlaw16.HugeParts", spec := "hugeParts", recurses := true, plainKeys := false, apart := false }
def HugePartsSaid : Prop := hugePartsRow.holds Try.pinned (OpenSpec.ofChange hugePartsSpec)

/-- ITS FALSE NEIGHBOUR: 'it returns false'. Refute it at one input. -/
def hugePartsWrong : ChangeSpec := { name := "hugeParts", fn := fun _ => fun
  | [d1, d2, d3, d4, d5, d6] => { results := [.lit (.bool false)], args := [d1, d2, d3, d4, d5, d6] }
  | _ => none }
def HugePartsWrongFalsely : Prop := hugePartsRow.holds Try.pinned (OpenSpec.ofChange hugePartsWrong)

/-- 'paviorlaw13.PlanTwice': WHATEVER THE INPUT: true; the input reads as it did. -/
def planTwiceSpec : ChangeSpec := { name := "planTwice", fn := fun _ => fun
  | [d1, d2, d3, d4, d5, d6, d7] => { results := [.lit (.bool true)], args := [d1, d2, d3, d4, d5, d6, d7] }
  | _ => none }
def planTwiceRow : OpenClaim := { program := "ytapeoeakiphfpaa", sum := "f13a6e47cde16c40ca44544baf6cb0f1c9b31b2347171be33e470d8e2ce653f1", func := "pavior/paviorlaw13.PlanTwice", spec := "planTwice", recurses := true, plainKeys := false, apart := false }
def PlanTwiceSaid : Prop := planTwiceRow.holds Try.pinned (OpenSpec.ofChange planTwiceSpec)

/-- ITS FALSE NEIGHBOUR: 'it returns false'. Refute it at one input. -/
def planTwiceWrong : ChangeSpec := { name := "planTwice", fn := fun _ => fun
  | [d1, d2, d3, d4, d5, d6, d7] => { results := [.lit (.bool false)], args := [d1, d2, d3, d4, d5, d6, d7] }
  | _ => none }
def PlanTwiceWrongFalsely : Prop := planTwiceRow.holds Try.pinned (OpenSpec.ofChange planTwiceWrong)

/-- 'paviorlaw17.FoldKeeps': WHATEVER THE INPUT: true; the input reads as it did. -/
def foldKeepsSpec : ChangeSpec := { name := "foldKeeps", fn := fun _ => fun
  | [d1, d2, d3, d4, d5] => { results := [.lit (.bool true)], args := [d1, d2, d3, d4, d5] }
  | _ => none }
def foldKeepsRow : OpenClaim := { program := "ytapeoeakiphfpaa", sum := "f13a6e47cde16c40ca44544baf6cb0f1c9b31b2347171be33e470d8e2ce653f1", func := "pavior/paviorlaw17.FoldKeeps", spec := "foldKeeps", recurses := true, plainKeys := false, apart := false }
def FoldKeepsSaid : Prop := foldKeepsRow.holds Try.pinned (OpenSpec.ofChange foldKeepsSpec)

/-- ITS FALSE NEIGHBOUR: 'it returns false'. Refute it at one input. -/
def foldKeepsWrong : ChangeSpec := { name := "foldKeeps", fn := fun _ => fun
  | [d1, d2, d3, d4, d5] => { results := [.lit (.bool false)], args := [d1, d2, d3, d4, d5] }
  | _ => none }
def FoldKeepsWrongFalsely : Prop := foldKeepsRow.holds Try.pinned (OpenSpec.ofChange foldKeepsWrong)

/-- 'paviorlaw16.HugeJoins': WHATEVER THE INPUT: true; the input reads as it did. -/
def hugeJoinsSpec : ChangeSpec := { name := "hugeJoins", fn := fun _ => fun
  | [d1, d2, d3, d4, d5, d6, d7] => { results := [.lit (.bool true)], args := [d1, d2, d3, d4, d5, d6, d7] }
  | _ => none }
def hugeJoinsRow : OpenClaim := { program := "ytapeoeakiphfpaa", sum := "f13a6e47cde16c40ca44544baf6cb0f1c9b31b2347171be33e470d8e2ce653f1", func := "pavior/paviorlaw16.HugeJoins", spec := "hugeJoins", recurses := true, plainKeys := false, apart := false }
def HugeJoinsSaid : Prop := hugeJoinsRow.holds Try.pinned (OpenSpec.ofChange hugeJoinsSpec)

/-- ITS FALSE NEIGHBOUR: 'it returns false'. Refute it at one input. -/
def hugeJoinsWrong : ChangeSpec := { name := "hugeJoins", fn := fun _ => fun
  | [d1, d2, d3, d4, d5, d6, d7] => { results := [.lit (.bool false)], args := [d1, d2, d3, d4, d5, d6, d7] }
  | _ => none }
def HugeJoinsWrongFalsely : Prop := hugeJoinsRow.holds Try.pinned (OpenSpec.ofChange hugeJoinsWrong)

/-- 'paviorlaw13.PlanKeeps': WHATEVER THE INPUT: true; the input reads as it did. -/
def planKeepsSpec : ChangeSpec := { name := "planKeeps", fn := fun _ => fun
  | [d1, d2, d3, d4, d5, d6, d7, d8] => { results := [.lit (.bool true)], args := [d1, d2, d3, d4, d5, d6, d7, d8] }
  | _ => none }
def planKeepsRow : OpenClaim := { program := "ytapeoeakiphfpaa", sum := "f13a6e47cde16c40ca44544baf6cb0f1c9b31b2347171be33e470d8e2ce653f1", func := "pavior/paviorlaw13.PlanKeeps", spec := "planKeeps", recurses := true, plainKeys := false, apart := false }
def PlanKeepsSaid : Prop := planKeepsRow.holds Try.pinned (OpenSpec.ofChange planKeepsSpec)

/-- ITS FALSE NEIGHBOUR: 'it returns false'. Refute it at one input. -/
def planKeepsWrong : ChangeSpec := { name := "planKeeps", fn := fun _ => fun
  | [d1, d2, d3, d4, d5, d6, d7, d8] => { results := [.lit (.bool false)], args := [d1, d2, d3, d4, d5, d6, d7, d8] }
  | _ => none }
def PlanKeepsWrongFalsely : Prop := planKeepsRow.holds Try.pinned (OpenSpec.ofChange planKeepsWrong)

/-- 'paviorlaw18.MoveStays': WHATEVER THE INPUT: true; the input reads as it did. -/
def moveStaysSpec : ChangeSpec := { name := "moveStays", fn := fun _ => fun
  | [d1, d2, d3, d4, d5, d6] => { results := [.lit (.bool true)], args := [d1, d2, d3, d4, d5, d6] }
  | _ => none }
def moveStaysRow : OpenClaim := { program := "ytapeoeakiphfpaa", sum := "f13a6e47cde16c40ca44544baf6cb0f1c9b31b2347171be33e470d8e2ce653f1", func := "pavior/paviorlaw18.MoveStays", spec := "moveStays", inPlace := ["internal/reflectlite.TypeOf"], unfollowed := true, recurses := true, plainKeys := false, apart := false }
def MoveStaysSaid : Prop := moveStaysRow.holds Try.pinned (OpenSpec.ofChange moveStaysSpec)

/-- ITS FALSE NEIGHBOUR: 'it returns false'. Refute it at one input. -/
def moveStaysWrong : ChangeSpec := { name := "moveStays", fn := fun _ => fun
  | [d1, d2, d3, d4, d5, d6] => { results := [.lit (.bool false)], args := [d1, d2, d3, d4, d5, d6] }
  | _ => none }
def MoveStaysWrongFalsely : Prop := moveStaysRow.holds Try.pinned (OpenSpec.ofChange moveStaysWrong)

/-- 'paviorlaw18.MoveBack': WHATEVER THE INPUT: true; the input reads as it did. -/
def moveBackSpec : ChangeSpec := { name := "moveBack", fn := fun _ => fun
  | [d1, d2, d3, d4, d5, d6] => { results := [.lit (.bool true)], args := [d1, d2, d3, d4, d5, d6] }
  | _ => none }
def moveBackRow : OpenClaim := { program := "ytapeoeakiphfpaa", sum := "f13a6e47cde16c40ca44544baf6cb0f1c9b31b2347171be33e470d8e2ce653f1", func := "pavior/paviorlaw18.MoveBack", spec := "moveBack", inPlace := ["internal/reflectlite.TypeOf"], unfollowed := true, recurses := true, plainKeys := false, apart := false }
def MoveBackSaid : Prop := moveBackRow.holds Try.pinned (OpenSpec.ofChange moveBackSpec)

/-- ITS FALSE NEIGHBOUR: 'it returns false'. Refute it at one input. -/
def moveBackWrong : ChangeSpec := { name := "moveBack", fn := fun _ => fun
  | [d1, d2, d3, d4, d5, d6] => { results := [.lit (.bool false)], args := [d1, d2, d3, d4, d5, d6] }
  | _ => none }
def MoveBackWrongFalsely : Prop := moveBackRow.holds Try.pinned (OpenSpec.ofChange moveBackWrong)

/-- 'paviorlaw18.MoveKeeps': WHATEVER THE INPUT: true; the input reads as it did. -/
def moveKeepsSpec : ChangeSpec := { name := "moveKeeps", fn := fun _ => fun
  | [d1, d2, d3, d4, d5, d6] => { results := [.lit (.bool true)], args := [d1, d2, d3, d4, d5, d6] }
  | _ => none }
def moveKeepsRow : OpenClaim := { program := "ytapeoeakiphfpaa", sum := "f13a6e47cde16c40ca44544baf6cb0f1c9b31b2347171be33e470d8e2ce653f1", func := "pavior/paviorlaw18.MoveKeeps", spec := "moveKeeps", inPlace := ["internal/reflectlite.TypeOf"], unfollowed := true, recurses := true, plainKeys := false, apart := false }
def MoveKeepsSaid : Prop := moveKeepsRow.holds Try.pinned (OpenSpec.ofChange moveKeepsSpec)

/-- ITS FALSE NEIGHBOUR: 'it returns false'. Refute it at one input. -/
def moveKeepsWrong : ChangeSpec := { name := "moveKeeps", fn := fun _ => fun
  | [d1, d2, d3, d4, d5, d6] => { results := [.lit (.bool false)], args := [d1, d2, d3, d4, d5, d6] }
  | _ => none }
def MoveKeepsWrongFalsely : Prop := moveKeepsRow.holds Try.pinned (OpenSpec.ofChange moveKeepsWrong)

/-- 'paviorlaw18.MoveSteps': WHATEVER THE INPUT: true; the input reads as it did. -/
def moveStepsSpec : ChangeSpec := { name := "moveSteps", fn := fun _ => fun
  | [d1, d2, d3, d4, d5, d6] => { results := [.lit (.bool true)], args := [d1, d2, d3, d4, d5, d6] }
  | _ => none }
def moveStepsRow : OpenClaim := { program := "ytapeoeakiphfpaa", sum := "f13a6e47cde16c40ca44544baf6cb0f1c9b31b2347171be33e470d8e2ce653f1", func := "pavior/paviorlaw18.MoveSteps", spec := "moveSteps", inPlace := ["internal/reflectlite.TypeOf"], unfollowed := true, recurses := true, plainKeys := false, apart := false }
def MoveStepsSaid : Prop := moveStepsRow.holds Try.pinned (OpenSpec.ofChange moveStepsSpec)

/-- ITS FALSE NEIGHBOUR: 'it returns false'. Refute it at one input. -/
def moveStepsWrong : ChangeSpec := { name := "moveSteps", fn := fun _ => fun
  | [d1, d2, d3, d4, d5, d6] => { results := [.lit (.bool false)], args := [d1, d2, d3, d4, d5, d6] }
  | _ => none }
def MoveStepsWrongFalsely : Prop := moveStepsRow.holds Try.pinned (OpenSpec.ofChange moveStepsWrong)

/- THE SECOND FORM. 'bulk': how many values and letters a reading holds, each counted each time it is reached (what is shared counts as often as it is met; a slice's spare places count too). A statement '..UptoSaid' is the law's where the arguments, and the package variables that the reading takes, are together of bulk at most 1048576: NARROWER than '..Said'. Prove '..Said' where nothing that the law and all that it calls make is longer than what came in: it says more and counts as full. Else prove '..UptoSaid'. A law counts once. -/
mutual
def uptoBulk {H : Type} : DataW H → Nat
  | .lit (.string bytes) => bytes.length + 1
  | .lit _ => 1
  | .nil => 1
  | .ptr d => uptoBulk d + 1
  | .slice elems spare => uptoBulkAll elems + uptoBulkAll spare + 1
  | .agg parts => uptoBulkAll parts + 1
  | .iface _ d => uptoBulk d + 1
  | .map entries => uptoBulkEntries entries + 1
  | .held _ => 1
def uptoBulkAll {H : Type} : List (DataW H) → Nat
  | [] => 0
  | d :: r => uptoBulk d + uptoBulkAll r
def uptoBulkEntries {H : Type} : List (Lit × DataW H) → Nat
  | [] => 0
  | x :: r => uptoBulkEntry x + uptoBulkEntries r
def uptoBulkEntry {H : Type} : Lit × DataW H → Nat
  | (.string bytes, d) => bytes.length + uptoBulk d + 1
  | (_, d) => uptoBulk d + 1
 end
def uptoSmall : (H : Type) → List (DataW H) → Bool := fun _ ds => decide (uptoBulkAll ds ≤ 1048576)
def OpenSpec.upto (s : _root_.Go.ChangeSpec) : _root_.Go.OpenSpec := { _root_.Go.OpenSpec.ofChange s with cond := some uptoSmall }

/-- 'paviorlaw03.PhysPlays', WHERE WHAT IT READS IS OF BULK AT MOST 1048576: true; the input reads as it did. -/
def physPlaysUptoRow : OpenClaim := { program := "ytapeoeakiphfpaa", sum := "f13a6e47cde16c40ca44544baf6cb0f1c9b31b2347171be33e470d8e2ce653f1", func := "pavior/paviorlaw03.PhysPlays", spec := "physPlays", plainKeys := false, apart := false, narrowed := true }
def PhysPlaysUptoSaid : Prop := physPlaysUptoRow.holds Try.pinned (OpenSpec.upto physPlaysSpec)

/-- 'paviorlaw14.MachineNew', WHERE WHAT IT READS IS OF BULK AT MOST 1048576: true; the input reads as it did. -/
def machineNewUptoRow : OpenClaim := { program := "ytapeoeakiphfpaa", sum := "f13a6e47cde16c40ca44544baf6cb0f1c9b31b2347171be33e470d8e2ce653f1", func := "pavior/paviorlaw14.MachineNew", spec := "machineNew", unfollowed := true, recurses := true, plainKeys := false, apart := false, narrowed := true }
def MachineNewUptoSaid : Prop := machineNewUptoRow.holds Try.pinned (OpenSpec.upto machineNewSpec)

/-- 'paviorlaw12.TreeKeeps', WHERE WHAT IT READS IS OF BULK AT MOST 1048576: true; the input reads as it did. -/
def treeKeepsUptoRow : OpenClaim := { program := "ytapeoeakiphfpaa", sum := "f13a6e47cde16c40ca44544baf6cb0f1c9b31b2347171be33e470d8e2ce653f1", func := "pavior/paviorlaw12.TreeKeeps", spec := "treeKeeps", recurses := true, plainKeys := false, apart := false, narrowed := true }
def TreeKeepsUptoSaid : Prop := treeKeepsUptoRow.holds Try.pinned (OpenSpec.upto treeKeepsSpec)

/-- 'paviorlaw12.TreeBack', WHERE WHAT IT READS IS OF BULK AT MOST 1048576: true; the input reads as it did. -/
def treeBackUptoRow : OpenClaim := { program := "ytapeoeakiphfpaa", sum := "f13a6e47cde16c40ca44544baf6cb0f1c9b31b2347171be33e470d8e2ce653f1", func := "pavior/paviorlaw12.TreeBack", spec := "treeBack", recurses := true, plainKeys := false, apart := false, narrowed := true }
def TreeBackUptoSaid : Prop := treeBackUptoRow.holds Try.pinned (OpenSpec.upto treeBackSpec)

/-- 'paviorlaw16.HugeParts', WHERE WHAT IT READS IS OF BULK AT MOST 1048576: true; the input reads as it did. -/
def hugePartsUptoRow : OpenClaim := { program := "ytapeoeakiphfpaa", sum := "f13a6e47cde16c40ca44544baf6cb0f1c9b31b2347171be33e470d8e2ce653f1", func := "pavior/paviorlaw16.HugeParts", spec := "hugeParts", recurses := true, plainKeys := false, apart := false, narrowed := true }
def HugePartsUptoSaid : Prop := hugePartsUptoRow.holds Try.pinned (OpenSpec.upto hugePartsSpec)

/-- 'paviorlaw13.PlanTwice', WHERE WHAT IT READS IS OF BULK AT MOST 1048576: true; the input reads as it did. -/
def planTwiceUptoRow : OpenClaim := { program := "ytapeoeakiphfpaa", sum := "f13a6e47cde16c40ca44544baf6cb0f1c9b31b2347171be33e470d8e2ce653f1", func := "pavior/paviorlaw13.PlanTwice", spec := "planTwice", recurses := true, plainKeys := false, apart := false, narrowed := true }
def PlanTwiceUptoSaid : Prop := planTwiceUptoRow.holds Try.pinned (OpenSpec.upto planTwiceSpec)

/-- 'paviorlaw17.FoldKeeps', WHERE WHAT IT READS IS OF BULK AT MOST 1048576: true; the input reads as it did. -/
def foldKeepsUptoRow : OpenClaim := { program := "ytapeoeakiphfpaa", sum := "f13a6e47cde16c40ca44544baf6cb0f1c9b31b2347171be33e470d8e2ce653f1", func := "pavior/paviorlaw17.FoldKeeps", spec := "foldKeeps", recurses := true, plainKeys := false, apart := false, narrowed := true }
def FoldKeepsUptoSaid : Prop := foldKeepsUptoRow.holds Try.pinned (OpenSpec.upto foldKeepsSpec)

/-- 'paviorlaw16.HugeJoins', WHERE WHAT IT READS IS OF BULK AT MOST 1048576: true; the input reads as it did. -/
def hugeJoinsUptoRow : OpenClaim := { program := "ytapeoeakiphfpaa", sum := "f13a6e47cde16c40ca44544baf6cb0f1c9b31b2347171be33e470d8e2ce653f1", func := "pavior/paviorlaw16.HugeJoins", spec := "hugeJoins", recurses := true, plainKeys := false, apart := false, narrowed := true }
def HugeJoinsUptoSaid : Prop := hugeJoinsUptoRow.holds Try.pinned (OpenSpec.upto hugeJoinsSpec)

/-- 'paviorlaw13.PlanKeeps', WHERE WHAT IT READS IS OF BULK AT MOST 1048576: true; the input reads as it did. -/
def planKeepsUptoRow : OpenClaim := { program := "ytapeoeakiphfpaa", sum := "f13a6e47cde16c40ca44544baf6cb0f1c9b31b2347171be33e470d8e2ce653f1", func := "pavior/paviorlaw13.PlanKeeps", spec := "planKeeps", recurses := true, plainKeys := false, apart := false, narrowed := true }
def PlanKeepsUptoSaid : Prop := planKeepsUptoRow.holds Try.pinned (OpenSpec.upto planKeepsSpec)

/-- 'paviorlaw18.MoveStays', WHERE WHAT IT READS IS OF BULK AT MOST 1048576: true; the input reads as it did. -/
def moveStaysUptoRow : OpenClaim := { program := "ytapeoeakiphfpaa", sum := "f13a6e47cde16c40ca44544baf6cb0f1c9b31b2347171be33e470d8e2ce653f1", func := "pavior/paviorlaw18.MoveStays", spec := "moveStays", inPlace := ["internal/reflectlite.TypeOf"], unfollowed := true, recurses := true, plainKeys := false, apart := false, narrowed := true }
def MoveStaysUptoSaid : Prop := moveStaysUptoRow.holds Try.pinned (OpenSpec.upto moveStaysSpec)

/-- 'paviorlaw18.MoveBack', WHERE WHAT IT READS IS OF BULK AT MOST 1048576: true; the input reads as it did. -/
def moveBackUptoRow : OpenClaim := { program := "ytapeoeakiphfpaa", sum := "f13a6e47cde16c40ca44544baf6cb0f1c9b31b2347171be33e470d8e2ce653f1", func := "pavior/paviorlaw18.MoveBack", spec := "moveBack", inPlace := ["internal/reflectlite.TypeOf"], unfollowed := true, recurses := true, plainKeys := false, apart := false, narrowed := true }
def MoveBackUptoSaid : Prop := moveBackUptoRow.holds Try.pinned (OpenSpec.upto moveBackSpec)

/-- 'paviorlaw18.MoveKeeps', WHERE WHAT IT READS IS OF BULK AT MOST 1048576: true; the input reads as it did. -/
def moveKeepsUptoRow : OpenClaim := { program := "ytapeoeakiphfpaa", sum := "f13a6e47cde16c40ca44544baf6cb0f1c9b31b2347171be33e470d8e2ce653f1", func := "pavior/paviorlaw18.MoveKeeps", spec := "moveKeeps", inPlace := ["internal/reflectlite.TypeOf"], unfollowed := true, recurses := true, plainKeys := false, apart := false, narrowed := true }
def MoveKeepsUptoSaid : Prop := moveKeepsUptoRow.holds Try.pinned (OpenSpec.upto moveKeepsSpec)

/-- 'paviorlaw18.MoveSteps', WHERE WHAT IT READS IS OF BULK AT MOST 1048576: true; the input reads as it did. -/
def moveStepsUptoRow : OpenClaim := { program := "ytapeoeakiphfpaa", sum := "f13a6e47cde16c40ca44544baf6cb0f1c9b31b2347171be33e470d8e2ce653f1", func := "pavior/paviorlaw18.MoveSteps", spec := "moveSteps", inPlace := ["internal/reflectlite.TypeOf"], unfollowed := true, recurses := true, plainKeys := false, apart := false, narrowed := true }
def MoveStepsUptoSaid : Prop := moveStepsUptoRow.holds Try.pinned (OpenSpec.upto moveStepsSpec)

end Rows
end Go.Proofs.Ytapeoeakiphfpaa
