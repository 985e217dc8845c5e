/-
  No cell of these rows narrows 'for every input' (looked for: loops, veiled, ifaces, maps, wideKeys, modest, calm, conditions, laid).
  DERIVED. THE GIVEN ROWS OF THIS SEAT. 10 by the template 'for every input the law returns true; each argument reads behind the call as it read before'; 0 by the template 'total and deterministic' (their statements: YthcdecgecabgaaaTotals.lean).
  GIVEN WITH THE SEED: the statements are not yours to turn. If you find one false, say at which input.
  Laid BY PROGRAM, IN A SANDBOX (cutbox-rows.mjs): the forced cells as the released guide's own fill.sh prints them over the translation 68e6f93124c16eae… (all of the seat's roots in one cut). By AI agents, Wed Nov 11 2026. No macro, syntax, notation, axiom, sorry.
-/
import Derived.Test.YthcdecgecabgaaaChecked
import GoSem.Claim
import GoSem.ClaimJoined
import GoSem.ClaimMapViews
import Derived.JoinedTies
import Derived.KernelRfl
namespace Go.Proofs.Ythcdecgecabgaaa
/- THE CELL 'sum', in the pinned program and in every row, IS THE sha256 OF THE DUMP (.gsa) THAT YthcdecgecabgaaaProg.lean LOADS. Nothing in Lean hashes anything: it is a label: what it is worth is what the hold of that sum in a sandbox is worth. -/
noncomputable def Try.pinned : Pinned := { name := "ythcdecgecabgaaa", sum := "68e6f93124c16eae19482ce7bc9bdff716314d73d263e5e9025a3d1bd4d4e956", checked := Try.checked }
namespace Rows
def none {H : Type} : Left H := { results := [], args := [] }

/-- 'paviorlaw18.MoveKeeps': WHATEVER THE INPUT: true; the input reads as it did. -/
def moveKeepsSpec : ChangeSpec := { name := "moveKeeps", fn := fun _ => fun
  | [d1, d2, d3, d4, d5, d6] => { results := [.lit (.bool true)], args := [d1, d2, d3, d4, d5, d6] }
  | _ => none }
def moveKeepsRow : OpenClaim := { program := "ythcdecgecabgaaa", sum := "68e6f93124c16eae19482ce7bc9bdff716314d73d263e5e9025a3d1bd4d4e956", func := "pavior/paviorlaw18.MoveKeeps", spec := "moveKeeps", inPlace := ["internal/reflectlite.TypeOf"], unfollowed := true, recurses := true, plainKeys := false, apart := false }
def MoveKeepsSaid : Prop := moveKeepsRow.holds Try.pinned (OpenSpec.ofChange moveKeepsSpec)

/-- ITS FALSE NEIGHBOUR: 'it returns false'. Refute it at one input. -/
def moveKeepsWrong : ChangeSpec := { name := "moveKeeps", fn := fun _ => fun
  | [d1, d2, d3, d4, d5, d6] => { results := [.lit (.bool false)], args := [d1, d2, d3, d4, d5, d6] }
  | _ => none }
def MoveKeepsWrongFalsely : Prop := moveKeepsRow.holds Try.pinned (OpenSpec.ofChange moveKeepsWrong)

/-- 'paviorlaw18.MoveSteps': WHATEVER THE INPUT: true; the input reads as it did. -/
def moveStepsSpec : ChangeSpec := { name := "moveSteps", fn := fun _ => fun
  | [d1, d2, d3, d4, d5, d6] => { results := [.lit (.bool true)], args := [d1, d2, d3, d4, d5, d6] }
  | _ => none }
def moveStepsRow : OpenClaim := { program := "ythcdecgecabgaaa", sum := "68e6f93124c16eae19482ce7bc9bdff716314d73d263e5e9025a3d1bd4d4e956", func := "pavior/paviorlaw18.MoveSteps", spec := "moveSteps", inPlace := ["internal/reflectlite.TypeOf"], unfollowed := true, recurses := true, plainKeys := false, apart := false }
def MoveStepsSaid : Prop := moveStepsRow.holds Try.pinned (OpenSpec.ofChange moveStepsSpec)

/-- ITS FALSE NEIGHBOUR: 'it returns false'. Refute it at one input. -/
def moveStepsWrong : ChangeSpec := { name := "moveSteps", fn := fun _ => fun
  | [d1, d2, d3, d4, d5, d6] => { results := [.lit (.bool false)], args := [d1, d2, d3, d4, d5, d6] }
  | _ => none }
def MoveStepsWrongFalsely : Prop := moveStepsRow.holds Try.pinned (OpenSpec.ofChange moveStepsWrong)

/-- 'paviorlaw14.MachineNew': WHATEVER THE INPUT: true; the input reads as it did. -/
def machineNewSpec : ChangeSpec := { name := "machineNew", fn := fun _ => fun
  | [d1, d2] => { results := [.lit (.bool true)], args := [d1, d2] }
  | _ => none }
def machineNewRow : OpenClaim := { program := "ythcdecgecabgaaa", sum := "68e6f93124c16eae19482ce7bc9bdff716314d73d263e5e9025a3d1bd4d4e956", func := "pavior/paviorlaw14.MachineNew", spec := "machineNew", unfollowed := true, recurses := true, plainKeys := false, apart := false }
def MachineNewSaid : Prop := machineNewRow.holds Try.pinned (OpenSpec.ofChange machineNewSpec)

/-- ITS FALSE NEIGHBOUR: 'it returns false'. Refute it at one input. -/
def machineNewWrong : ChangeSpec := { name := "machineNew", fn := fun _ => fun
  | [d1, d2] => { results := [.lit (.bool false)], args := [d1, d2] }
  | _ => none }
def MachineNewWrongFalsely : Prop := machineNewRow.holds Try.pinned (OpenSpec.ofChange machineNewWrong)

/-- 'paviorlaw11.RmapMoves': WHATEVER THE INPUT: true; the input reads as it did. -/
def rmapMovesSpec : ChangeSpec := { name := "rmapMoves", fn := fun _ => fun
  | [d1, d2, d3] => { results := [.lit (.bool true)], args := [d1, d2, d3] }
  | _ => none }
def rmapMovesRow : OpenClaim := { program := "ythcdecgecabgaaa", sum := "68e6f93124c16eae19482ce7bc9bdff716314d73d263e5e9025a3d1bd4d4e956", func := "pavior/paviorlaw11.RmapMoves", spec := "rmapMoves", unfollowed := true, recurses := true, plainKeys := false, apart := false }
def RmapMovesSaid : Prop := rmapMovesRow.holds Try.pinned (OpenSpec.ofChange rmapMovesSpec)

/-- ITS FALSE NEIGHBOUR: 'it returns false'. Refute it at one input. -/
def rmapMovesWrong : ChangeSpec := { name := "rmapMoves", fn := fun _ => fun
  | [d1, d2, d3] => { results := [.lit (.bool false)], args := [d1, d2, d3] }
  | _ => none }
def RmapMovesWrongFalsely : Prop := rmapMovesRow.holds Try.pinned (OpenSpec.ofChange rmapMovesWrong)

/-- 'paviorlaw11.RmapStays': WHATEVER THE INPUT: true; the input reads as it did. -/
def rmapStaysSpec : ChangeSpec := { name := "rmapStays", fn := fun _ => fun
  | [d] => { results := [.lit (.bool true)], args := [d] }
  | _ => none }
def rmapStaysRow : OpenClaim := { program := "ythcdecgecabgaaa", sum := "68e6f93124c16eae19482ce7bc9bdff716314d73d263e5e9025a3d1bd4d4e956", func := "pavior/paviorlaw11.RmapStays", spec := "rmapStays", inPlace := ["maps.clone"], unfollowed := true, recurses := true, plainKeys := false, apart := false }
def RmapStaysSaid : Prop := rmapStaysRow.holds Try.pinned (OpenSpec.ofChange rmapStaysSpec)

/-- ITS FALSE NEIGHBOUR: 'it returns false'. Refute it at one input. -/
def rmapStaysWrong : ChangeSpec := { name := "rmapStays", fn := fun _ => fun
  | [d] => { results := [.lit (.bool false)], args := [d] }
  | _ => none }
def RmapStaysWrongFalsely : Prop := rmapStaysRow.holds Try.pinned (OpenSpec.ofChange rmapStaysWrong)

/-- 'paviorlaw11.RmapPlays': WHATEVER THE INPUT: true; the input reads as it did. -/
def rmapPlaysSpec : ChangeSpec := { name := "rmapPlays", fn := fun _ => fun
  | [d] => { results := [.lit (.bool true)], args := [d] }
  | _ => none }
def rmapPlaysRow : OpenClaim := { program := "ythcdecgecabgaaa", sum := "68e6f93124c16eae19482ce7bc9bdff716314d73d263e5e9025a3d1bd4d4e956", func := "pavior/paviorlaw11.RmapPlays", spec := "rmapPlays", unfollowed := true, recurses := true, plainKeys := false, apart := false }
def RmapPlaysSaid : Prop := rmapPlaysRow.holds Try.pinned (OpenSpec.ofChange rmapPlaysSpec)

/-- ITS FALSE NEIGHBOUR: 'it returns false'. Refute it at one input. -/
def rmapPlaysWrong : ChangeSpec := { name := "rmapPlays", fn := fun _ => fun
  | [d] => { results := [.lit (.bool false)], args := [d] }
  | _ => none }
def RmapPlaysWrongFalsely : Prop := rmapPlaysRow.holds Try.pinned (OpenSpec.ofChange rmapPlaysWrong)

/-- 'paviorlaw11.RmapOnce': WHATEVER THE INPUT: true; the input reads as it did. -/
def rmapOnceSpec : ChangeSpec := { name := "rmapOnce", fn := fun _ => fun
  | [d1, d2] => { results := [.lit (.bool true)], args := [d1, d2] }
  | _ => none }
def rmapOnceRow : OpenClaim := { program := "ythcdecgecabgaaa", sum := "68e6f93124c16eae19482ce7bc9bdff716314d73d263e5e9025a3d1bd4d4e956", func := "pavior/paviorlaw11.RmapOnce", spec := "rmapOnce", unfollowed := true, recurses := true, plainKeys := false, apart := false }
def RmapOnceSaid : Prop := rmapOnceRow.holds Try.pinned (OpenSpec.ofChange rmapOnceSpec)

/-- ITS FALSE NEIGHBOUR: 'it returns false'. Refute it at one input. -/
def rmapOnceWrong : ChangeSpec := { name := "rmapOnce", fn := fun _ => fun
  | [d1, d2] => { results := [.lit (.bool false)], args := [d1, d2] }
  | _ => none }
def RmapOnceWrongFalsely : Prop := rmapOnceRow.holds Try.pinned (OpenSpec.ofChange rmapOnceWrong)

/-- 'paviorlaw14.MachineTells': WHATEVER THE INPUT: true; the input reads as it did. -/
def machineTellsSpec : ChangeSpec := { name := "machineTells", fn := fun _ => fun
  | [d1, d2, d3, d4, d5] => { results := [.lit (.bool true)], args := [d1, d2, d3, d4, d5] }
  | _ => none }
def machineTellsRow : OpenClaim := { program := "ythcdecgecabgaaa", sum := "68e6f93124c16eae19482ce7bc9bdff716314d73d263e5e9025a3d1bd4d4e956", func := "pavior/paviorlaw14.MachineTells", spec := "machineTells", unfollowed := true, recurses := true, plainKeys := false, apart := false }
def MachineTellsSaid : Prop := machineTellsRow.holds Try.pinned (OpenSpec.ofChange machineTellsSpec)

/-- ITS FALSE NEIGHBOUR: 'it returns false'. Refute it at one input. -/
def machineTellsWrong : ChangeSpec := { name := "machineTells", fn := fun _ => fun
  | [d1, d2, d3, d4, d5] => { results := [.lit (.bool false)], args := [d1, d2, d3, d4, d5] }
  | _ => none }
def MachineTellsWrongFalsely : Prop := machineTellsRow.holds Try.pinned (OpenSpec.ofChange machineTellsWrong)

/-- 'paviorlaw14.MachineStays': WHATEVER THE INPUT: true; the input reads as it did. -/
def machineStaysSpec : ChangeSpec := { name := "machineStays", fn := fun _ => fun
  | [d1, d2] => { results := [.lit (.bool true)], args := [d1, d2] }
  | _ => none }
def machineStaysRow : OpenClaim := { program := "ythcdecgecabgaaa", sum := "68e6f93124c16eae19482ce7bc9bdff716314d73d263e5e9025a3d1bd4d4e956", func := "pavior/paviorlaw14.MachineStays", spec := "machineStays", unfollowed := true, recurses := true, plainKeys := false, apart := false }
def MachineStaysSaid : Prop := machineStaysRow.holds Try.pinned (OpenSpec.ofChange machineStaysSpec)

/-- ITS FALSE NEIGHBOUR: 'it returns false'. Refute it at one input. -/
def machineStaysWrong : ChangeSpec := { name := "machineStays", fn := fun _ => fun
  | [d1, d2] => { results := [.lit (.bool false)], args := [d1, d2] }
  | _ => none }
def MachineStaysWrongFalsely : Prop := machineStaysRow.holds Try.pinned (OpenSpec.ofChange machineStaysWrong)

/-- 'paviorlaw14.MachineFills': WHATEVER THE INPUT: true; the input reads as it did. -/
def machineFillsSpec : ChangeSpec := { name := "machineFills", fn := fun _ => fun
  | [d1, d2, d3, d4, d5, d6] => { results := [.lit (.bool true)], args := [d1, d2, d3, d4, d5, d6] }
  | _ => none }
def machineFillsRow : OpenClaim := { program := "ythcdecgecabgaaa", sum := "68e6f93124c16eae19482ce7bc9bdff716314d73d263e5e9025a3d1bd4d4e956", func := "pavior/paviorlaw14.MachineFills", spec := "machineFills", unfollowed := true, recurses := true, plainKeys := false, apart := false }
def MachineFillsSaid : Prop := machineFillsRow.holds Try.pinned (OpenSpec.ofChange machineFillsSpec)

/-- ITS FALSE NEIGHBOUR: 'it returns false'. Refute it at one input. -/
def machineFillsWrong : ChangeSpec := { name := "machineFills", fn := fun _ => fun
  | [d1, d2, d3, d4, d5, d6] => { results := [.lit (.bool false)], args := [d1, d2, d3, d4, d5, d6] }
  | _ => none }
def MachineFillsWrongFalsely : Prop := machineFillsRow.holds Try.pinned (OpenSpec.ofChange machineFillsWrong)

/- THE SECOND FORM. 'bulk': how many values and letters a reading holds, each counted each time it is reached (what is shared counts as often as it is met; a slice's spare places count too). A statement '..UptoSaid' is the law's where the arguments, and the package variables that the reading takes, are together of bulk at most 1048576: NARROWER than '..Said'. Prove '..Said' where nothing that the law and all that it calls make is longer than what came in: it says more and counts as full. Else prove '..UptoSaid'. A law counts once. -/
mutual
def uptoBulk {H : Type} : DataW H → Nat
  | .lit (.string bytes) => bytes.length + 1
  | .lit _ => 1
  | .nil => 1
  | .ptr d => uptoBulk d + 1
  | .slice elems spare => uptoBulkAll elems + uptoBulkAll spare + 1
  | .agg parts => uptoBulkAll parts + 1
  | .iface _ d => uptoBulk d + 1
  | .map entries => uptoBulkEntries entries + 1
  | .held _ => 1
def uptoBulkAll {H : Type} : List (DataW H) → Nat
  | [] => 0
  | d :: r => uptoBulk d + uptoBulkAll r
def uptoBulkEntries {H : Type} : List (Lit × DataW H) → Nat
  | [] => 0
  | x :: r => uptoBulkEntry x + uptoBulkEntries r
def uptoBulkEntry {H : Type} : Lit × DataW H → Nat
  | (.string bytes, d) => bytes.length + uptoBulk d + 1
  | (_, d) => uptoBulk d + 1
 end
def uptoSmall : (H : Type) → List (DataW H) → Bool := fun _ ds => decide (uptoBulkAll ds ≤ 1048576)
def OpenSpec.upto (s : _root_.Go.ChangeSpec) : _root_.Go.OpenSpec := { _root_.Go.OpenSpec.ofChange s with cond := some uptoSmall }

/-- 'paviorlaw18.MoveKeeps', WHERE WHAT IT READS IS OF BULK AT MOST 1048576: true; the input reads as it did. -/
def moveKeepsUptoRow : OpenClaim := { program := "ythcdecgecabgaaa", sum := "68e6f93124c16eae19482ce7bc9bdff716314d73d263e5e9025a3d1bd4d4e956", func := "pavior/paviorlaw18.MoveKeeps", spec := "moveKeeps", inPlace := ["internal/reflectlite.TypeOf"], unfollowed := true, recurses := true, plainKeys := false, apart := false, narrowed := true }
def MoveKeepsUptoSaid : Prop := moveKeepsUptoRow.holds Try.pinned (OpenSpec.upto moveKeepsSpec)

/-- 'paviorlaw18.MoveSteps', WHERE WHAT IT READS IS OF BULK AT MOST 1048576: true; the input reads as it did. -/
def moveStepsUptoRow : OpenClaim := { program := "ythcdecgecabgaaa", sum := "68e6f93124c16eae19482ce7bc9bdff716314d73d263e5e9025a3d1bd4d4e956", func := "pavior/paviorlaw18.MoveSteps", spec := "moveSteps", inPlace := ["internal/reflectlite.TypeOf"], unfollowed := true, recurses := true, plainKeys := false, apart := false, narrowed := true }
def MoveStepsUptoSaid : Prop := moveStepsUptoRow.holds Try.pinned (OpenSpec.upto moveStepsSpec)

/-- 'paviorlaw14.MachineNew', WHERE WHAT IT READS IS OF BULK AT MOST 1048576: true; the input reads as it did. -/
def machineNewUptoRow : OpenClaim := { program := "ythcdecgecabgaaa", sum := "68e6f93124c16eae19482ce7bc9bdff716314d73d263e5e9025a3d1bd4d4e956", func := "pavior/paviorlaw14.MachineNew", spec := "machineNew", unfollowed := true, recurses := true, plainKeys := false, apart := false, narrowed := true }
def MachineNewUptoSaid : Prop := machineNewUptoRow.holds Try.pinned (OpenSpec.upto machineNewSpec)

/-- 'paviorlaw11.RmapMoves', WHERE WHAT IT READS IS OF BULK AT MOST 1048576: true; the input reads as it did. -/
def rmapMovesUptoRow : OpenClaim := { program := "ythcdecgecabgaaa", sum := "68e6f93124c16eae19482ce7bc9bdff716314d73d263e5e9025a3d1bd4d4e956", func := "pavior/paviorlaw11.RmapMoves", spec := "rmapMoves", unfollowed := true, recurses := true, plainKeys := false, apart := false, narrowed := true }
def RmapMovesUptoSaid : Prop := rmapMovesUptoRow.holds Try.pinned (OpenSpec.upto rmapMovesSpec)

/-- 'paviorlaw11.RmapStays', WHERE WHAT IT READS IS OF BULK AT MOST 1048576: true; the input reads as it did. -/
def rmapStaysUptoRow : OpenClaim := { program := "ythcdecgecabgaaa", sum := "68e6f93124c16eae19482ce7bc9bdff716314d73d263e5e9025a3d1bd4d4e956", func := "pavior/paviorlaw11.RmapStays", spec := "rmapStays", inPlace := ["maps.clone"], unfollowed := true, recurses := true, plainKeys := false, apart := false, narrowed := true }
def RmapStaysUptoSaid : Prop := rmapStaysUptoRow.holds Try.pinned (OpenSpec.upto rmapStaysSpec)

/-- 'paviorlaw11.RmapPlays', WHERE WHAT IT READS IS OF BULK AT MOST 1048576: true; the input reads as it did. -/
def rmapPlaysUptoRow : OpenClaim := { program := "ythcdecgecabgaaa", sum := "68e6f93124c16eae19482ce7bc9bdff716314d73d263e5e9025a3d1bd4d4e956", func := "pavior/paviorlaw11.RmapPlays", spec := "rmapPlays", unfollowed := true, recurses := true, plainKeys := false, apart := false, narrowed := true }
def RmapPlaysUptoSaid : Prop := rmapPlaysUptoRow.holds Try.pinned (OpenSpec.upto rmapPlaysSpec)

/-- 'paviorlaw11.RmapOnce', WHERE WHAT IT READS IS OF BULK AT MOST 1048576: true; the input reads as it did. -/
def rmapOnceUptoRow : OpenClaim := { program := "ythcdecgecabgaaa", sum := "68e6f93124c16eae19482ce7bc9bdff716314d73d263e5e9025a3d1bd4d4e956", func := "pavior/paviorlaw11.RmapOnce", spec := "rmapOnce", unfollowed := true, recurses := true, plainKeys := false, apart := false, narrowed := true }
def RmapOnceUptoSaid : Prop := rmapOnceUptoRow.holds Try.pinned (OpenSpec.upto rmapOnceSpec)

/-- 'paviorlaw14.MachineTells', WHERE WHAT IT READS IS OF BULK AT MOST 1048576: true; the input reads as it did. -/
def machineTellsUptoRow : OpenClaim := { program := "ythcdecgecabgaaa", sum := "68e6f93124c16eae19482ce7bc9bdff716314d73d263e5e9025a3d1bd4d4e956", func := "pavior/paviorlaw14.MachineTells", spec := "machineTells", unfollowed := true, recurses := true, plainKeys := false, apart := false, narrowed := true }
def MachineTellsUptoSaid : Prop := machineTellsUptoRow.holds Try.pinned (OpenSpec.upto machineTellsSpec)

/-- 'paviorlaw14.MachineStays', WHERE WHAT IT READS IS OF BULK AT MOST 1048576: true; the input reads as it did. -/
def machineStaysUptoRow : OpenClaim := { program := "ythcdecgecabgaaa", sum := "68e6f93124c16eae19482ce7bc9bdff716314d73d263e5e9025a3d1bd4d4e956", func := "pavior/paviorlaw14.MachineStays", spec := "machineStays", unfollowed := true, recurses := true, plainKeys := false, apart := false, narrowed := true }
def MachineStaysUptoSaid : Prop := machineStaysUptoRow.holds Try.pinned (OpenSpec.upto machineStaysSpec)

/-- 'paviorlaw14.MachineFills', WHERE WHAT IT READS IS OF BULK AT MOST 1048576: true; the input reads as it did. -/
def machineFillsUptoRow : OpenClaim := { program := "ythcdecgecabgaaa", sum := "68e6f93124c16eae19482ce7bc9bdff716314d73d263e5e9025a3d1bd4d4e956", func := "pavior/paviorlaw14.MachineFills", spec := "machineFills", unfollowed := true, recurses := true, plainKeys := false, apart := false, narrowed := true }
def MachineFillsUptoSaid : Prop := machineFillsUptoRow.holds Try.pinned (OpenSpec.upto machineFillsSpec)

end Rows
end Go.Proofs.Ythcdecgecabgaaa
