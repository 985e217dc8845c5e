/-
  No cell of these rows narrows 'for every input' (looked for: loops, veiled, ifaces, maps, wideKeys, modest, calm, conditions, laid).
  DERIVED. THE GIVEN ROWS OF THIS SEAT. 12 by the template 'for every input the law returns true; each argument reads behind the call as it read before'; 0 by the template 'total and deterministic' (their statements: YtmpgkgnbhjnelaaTotals.lean).
  GIVEN WITH THE SEED: the statements are not yours to turn. If you find one false, say at which input.
  Laid BY PROGRAM, IN A SANDBOX (cutbox-rows.mjs): the forced cells as the released guide's own fill.sh prints them over the translation 9634c87843b11231… (all of the seat's roots in one cut). By AI agents, Wed Nov 11 2026. No macro, syntax, notation, axiom, sorry.
-/
import Derived.Test.YtmpgkgnbhjnelaaChecked
import GoSem.Claim
import GoSem.ClaimJoined
import GoSem.ClaimMapViews
import Derived.JoinedTies
import Derived.KernelRfl
namespace Go.Proofs.Ytmpgkgnbhjnelaa
/- THE CELL 'sum', in the pinned program and in every row, IS THE sha256 OF THE DUMP (.gsa) THAT YtmpgkgnbhjnelaaProg.lean LOADS. Nothing in Lean hashes anything: it is a label: what it is worth is what the hold of that sum in a sandbox is worth. -/
noncomputable def Try.pinned : Pinned := { name := "ytmpgkgnbhjnelaa", sum := "9634c87843b11231c06482e03a96c05905c9dcf5db481f1853707d725c053498", checked := Try.checked }
namespace Rows
def none {H : Type} : Left H := { results := [], args := [] }

/-- 'paviorlaw03.PhysNew': WHATEVER THE INPUT: true; the input reads as it did. -/
def physNewSpec : ChangeSpec := { name := "physNew", fn := fun _ => fun
  | [d] => { results := [.lit (.bool true)], args := [d] }
  | _ => none }
def physNewRow : OpenClaim := { program := "ytmpgkgnbhjnelaa", sum := "9634c87843b11231c06482e03a96c05905c9dcf5db481f1853707d725c053498", func := "pavior/paviorlaw03.PhysNew", spec := "physNew", apart := false }
def PhysNewSaid : Prop := physNewRow.holds Try.pinned (OpenSpec.ofChange physNewSpec)

/-- ITS FALSE NEIGHBOUR: 'it returns false'. Refute it at one input. -/
def physNewWrong : ChangeSpec := { name := "physNew", fn := fun _ => fun
  | [d] => { results := [.lit (.bool false)], args := [d] }
  | _ => none }
def PhysNewWrongFalsely : Prop := physNewRow.holds Try.pinned (OpenSpec.ofChange physNewWrong)

/-- 'paviorlaw03.PhysPlays': WHATEVER THE INPUT: true; the input reads as it did. -/
def physPlaysSpec : ChangeSpec := { name := "physPlays", fn := fun _ => fun
  | [d1, d2] => { results := [.lit (.bool true)], args := [d1, d2] }
  | _ => none }
def physPlaysRow : OpenClaim := { program := "ytmpgkgnbhjnelaa", sum := "9634c87843b11231c06482e03a96c05905c9dcf5db481f1853707d725c053498", func := "pavior/paviorlaw03.PhysPlays", spec := "physPlays", apart := false }
def PhysPlaysSaid : Prop := physPlaysRow.holds Try.pinned (OpenSpec.ofChange physPlaysSpec)

/-- ITS FALSE NEIGHBOUR: 'it returns false'. Refute it at one input. -/
def physPlaysWrong : ChangeSpec := { name := "physPlays", fn := fun _ => fun
  | [d1, d2] => { results := [.lit (.bool false)], args := [d1, d2] }
  | _ => none }
def PhysPlaysWrongFalsely : Prop := physPlaysRow.holds Try.pinned (OpenSpec.ofChange physPlaysWrong)

/-- 'paviorlaw03.PhysApart': WHATEVER THE INPUT: true; the input reads as it did. -/
def physApartSpec : ChangeSpec := { name := "physApart", fn := fun _ => fun
  | [d1, d2] => { results := [.lit (.bool true)], args := [d1, d2] }
  | _ => none }
def physApartRow : OpenClaim := { program := "ytmpgkgnbhjnelaa", sum := "9634c87843b11231c06482e03a96c05905c9dcf5db481f1853707d725c053498", func := "pavior/paviorlaw03.PhysApart", spec := "physApart", apart := false }
def PhysApartSaid : Prop := physApartRow.holds Try.pinned (OpenSpec.ofChange physApartSpec)

/-- ITS FALSE NEIGHBOUR: 'it returns false'. Refute it at one input. -/
def physApartWrong : ChangeSpec := { name := "physApart", fn := fun _ => fun
  | [d1, d2] => { results := [.lit (.bool false)], args := [d1, d2] }
  | _ => none }
def PhysApartWrongFalsely : Prop := physApartRow.holds Try.pinned (OpenSpec.ofChange physApartWrong)

/-- 'paviorlaw03.PhysCopies': WHATEVER THE INPUT: true; the input reads as it did. -/
def physCopiesSpec : ChangeSpec := { name := "physCopies", fn := fun _ => fun
  | [d1, d2, d3, d4, d5] => { results := [.lit (.bool true)], args := [d1, d2, d3, d4, d5] }
  | _ => none }
def physCopiesRow : OpenClaim := { program := "ytmpgkgnbhjnelaa", sum := "9634c87843b11231c06482e03a96c05905c9dcf5db481f1853707d725c053498", func := "pavior/paviorlaw03.PhysCopies", spec := "physCopies", apart := false }
def PhysCopiesSaid : Prop := physCopiesRow.holds Try.pinned (OpenSpec.ofChange physCopiesSpec)

/-- ITS FALSE NEIGHBOUR: 'it returns false'. Refute it at one input. -/
def physCopiesWrong : ChangeSpec := { name := "physCopies", fn := fun _ => fun
  | [d1, d2, d3, d4, d5] => { results := [.lit (.bool false)], args := [d1, d2, d3, d4, d5] }
  | _ => none }
def PhysCopiesWrongFalsely : Prop := physCopiesRow.holds Try.pinned (OpenSpec.ofChange physCopiesWrong)

/-- 'paviorlaw04.WalkPlaces': WHATEVER THE INPUT: true; the input reads as it did. -/
def walkPlacesSpec : ChangeSpec := { name := "walkPlaces", fn := fun _ => fun
  | [d1, d2] => { results := [.lit (.bool true)], args := [d1, d2] }
  | _ => none }
def walkPlacesRow : OpenClaim := { program := "ytmpgkgnbhjnelaa", sum := "9634c87843b11231c06482e03a96c05905c9dcf5db481f1853707d725c053498", func := "pavior/paviorlaw04.WalkPlaces", spec := "walkPlaces", apart := false }
def WalkPlacesSaid : Prop := walkPlacesRow.holds Try.pinned (OpenSpec.ofChange walkPlacesSpec)

/-- ITS FALSE NEIGHBOUR: 'it returns false'. Refute it at one input. -/
def walkPlacesWrong : ChangeSpec := { name := "walkPlaces", fn := fun _ => fun
  | [d1, d2] => { results := [.lit (.bool false)], args := [d1, d2] }
  | _ => none }
def WalkPlacesWrongFalsely : Prop := walkPlacesRow.holds Try.pinned (OpenSpec.ofChange walkPlacesWrong)

/-- 'paviorlaw12.TreeNeeds': WHATEVER THE INPUT: true; the input reads as it did. -/
def treeNeedsSpec : ChangeSpec := { name := "treeNeeds", fn := fun _ => fun
  | [d1, d2, d3, d4, d5] => { results := [.lit (.bool true)], args := [d1, d2, d3, d4, d5] }
  | _ => none }
def treeNeedsRow : OpenClaim := { program := "ytmpgkgnbhjnelaa", sum := "9634c87843b11231c06482e03a96c05905c9dcf5db481f1853707d725c053498", func := "pavior/paviorlaw12.TreeNeeds", spec := "treeNeeds", apart := false }
def TreeNeedsSaid : Prop := treeNeedsRow.holds Try.pinned (OpenSpec.ofChange treeNeedsSpec)

/-- ITS FALSE NEIGHBOUR: 'it returns false'. Refute it at one input. -/
def treeNeedsWrong : ChangeSpec := { name := "treeNeeds", fn := fun _ => fun
  | [d1, d2, d3, d4, d5] => { results := [.lit (.bool false)], args := [d1, d2, d3, d4, d5] }
  | _ => none }
def TreeNeedsWrongFalsely : Prop := treeNeedsRow.holds Try.pinned (OpenSpec.ofChange treeNeedsWrong)

/-- 'paviorlaw04.WalkFinds': WHATEVER THE INPUT: true; the input reads as it did. -/
def walkFindsSpec : ChangeSpec := { name := "walkFinds", fn := fun _ => fun
  | [d1, d2, d3, d4] => { results := [.lit (.bool true)], args := [d1, d2, d3, d4] }
  | _ => none }
def walkFindsRow : OpenClaim := { program := "ytmpgkgnbhjnelaa", sum := "9634c87843b11231c06482e03a96c05905c9dcf5db481f1853707d725c053498", func := "pavior/paviorlaw04.WalkFinds", spec := "walkFinds", recurses := true, apart := false }
def WalkFindsSaid : Prop := walkFindsRow.holds Try.pinned (OpenSpec.ofChange walkFindsSpec)

/-- ITS FALSE NEIGHBOUR: 'it returns false'. Refute it at one input. -/
def walkFindsWrong : ChangeSpec := { name := "walkFinds", fn := fun _ => fun
  | [d1, d2, d3, d4] => { results := [.lit (.bool false)], args := [d1, d2, d3, d4] }
  | _ => none }
def WalkFindsWrongFalsely : Prop := walkFindsRow.holds Try.pinned (OpenSpec.ofChange walkFindsWrong)

/-- 'paviorlaw04.WalkHangs': WHATEVER THE INPUT: true; the input reads as it did. -/
def walkHangsSpec : ChangeSpec := { name := "walkHangs", fn := fun _ => fun
  | [d1, d2, d3, d4, d5, d6] => { results := [.lit (.bool true)], args := [d1, d2, d3, d4, d5, d6] }
  | _ => none }
def walkHangsRow : OpenClaim := { program := "ytmpgkgnbhjnelaa", sum := "9634c87843b11231c06482e03a96c05905c9dcf5db481f1853707d725c053498", func := "pavior/paviorlaw04.WalkHangs", spec := "walkHangs", apart := false }
def WalkHangsSaid : Prop := walkHangsRow.holds Try.pinned (OpenSpec.ofChange walkHangsSpec)

/-- ITS FALSE NEIGHBOUR: 'it returns false'. Refute it at one input. -/
def walkHangsWrong : ChangeSpec := { name := "walkHangs", fn := fun _ => fun
  | [d1, d2, d3, d4, d5, d6] => { results := [.lit (.bool false)], args := [d1, d2, d3, d4, d5, d6] }
  | _ => none }
def WalkHangsWrongFalsely : Prop := walkHangsRow.holds Try.pinned (OpenSpec.ofChange walkHangsWrong)

/-- 'paviorlaw04.WalkLeads': WHATEVER THE INPUT: true; the input reads as it did. -/
def walkLeadsSpec : ChangeSpec := { name := "walkLeads", fn := fun _ => fun
  | [d1, d2, d3] => { results := [.lit (.bool true)], args := [d1, d2, d3] }
  | _ => none }
def walkLeadsRow : OpenClaim := { program := "ytmpgkgnbhjnelaa", sum := "9634c87843b11231c06482e03a96c05905c9dcf5db481f1853707d725c053498", func := "pavior/paviorlaw04.WalkLeads", spec := "walkLeads", apart := false }
def WalkLeadsSaid : Prop := walkLeadsRow.holds Try.pinned (OpenSpec.ofChange walkLeadsSpec)

/-- ITS FALSE NEIGHBOUR: 'it returns false'. Refute it at one input. -/
def walkLeadsWrong : ChangeSpec := { name := "walkLeads", fn := fun _ => fun
  | [d1, d2, d3] => { results := [.lit (.bool false)], args := [d1, d2, d3] }
  | _ => none }
def WalkLeadsWrongFalsely : Prop := walkLeadsRow.holds Try.pinned (OpenSpec.ofChange walkLeadsWrong)

/-- 'paviorlaw04.WalkWhole': WHATEVER THE INPUT: true; the input reads as it did. -/
def walkWholeSpec : ChangeSpec := { name := "walkWhole", fn := fun _ => fun
  | [d1, d2, d3] => { results := [.lit (.bool true)], args := [d1, d2, d3] }
  | _ => none }
def walkWholeRow : OpenClaim := { program := "ytmpgkgnbhjnelaa", sum := "9634c87843b11231c06482e03a96c05905c9dcf5db481f1853707d725c053498", func := "pavior/paviorlaw04.WalkWhole", spec := "walkWhole", recurses := true, apart := false }
def WalkWholeSaid : Prop := walkWholeRow.holds Try.pinned (OpenSpec.ofChange walkWholeSpec)

/-- ITS FALSE NEIGHBOUR: 'it returns false'. Refute it at one input. -/
def walkWholeWrong : ChangeSpec := { name := "walkWhole", fn := fun _ => fun
  | [d1, d2, d3] => { results := [.lit (.bool false)], args := [d1, d2, d3] }
  | _ => none }
def WalkWholeWrongFalsely : Prop := walkWholeRow.holds Try.pinned (OpenSpec.ofChange walkWholeWrong)

/-- 'paviorlaw12.TreeTables': WHATEVER THE INPUT: true; the input reads as it did. -/
def treeTablesSpec : ChangeSpec := { name := "treeTables", fn := fun _ => fun
  | [d1, d2, d3] => { results := [.lit (.bool true)], args := [d1, d2, d3] }
  | _ => none }
def treeTablesRow : OpenClaim := { program := "ytmpgkgnbhjnelaa", sum := "9634c87843b11231c06482e03a96c05905c9dcf5db481f1853707d725c053498", func := "pavior/paviorlaw12.TreeTables", spec := "treeTables", recurses := true, apart := false }
def TreeTablesSaid : Prop := treeTablesRow.holds Try.pinned (OpenSpec.ofChange treeTablesSpec)

/-- ITS FALSE NEIGHBOUR: 'it returns false'. Refute it at one input. -/
def treeTablesWrong : ChangeSpec := { name := "treeTables", fn := fun _ => fun
  | [d1, d2, d3] => { results := [.lit (.bool false)], args := [d1, d2, d3] }
  | _ => none }
def TreeTablesWrongFalsely : Prop := treeTablesRow.holds Try.pinned (OpenSpec.ofChange treeTablesWrong)

/-- 'paviorlaw04.WalkStays': WHATEVER THE INPUT: true; the input reads as it did. -/
def walkStaysSpec : ChangeSpec := { name := "walkStays", fn := fun _ => fun
  | [d1, d2, d3, d4] => { results := [.lit (.bool true)], args := [d1, d2, d3, d4] }
  | _ => none }
def walkStaysRow : OpenClaim := { program := "ytmpgkgnbhjnelaa", sum := "9634c87843b11231c06482e03a96c05905c9dcf5db481f1853707d725c053498", func := "pavior/paviorlaw04.WalkStays", spec := "walkStays", apart := false }
def WalkStaysSaid : Prop := walkStaysRow.holds Try.pinned (OpenSpec.ofChange walkStaysSpec)

/-- ITS FALSE NEIGHBOUR: 'it returns false'. Refute it at one input. -/
def walkStaysWrong : ChangeSpec := { name := "walkStays", fn := fun _ => fun
  | [d1, d2, d3, d4] => { results := [.lit (.bool false)], args := [d1, d2, d3, d4] }
  | _ => none }
def WalkStaysWrongFalsely : Prop := walkStaysRow.holds Try.pinned (OpenSpec.ofChange walkStaysWrong)

/- THE SECOND FORM. 'bulk': how many values and letters a reading holds, each counted each time it is reached (what is shared counts as often as it is met; a slice's spare places count too). A statement '..UptoSaid' is the law's where the arguments, and the package variables that the reading takes, are together of bulk at most 1048576: NARROWER than '..Said'. Prove '..Said' where nothing that the law and all that it calls make is longer than what came in: it says more and counts as full. Else prove '..UptoSaid'. A law counts once. -/
mutual
def uptoBulk {H : Type} : DataW H → Nat
  | .lit (.string bytes) => bytes.length + 1
  | .lit _ => 1
  | .nil => 1
  | .ptr d => uptoBulk d + 1
  | .slice elems spare => uptoBulkAll elems + uptoBulkAll spare + 1
  | .agg parts => uptoBulkAll parts + 1
  | .iface _ d => uptoBulk d + 1
  | .map entries => uptoBulkEntries entries + 1
  | .held _ => 1
def uptoBulkAll {H : Type} : List (DataW H) → Nat
  | [] => 0
  | d :: r => uptoBulk d + uptoBulkAll r
def uptoBulkEntries {H : Type} : List (Lit × DataW H) → Nat
  | [] => 0
  | x :: r => uptoBulkEntry x + uptoBulkEntries r
def uptoBulkEntry {H : Type} : Lit × DataW H → Nat
  | (.string bytes, d) => bytes.length + uptoBulk d + 1
  | (_, d) => uptoBulk d + 1
 end
def uptoSmall : (H : Type) → List (DataW H) → Bool := fun _ ds => decide (uptoBulkAll ds ≤ 1048576)
def OpenSpec.upto (s : _root_.Go.ChangeSpec) : _root_.Go.OpenSpec := { _root_.Go.OpenSpec.ofChange s with cond := some uptoSmall }

/-- 'paviorlaw03.PhysNew', WHERE WHAT IT READS IS OF BULK AT MOST 1048576: true; the input reads as it did. -/
def physNewUptoRow : OpenClaim := { program := "ytmpgkgnbhjnelaa", sum := "9634c87843b11231c06482e03a96c05905c9dcf5db481f1853707d725c053498", func := "pavior/paviorlaw03.PhysNew", spec := "physNew", apart := false, narrowed := true }
def PhysNewUptoSaid : Prop := physNewUptoRow.holds Try.pinned (OpenSpec.upto physNewSpec)

/-- 'paviorlaw03.PhysPlays', WHERE WHAT IT READS IS OF BULK AT MOST 1048576: true; the input reads as it did. -/
def physPlaysUptoRow : OpenClaim := { program := "ytmpgkgnbhjnelaa", sum := "9634c87843b11231c06482e03a96c05905c9dcf5db481f1853707d725c053498", func := "pavior/paviorlaw03.PhysPlays", spec := "physPlays", apart := false, narrowed := true }
def PhysPlaysUptoSaid : Prop := physPlaysUptoRow.holds Try.pinned (OpenSpec.upto physPlaysSpec)

/-- 'paviorlaw03.PhysApart', WHERE WHAT IT READS IS OF BULK AT MOST 1048576: true; the input reads as it did. -/
def physApartUptoRow : OpenClaim := { program := "ytmpgkgnbhjnelaa", sum := "9634c87843b11231c06482e03a96c05905c9dcf5db481f1853707d725c053498", func := "pavior/paviorlaw03.PhysApart", spec := "physApart", apart := false, narrowed := true }
def PhysApartUptoSaid : Prop := physApartUptoRow.holds Try.pinned (OpenSpec.upto physApartSpec)

/-- 'paviorlaw03.PhysCopies', WHERE WHAT IT READS IS OF BULK AT MOST 1048576: true; the input reads as it did. -/
def physCopiesUptoRow : OpenClaim := { program := "ytmpgkgnbhjnelaa", sum := "9634c87843b11231c06482e03a96c05905c9dcf5db481f1853707d725c053498", func := "pavior/paviorlaw03.PhysCopies", spec := "physCopies", apart := false, narrowed := true }
def PhysCopiesUptoSaid : Prop := physCopiesUptoRow.holds Try.pinned (OpenSpec.upto physCopiesSpec)

/-- 'paviorlaw04.WalkPlaces', WHERE WHAT IT READS IS OF BULK AT MOST 1048576: true; the input reads as it did. -/
def walkPlacesUptoRow : OpenClaim := { program := "ytmpgkgnbhjnelaa", sum := "9634c87843b11231c06482e03a96c05905c9dcf5db481f1853707d725c053498", func := "pavior/paviorlaw04.WalkPlaces", spec := "walkPlaces", apart := false, narrowed := true }
def WalkPlacesUptoSaid : Prop := walkPlacesUptoRow.holds Try.pinned (OpenSpec.upto walkPlacesSpec)

/-- 'paviorlaw12.TreeNeeds', WHERE WHAT IT READS IS OF BULK AT MOST 1048576: true; the input reads as it did. -/
def treeNeedsUptoRow : OpenClaim := { program := "ytmpgkgnbhjnelaa", sum := "9634c87843b11231c06482e03a96c05905c9dcf5db481f1853707d725c053498", func := "pavior/paviorlaw12.TreeNeeds", spec := "treeNeeds", apart := false, narrowed := true }
def TreeNeedsUptoSaid : Prop := treeNeedsUptoRow.holds Try.pinned (OpenSpec.upto treeNeedsSpec)

/-- 'paviorlaw04.WalkFinds', WHERE WHAT IT READS IS OF BULK AT MOST 1048576: true; the input reads as it did. -/
def walkFindsUptoRow : OpenClaim := { program := "ytmpgkgnbhjnelaa", sum := "9634c87843b11231c06482e03a96c05905c9dcf5db481f1853707d725c053498", func := "pavior/paviorlaw04.WalkFinds", spec := "walkFinds", recurses := true, apart := false, narrowed := true }
def WalkFindsUptoSaid : Prop := walkFindsUptoRow.holds Try.pinned (OpenSpec.upto walkFindsSpec)

/-- 'paviorlaw04.WalkHangs', WHERE WHAT IT READS IS OF BULK AT MOST 1048576: true; the input reads as it did. -/
def walkHangsUptoRow : OpenClaim := { program := "ytmpgkgnbhjnelaa", sum := "9634c87843b11231c06482e03a96c05905c9dcf5db481f1853707d725c053498", func := "pavior/paviorlaw04.WalkHangs", spec := "walkHangs", apart := false, narrowed := true }
def WalkHangsUptoSaid : Prop := walkHangsUptoRow.holds Try.pinned (OpenSpec.upto walkHangsSpec)

/-- 'paviorlaw04.WalkLeads', WHERE WHAT IT READS IS OF BULK AT MOST 1048576: true; the input reads as it did. -/
def walkLeadsUptoRow : OpenClaim := { program := "ytmpgkgnbhjnelaa", sum := "9634c87843b11231c06482e03a96c05905c9dcf5db481f1853707d725c053498", func := "pavior/paviorlaw04.WalkLeads", spec := "walkLeads", apart := false, narrowed := true }
def WalkLeadsUptoSaid : Prop := walkLeadsUptoRow.holds Try.pinned (OpenSpec.upto walkLeadsSpec)

/-- 'paviorlaw04.WalkWhole', WHERE WHAT IT READS IS OF BULK AT MOST 1048576: true; the input reads as it did. -/
def walkWholeUptoRow : OpenClaim := { program := "ytmpgkgnbhjnelaa", sum := "9634c87843b11231c06482e03a96c05905c9dcf5db481f1853707d725c053498", func := "pavior/paviorlaw04.WalkWhole", spec := "walkWhole", recurses := true, apart := false, narrowed := true }
def WalkWholeUptoSaid : Prop := walkWholeUptoRow.holds Try.pinned (OpenSpec.upto walkWholeSpec)

/-- 'paviorlaw12.TreeTables', WHERE WHAT IT READS IS OF BULK AT MOST 1048576: true; the input reads as it did. -/
def treeTablesUptoRow : OpenClaim := { program := "ytmpgkgnbhjnelaa", sum := "9634c87843b11231c06482e03a96c05905c9dcf5db481f1853707d725c053498", func := "pavior/paviorlaw12.TreeTables", spec := "treeTables", recurses := true, apart := false, narrowed := true }
def TreeTablesUptoSaid : Prop := treeTablesUptoRow.holds Try.pinned (OpenSpec.upto treeTablesSpec)

/-- 'paviorlaw04.WalkStays', WHERE WHAT IT READS IS OF BULK AT MOST 1048576: true; the input reads as it did. -/
def walkStaysUptoRow : OpenClaim := { program := "ytmpgkgnbhjnelaa", sum := "9634c87843b11231c06482e03a96c05905c9dcf5db481f1853707d725c053498", func := "pavior/paviorlaw04.WalkStays", spec := "walkStays", apart := false, narrowed := true }
def WalkStaysUptoSaid : Prop := walkStaysUptoRow.holds Try.pinned (OpenSpec.upto walkStaysSpec)

end Rows
end Go.Proofs.Ytmpgkgnbhjnelaa
