/-
  No cell of these rows narrows 'for every input' (looked for: loops, veiled, ifaces, maps, wideKeys, modest, calm, conditions, laid).
  DERIVED. THE GIVEN ROWS OF THIS SEAT. 6 by the template 'for every input the law returns true; each argument reads behind the call as it read before'; 0 by the template 'total and deterministic' (their statements: YthdiofbmibgbdaaTotals.lean).
  GIVEN WITH THE SEED: the statements are not yours to turn. If you find one false, say at which input.
  Laid BY PROGRAM, IN A SANDBOX (cutbox-rows.mjs): the forced cells as the released guide's own fill.sh prints them over the translation 16aef06695642775… (all of the seat's roots in one cut). By AI agents, Wed Nov 11 2026. No macro, syntax, notation, axiom, sorry.
-/
import Derived.Test.YthdiofbmibgbdaaChecked
import GoSem.Claim
import GoSem.ClaimJoined
import GoSem.ClaimMapViews
import Derived.JoinedTies
import Derived.KernelRfl
namespace Go.Proofs.Ythdiofbmibgbdaa
/- THE CELL 'sum', in the pinned program and in every row, IS THE sha256 OF THE DUMP (.gsa) THAT YthdiofbmibgbdaaProg.lean LOADS. Nothing in Lean hashes anything: it is a label: what it is worth is what the hold of that sum in a sandbox is worth. -/
noncomputable def Try.pinned : Pinned := { name := "ythdiofbmibgbdaa", sum := "16aef066956427756d371f730d8b6c640fc3249c74d83d3feebb1137c43bdb69", checked := Try.checked }
namespace Rows
def none {H : Type} : Left H := { results := [], args := [] }

/-- 'hibernaclelaw05.FieldMuls': WHATEVER THE INPUT: true; the input reads as it did. -/
def fieldMulsSpec : ChangeSpec := { name := "fieldMuls", fn := fun _ => fun
  | [d1, d2] => { results := [.lit (.bool true)], args := [d1, d2] }
  | _ => none }
def fieldMulsRow : OpenClaim := { program := "ythdiofbmibgbdaa", sum := "16aef066956427756d371f730d8b6c640fc3249c74d83d3feebb1137c43bdb69", func := "hibernacle/hibernaclelaw05.FieldMuls", spec := "fieldMuls", apart := false }
def FieldMulsSaid : Prop := fieldMulsRow.holds Try.pinned (OpenSpec.ofChange fieldMulsSpec)

/-- ITS FALSE NEIGHBOUR: 'it returns false'. Refute it at one input. -/
def fieldMulsWrong : ChangeSpec := { name := "fieldMuls", fn := fun _ => fun
  | [d1, d2] => { results := [.lit (.bool false)], args := [d1, d2] }
  | _ => none }
def FieldMulsWrongFalsely : Prop := fieldMulsRow.holds Try.pinned (OpenSpec.ofChange fieldMulsWrong)

/-- 'hibernaclelaw05.FieldLaws': WHATEVER THE INPUT: true; the input reads as it did. -/
def fieldLawsSpec : ChangeSpec := { name := "fieldLaws", fn := fun _ => fun
  | [d1, d2, d3] => { results := [.lit (.bool true)], args := [d1, d2, d3] }
  | _ => none }
def fieldLawsRow : OpenClaim := { program := "ythdiofbmibgbdaa", sum := "16aef066956427756d371f730d8b6c640fc3249c74d83d3feebb1137c43bdb69", func := "hibernacle/hibernaclelaw05.FieldLaws", spec := "fieldLaws", apart := false }
def FieldLawsSaid : Prop := fieldLawsRow.holds Try.pinned (OpenSpec.ofChange fieldLawsSpec)

/-- ITS FALSE NEIGHBOUR: 'it returns false'. Refute it at one input. -/
def fieldLawsWrong : ChangeSpec := { name := "fieldLaws", fn := fun _ => fun
  | [d1, d2, d3] => { results := [.lit (.bool false)], args := [d1, d2, d3] }
  | _ => none }
def FieldLawsWrongFalsely : Prop := fieldLawsRow.holds Try.pinned (OpenSpec.ofChange fieldLawsWrong)

/-- 'hibernaclelaw05.FieldEvals': WHATEVER THE INPUT: true; the input reads as it did. -/
def fieldEvalsSpec : ChangeSpec := { name := "fieldEvals", fn := fun _ => fun
  | [d1, d2, d3] => { results := [.lit (.bool true)], args := [d1, d2, d3] }
  | _ => none }
def fieldEvalsRow : OpenClaim := { program := "ythdiofbmibgbdaa", sum := "16aef066956427756d371f730d8b6c640fc3249c74d83d3feebb1137c43bdb69", func := "hibernacle/hibernaclelaw05.FieldEvals", spec := "fieldEvals", apart := false }
def FieldEvalsSaid : Prop := fieldEvalsRow.holds Try.pinned (OpenSpec.ofChange fieldEvalsSpec)

/-- ITS FALSE NEIGHBOUR: 'it returns false'. Refute it at one input. -/
def fieldEvalsWrong : ChangeSpec := { name := "fieldEvals", fn := fun _ => fun
  | [d1, d2, d3] => { results := [.lit (.bool false)], args := [d1, d2, d3] }
  | _ => none }
def FieldEvalsWrongFalsely : Prop := fieldEvalsRow.holds Try.pinned (OpenSpec.ofChange fieldEvalsWrong)

/-- 'hibernaclelaw05.FieldThrough': WHATEVER THE INPUT: true; the input reads as it did. -/
def fieldThroughSpec : ChangeSpec := { name := "fieldThrough", fn := fun _ => fun
  | [d1, d2, d3] => { results := [.lit (.bool true)], args := [d1, d2, d3] }
  | _ => none }
def fieldThroughRow : OpenClaim := { program := "ythdiofbmibgbdaa", sum := "16aef066956427756d371f730d8b6c640fc3249c74d83d3feebb1137c43bdb69", func := "hibernacle/hibernaclelaw05.FieldThrough", spec := "fieldThrough", apart := false }
def FieldThroughSaid : Prop := fieldThroughRow.holds Try.pinned (OpenSpec.ofChange fieldThroughSpec)

/-- ITS FALSE NEIGHBOUR: 'it returns false'. Refute it at one input. -/
def fieldThroughWrong : ChangeSpec := { name := "fieldThrough", fn := fun _ => fun
  | [d1, d2, d3] => { results := [.lit (.bool false)], args := [d1, d2, d3] }
  | _ => none }
def FieldThroughWrongFalsely : Prop := fieldThroughRow.holds Try.pinned (OpenSpec.ofChange fieldThroughWrong)

/-- 'hibernaclelaw05.FieldFree': WHATEVER THE INPUT: true; the input reads as it did. -/
def fieldFreeSpec : ChangeSpec := { name := "fieldFree", fn := fun _ => fun
  | [d1, d2, d3] => { results := [.lit (.bool true)], args := [d1, d2, d3] }
  | _ => none }
def fieldFreeRow : OpenClaim := { program := "ythdiofbmibgbdaa", sum := "16aef066956427756d371f730d8b6c640fc3249c74d83d3feebb1137c43bdb69", func := "hibernacle/hibernaclelaw05.FieldFree", spec := "fieldFree", apart := false }
def FieldFreeSaid : Prop := fieldFreeRow.holds Try.pinned (OpenSpec.ofChange fieldFreeSpec)

/-- ITS FALSE NEIGHBOUR: 'it returns false'. Refute it at one input. -/
def fieldFreeWrong : ChangeSpec := { name := "fieldFree", fn := fun _ => fun
  | [d1, d2, d3] => { results := [.lit (.bool false)], args := [d1, d2, d3] }
  | _ => none }
def FieldFreeWrongFalsely : Prop := fieldFreeRow.holds Try.pinned (OpenSpec.ofChange fieldFreeWrong)

/-- 'hibernaclelaw05.FieldRoots': WHATEVER THE INPUT: true; the input reads as it did. -/
def fieldRootsSpec : ChangeSpec := { name := "fieldRoots", fn := fun _ => fun
  | [d1, d2, d3] => { results := [.lit (.bool true)], args := [d1, d2, d3] }
  | _ => none }
def fieldRootsRow : OpenClaim := { program := "ythdiofbmibgbdaa", sum := "16aef066956427756d371f730d8b6c640fc3249c74d83d3feebb1137c43bdb69", func := "hibernacle/hibernaclelaw05.FieldRoots", spec := "fieldRoots", apart := false }
def FieldRootsSaid : Prop := fieldRootsRow.holds Try.pinned (OpenSpec.ofChange fieldRootsSpec)

/-- ITS FALSE NEIGHBOUR: 'it returns false'. Refute it at one input. -/
def fieldRootsWrong : ChangeSpec := { name := "fieldRoots", fn := fun _ => fun
  | [d1, d2, d3] => { results := [.lit (.bool false)], args := [d1, d2, d3] }
  | _ => none }
def FieldRootsWrongFalsely : Prop := fieldRootsRow.holds Try.pinned (OpenSpec.ofChange fieldRootsWrong)

/- THE SECOND FORM. 'bulk': how many values and letters a reading holds, each counted each time it is reached (what is shared counts as often as it is met; a slice's spare places count too). A statement '..UptoSaid' is the law's where the arguments, and the package variables that the reading takes, are together of bulk at most 1048576: NARROWER than '..Said'. Prove '..Said' where nothing that the law and all that it calls make is longer than what came in: it says more and counts as full. Else prove '..UptoSaid'. A law counts once. -/
mutual
def uptoBulk {H : Type} : DataW H → Nat
  | .lit (.string bytes) => bytes.length + 1
  | .lit _ => 1
  | .nil => 1
  | .ptr d => uptoBulk d + 1
  | .slice elems spare => uptoBulkAll elems + uptoBulkAll spare + 1
  | .agg parts => uptoBulkAll parts + 1
  | .iface _ d => uptoBulk d + 1
  | .map entries => uptoBulkEntries entries + 1
  | .held _ => 1
def uptoBulkAll {H : Type} : List (DataW H) → Nat
  | [] => 0
  | d :: r => uptoBulk d + uptoBulkAll r
def uptoBulkEntries {H : Type} : List (Lit × DataW H) → Nat
  | [] => 0
  | x :: r => uptoBulkEntry x + uptoBulkEntries r
def uptoBulkEntry {H : Type} : Lit × DataW H → Nat
  | (.string bytes, d) => bytes.length + uptoBulk d + 1
  | (_, d) => uptoBulk d + 1
 end
def uptoSmall : (H : Type) → List (DataW H) → Bool := fun _ ds => decide (uptoBulkAll ds ≤ 1048576)
def OpenSpec.upto (s : _root_.Go.ChangeSpec) : _root_.Go.OpenSpec := { _root_.Go.OpenSpec.ofChange s with cond := some uptoSmall }

/-- 'hibernaclelaw05.FieldMuls', WHERE WHAT IT READS IS OF BULK AT MOST 1048576: true; the input reads as it did. -/
def fieldMulsUptoRow : OpenClaim := { program := "ythdiofbmibgbdaa", sum := "16aef066956427756d371f730d8b6c640fc3249c74d83d3feebb1137c43bdb69", func := "hibernacle/hibernaclelaw05.FieldMuls", spec := "fieldMuls", apart := false, narrowed := true }
def FieldMulsUptoSaid : Prop := fieldMulsUptoRow.holds Try.pinned (OpenSpec.upto fieldMulsSpec)

/-- 'hibernaclelaw05.FieldLaws', WHERE WHAT IT READS IS OF BULK AT MOST 1048576: true; the input reads as it did. -/
def fieldLawsUptoRow : OpenClaim := { program := "ythdiofbmibgbdaa", sum := "16aef066956427756d371f730d8b6c640fc3249c74d83d3feebb1137c43bdb69", func := "hibernacle/hibernaclelaw05.FieldLaws", spec := "fieldLaws", apart := false, narrowed := true }
def FieldLawsUptoSaid : Prop := fieldLawsUptoRow.holds Try.pinned (OpenSpec.upto fieldLawsSpec)

/-- 'hibernaclelaw05.FieldEvals', WHERE WHAT IT READS IS OF BULK AT MOST 1048576: true; the input reads as it did. -/
def fieldEvalsUptoRow : OpenClaim := { program := "ythdiofbmibgbdaa", sum := "16aef066956427756d371f730d8b6c640fc3249c74d83d3feebb1137c43bdb69", func := "hibernacle/hibernaclelaw05.FieldEvals", spec := "fieldEvals", apart := false, narrowed := true }
def FieldEvalsUptoSaid : Prop := fieldEvalsUptoRow.holds Try.pinned (OpenSpec.upto fieldEvalsSpec)

/-- 'hibernaclelaw05.FieldThrough', WHERE WHAT IT READS IS OF BULK AT MOST 1048576: true; the input reads as it did. -/
def fieldThroughUptoRow : OpenClaim := { program := "ythdiofbmibgbdaa", sum := "16aef066956427756d371f730d8b6c640fc3249c74d83d3feebb1137c43bdb69", func := "hibernacle/hibernaclelaw05.FieldThrough", spec := "fieldThrough", apart := false, narrowed := true }
def FieldThroughUptoSaid : Prop := fieldThroughUptoRow.holds Try.pinned (OpenSpec.upto fieldThroughSpec)

/-- 'hibernaclelaw05.FieldFree', WHERE WHAT IT READS IS OF BULK AT MOST 1048576: true; the input reads as it did. -/
def fieldFreeUptoRow : OpenClaim := { program := "ythdiofbmibgbdaa", sum := "16aef066956427756d371f730d8b6c640fc3249c74d83d3feebb1137c43bdb69", func := "hibernacle/hibernaclelaw05.FieldFree", spec := "fieldFree", apart := false, narrowed := true }
def FieldFreeUptoSaid : Prop := fieldFreeUptoRow.holds Try.pinned (OpenSpec.upto fieldFreeSpec)

/-- 'hibernaclelaw05.FieldRoots', WHERE WHAT IT READS IS OF BULK AT MOST 1048576: true; the input reads as it did. -/
def fieldRootsUptoRow : OpenClaim := { program := "ythdiofbmibgbdaa", sum := "16aef066956427756d371f730d8b6c640fc3249c74d83d3feebb1137c43bdb69", func := "hibernacle/hibernaclelaw05.FieldRoots", spec := "fieldRoots", apart := false, narrowed := true }
def FieldRootsUptoSaid : Prop := fieldRootsUptoRow.holds Try.pinned (OpenSpec.upto fieldRootsSpec)

end Rows
end Go.Proofs.Ythdiofbmibgbdaa
