/-
  No cell of these rows narrows 'for every input' (looked for: loops, veiled, ifaces, maps, wideKeys, modest, calm, conditions, laid).
  DERIVED. THE GIVEN ROWS OF THIS SEAT. 7 by the template 'for every input the law returns true; each argument reads behind the call as it read before'; 0 by the template 'total and deterministic' (their statements: YtlogjpmajgbgaaaTotals.lean).
  GIVEN WITH THE SEED: the statements are not yours to turn. If you find one false, say at which input.
  Laid BY PROGRAM, IN A SANDBOX (cutbox-rows.mjs): the forced cells as the released guide's own fill.sh prints them over the translation 47be3fce03fa275d… (all of the seat's roots in one cut). By AI agents, Wed Nov 11 2026. No macro, syntax, notation, axiom, sorry.
-/
import Derived.Test.YtlogjpmajgbgaaaChecked
import GoSem.Claim
import GoSem.ClaimJoined
import GoSem.ClaimMapViews
import Derived.JoinedTies
import Derived.KernelRfl
namespace Go.Proofs.Ytlogjpmajgbgaaa
/- THE CELL 'sum', in the pinned program and in every row, IS THE sha256 OF THE DUMP (.gsa) THAT YtlogjpmajgbgaaaProg.lean LOADS. Nothing in Lean hashes anything: it is a label: what it is worth is what the hold of that sum in a sandbox is worth. -/
noncomputable def Try.pinned : Pinned := { name := "ytlogjpmajgbgaaa", sum := "47be3fce03fa275df92db7978e02360718ca3492676280a432c106caa0fdc1af", checked := Try.checked }
namespace Rows
def none {H : Type} : Left H := { results := [], args := [] }

/-- 'blockwaylaw16.PlantMoves': WHATEVER THE INPUT: true; the input reads as it did. -/
def plantMovesSpec : ChangeSpec := { name := "plantMoves", fn := fun _ => fun
  | [d] => { results := [.lit (.bool true)], args := [d] }
  | _ => none }
def plantMovesRow : OpenClaim := { program := "ytlogjpmajgbgaaa", sum := "47be3fce03fa275df92db7978e02360718ca3492676280a432c106caa0fdc1af", func := "blockway/blockwaylaw16.PlantMoves", spec := "plantMoves", unfollowed := true, recurses := true, apart := false }
def PlantMovesSaid : Prop := plantMovesRow.holds Try.pinned (OpenSpec.ofChange plantMovesSpec)

/-- ITS FALSE NEIGHBOUR: 'it returns false'. Refute it at one input. -/
def plantMovesWrong : ChangeSpec := { name := "plantMoves", fn := fun _ => fun
  | [d] => { results := [.lit (.bool false)], args := [d] }
  | _ => none }
def PlantMovesWrongFalsely : Prop := plantMovesRow.holds Try.pinned (OpenSpec.ofChange plantMovesWrong)

/-- 'blockwaylaw16.PlantActs': WHATEVER THE INPUT: true; the input reads as it did. -/
def plantActsSpec : ChangeSpec := { name := "plantActs", fn := fun _ => fun
  | [d1, d2, d3, d4] => { results := [.lit (.bool true)], args := [d1, d2, d3, d4] }
  | _ => none }
def plantActsRow : OpenClaim := { program := "ytlogjpmajgbgaaa", sum := "47be3fce03fa275df92db7978e02360718ca3492676280a432c106caa0fdc1af", func := "blockway/blockwaylaw16.PlantActs", spec := "plantActs", unfollowed := true, recurses := true, apart := false }
def PlantActsSaid : Prop := plantActsRow.holds Try.pinned (OpenSpec.ofChange plantActsSpec)

/-- ITS FALSE NEIGHBOUR: 'it returns false'. Refute it at one input. -/
def plantActsWrong : ChangeSpec := { name := "plantActs", fn := fun _ => fun
  | [d1, d2, d3, d4] => { results := [.lit (.bool false)], args := [d1, d2, d3, d4] }
  | _ => none }
def PlantActsWrongFalsely : Prop := plantActsRow.holds Try.pinned (OpenSpec.ofChange plantActsWrong)

/-- 'blockwaylaw16.PlantFaulted': WHATEVER THE INPUT: true; the input reads as it did. -/
def plantFaultedSpec : ChangeSpec := { name := "plantFaulted", fn := fun _ => fun
  | [d] => { results := [.lit (.bool true)], args := [d] }
  | _ => none }
def plantFaultedRow : OpenClaim := { program := "ytlogjpmajgbgaaa", sum := "47be3fce03fa275df92db7978e02360718ca3492676280a432c106caa0fdc1af", func := "blockway/blockwaylaw16.PlantFaulted", spec := "plantFaulted", unfollowed := true, recurses := true, apart := false }
def PlantFaultedSaid : Prop := plantFaultedRow.holds Try.pinned (OpenSpec.ofChange plantFaultedSpec)

/-- ITS FALSE NEIGHBOUR: 'it returns false'. Refute it at one input. -/
def plantFaultedWrong : ChangeSpec := { name := "plantFaulted", fn := fun _ => fun
  | [d] => { results := [.lit (.bool false)], args := [d] }
  | _ => none }
def PlantFaultedWrongFalsely : Prop := plantFaultedRow.holds Try.pinned (OpenSpec.ofChange plantFaultedWrong)

/-- 'blockwaylaw10.ClosureTests': WHATEVER THE INPUT: true; the input reads as it did. -/
def closureTestsSpec : ChangeSpec := { name := "closureTests", fn := fun _ => fun
  | [d1, d2, d3, d4] => { results := [.lit (.bool true)], args := [d1, d2, d3, d4] }
  | _ => none }
def closureTestsRow : OpenClaim := { program := "ytlogjpmajgbgaaa", sum := "47be3fce03fa275df92db7978e02360718ca3492676280a432c106caa0fdc1af", func := "blockway/blockwaylaw10.ClosureTests", spec := "closureTests", recurses := true, apart := false }
def ClosureTestsSaid : Prop := closureTestsRow.holds Try.pinned (OpenSpec.ofChange closureTestsSpec)

/-- ITS FALSE NEIGHBOUR: 'it returns false'. Refute it at one input. -/
def closureTestsWrong : ChangeSpec := { name := "closureTests", fn := fun _ => fun
  | [d1, d2, d3, d4] => { results := [.lit (.bool false)], args := [d1, d2, d3, d4] }
  | _ => none }
def ClosureTestsWrongFalsely : Prop := closureTestsRow.holds Try.pinned (OpenSpec.ofChange closureTestsWrong)

/-- 'blockwaylaw10.ClosureMeans': WHATEVER THE INPUT: true; the input reads as it did. -/
def closureMeansSpec : ChangeSpec := { name := "closureMeans", fn := fun _ => fun
  | [d1, d2] => { results := [.lit (.bool true)], args := [d1, d2] }
  | _ => none }
def closureMeansRow : OpenClaim := { program := "ytlogjpmajgbgaaa", sum := "47be3fce03fa275df92db7978e02360718ca3492676280a432c106caa0fdc1af", func := "blockway/blockwaylaw10.ClosureMeans", spec := "closureMeans", recurses := true, apart := false }
def ClosureMeansSaid : Prop := closureMeansRow.holds Try.pinned (OpenSpec.ofChange closureMeansSpec)

/-- ITS FALSE NEIGHBOUR: 'it returns false'. Refute it at one input. -/
def closureMeansWrong : ChangeSpec := { name := "closureMeans", fn := fun _ => fun
  | [d1, d2] => { results := [.lit (.bool false)], args := [d1, d2] }
  | _ => none }
def ClosureMeansWrongFalsely : Prop := closureMeansRow.holds Try.pinned (OpenSpec.ofChange closureMeansWrong)

/-- 'blockwaylaw10.ClosureMonotone': WHATEVER THE INPUT: true; the input reads as it did. -/
def closureMonotoneSpec : ChangeSpec := { name := "closureMonotone", fn := fun _ => fun
  | [d1, d2, d3] => { results := [.lit (.bool true)], args := [d1, d2, d3] }
  | _ => none }
def closureMonotoneRow : OpenClaim := { program := "ytlogjpmajgbgaaa", sum := "47be3fce03fa275df92db7978e02360718ca3492676280a432c106caa0fdc1af", func := "blockway/blockwaylaw10.ClosureMonotone", spec := "closureMonotone", recurses := true, apart := false }
def ClosureMonotoneSaid : Prop := closureMonotoneRow.holds Try.pinned (OpenSpec.ofChange closureMonotoneSpec)

/-- ITS FALSE NEIGHBOUR: 'it returns false'. Refute it at one input. -/
def closureMonotoneWrong : ChangeSpec := { name := "closureMonotone", fn := fun _ => fun
  | [d1, d2, d3] => { results := [.lit (.bool false)], args := [d1, d2, d3] }
  | _ => none }
def ClosureMonotoneWrongFalsely : Prop := closureMonotoneRow.holds Try.pinned (OpenSpec.ofChange closureMonotoneWrong)

/-- 'blockwaylaw10.ClosureAllowed': WHATEVER THE INPUT: true; the input reads as it did. -/
def closureAllowedSpec : ChangeSpec := { name := "closureAllowed", fn := fun _ => fun
  | [d1, d2, d3] => { results := [.lit (.bool true)], args := [d1, d2, d3] }
  | _ => none }
def closureAllowedRow : OpenClaim := { program := "ytlogjpmajgbgaaa", sum := "47be3fce03fa275df92db7978e02360718ca3492676280a432c106caa0fdc1af", func := "blockway/blockwaylaw10.ClosureAllowed", spec := "closureAllowed", recurses := true, apart := false }
def ClosureAllowedSaid : Prop := closureAllowedRow.holds Try.pinned (OpenSpec.ofChange closureAllowedSpec)

/-- ITS FALSE NEIGHBOUR: 'it returns false'. Refute it at one input. -/
def closureAllowedWrong : ChangeSpec := { name := "closureAllowed", fn := fun _ => fun
  | [d1, d2, d3] => { results := [.lit (.bool false)], args := [d1, d2, d3] }
  | _ => none }
def ClosureAllowedWrongFalsely : Prop := closureAllowedRow.holds Try.pinned (OpenSpec.ofChange closureAllowedWrong)

/- THE SECOND FORM. 'bulk': how many values and letters a reading holds, each counted each time it is reached (what is shared counts as often as it is met; a slice's spare places count too). A statement '..UptoSaid' is the law's where the arguments, and the package variables that the reading takes, are together of bulk at most 1048576: NARROWER than '..Said'. Prove '..Said' where nothing that the law and all that it calls make is longer than what came in: it says more and counts as full. Else prove '..UptoSaid'. A law counts once. -/
mutual
def uptoBulk {H : Type} : DataW H → Nat
  | .lit (.string bytes) => bytes.length + 1
  | .lit _ => 1
  | .nil => 1
  | .ptr d => uptoBulk d + 1
  | .slice elems spare => uptoBulkAll elems + uptoBulkAll spare + 1
  | .agg parts => uptoBulkAll parts + 1
  | .iface _ d => uptoBulk d + 1
  | .map entries => uptoBulkEntries entries + 1
  | .held _ => 1
def uptoBulkAll {H : Type} : List (DataW H) → Nat
  | [] => 0
  | d :: r => uptoBulk d + uptoBulkAll r
def uptoBulkEntries {H : Type} : List (Lit × DataW H) → Nat
  | [] => 0
  | x :: r => uptoBulkEntry x + uptoBulkEntries r
def uptoBulkEntry {H : Type} : Lit × DataW H → Nat
  | (.string bytes, d) => bytes.length + uptoBulk d + 1
  | (_, d) => uptoBulk d + 1
 end
def uptoSmall : (H : Type) → List (DataW H) → Bool := fun _ ds => decide (uptoBulkAll ds ≤ 1048576)
def OpenSpec.upto (s : _root_.Go.ChangeSpec) : _root_.Go.OpenSpec := { _root_.Go.OpenSpec.ofChange s with cond := some uptoSmall }

/-- 'blockwaylaw16.PlantMoves', WHERE WHAT IT READS IS OF BULK AT MOST 1048576: true; the input reads as it did. -/
def plantMovesUptoRow : OpenClaim := { program := "ytlogjpmajgbgaaa", sum := "47be3fce03fa275df92db7978e02360718ca3492676280a432c106caa0fdc1af", func := "blockway/blockwaylaw16.PlantMoves", spec := "plantMoves", unfollowed := true, recurses := true, apart := false, narrowed := true }
def PlantMovesUptoSaid : Prop := plantMovesUptoRow.holds Try.pinned (OpenSpec.upto plantMovesSpec)

/-- 'blockwaylaw16.PlantActs', WHERE WHAT IT READS IS OF BULK AT MOST 1048576: true; the input reads as it did. -/
def plantActsUptoRow : OpenClaim := { program := "ytlogjpmajgbgaaa", sum := "47be3fce03fa275df92db7978e02360718ca3492676280a432c106caa0fdc1af", func := "blockway/blockwaylaw16.PlantActs", spec := "plantActs", unfollowed := true, recurses := true, apart := false, narrowed := true }
def PlantActsUptoSaid : Prop := plantActsUptoRow.holds Try.pinned (OpenSpec.upto plantActsSpec)

/-- 'blockwaylaw16.PlantFaulted', WHERE WHAT IT READS IS OF BULK AT MOST 1048576: true; the input reads as it did. -/
def plantFaultedUptoRow : OpenClaim := { program := "ytlogjpmajgbgaaa", sum := "47be3fce03fa275df92db7978e02360718ca3492676280a432c106caa0fdc1af", func := "blockway/blockwaylaw16.PlantFaulted", spec := "plantFaulted", unfollowed := true, recurses := true, apart := false, narrowed := true }
def PlantFaultedUptoSaid : Prop := plantFaultedUptoRow.holds Try.pinned (OpenSpec.upto plantFaultedSpec)

/-- 'blockwaylaw10.ClosureTests', WHERE WHAT IT READS IS OF BULK AT MOST 1048576: true; the input reads as it did. -/
def closureTestsUptoRow : OpenClaim := { program := "ytlogjpmajgbgaaa", sum := "47be3fce03fa275df92db7978e02360718ca3492676280a432c106caa0fdc1af", func := "blockway/blockwaylaw10.ClosureTests", spec := "closureTests", recurses := true, apart := false, narrowed := true }
def ClosureTestsUptoSaid : Prop := closureTestsUptoRow.holds Try.pinned (OpenSpec.upto closureTestsSpec)

/-- 'blockwaylaw10.ClosureMeans', WHERE WHAT IT READS IS OF BULK AT MOST 1048576: true; the input reads as it did. -/
def closureMeansUptoRow : OpenClaim := { program := "ytlogjpmajgbgaaa", sum := "47be3fce03fa275df92db7978e02360718ca3492676280a432c106caa0fdc1af", func := "blockway/blockwaylaw10.ClosureMeans", spec := "closureMeans", recurses := true, apart := false, narrowed := true }
def ClosureMeansUptoSaid : Prop := closureMeansUptoRow.holds Try.pinned (OpenSpec.upto closureMeansSpec)

/-- 'blockwaylaw10.ClosureMonotone', WHERE WHAT IT READS IS OF BULK AT MOST 1048576: true; the input reads as it did. -/
def closureMonotoneUptoRow : OpenClaim := { program := "ytlogjpmajgbgaaa", sum := "47be3fce03fa275df92db7978e02360718ca3492676280a432c106caa0fdc1af", func := "blockway/blockwaylaw10.ClosureMonotone", spec := "closureMonotone", recurses := true, apart := false, narrowed := true }
def ClosureMonotoneUptoSaid : Prop := closureMonotoneUptoRow.holds Try.pinned (OpenSpec.upto closureMonotoneSpec)

/-- 'blockwaylaw10.ClosureAllowed', WHERE WHAT IT READS IS OF BULK AT MOST 1048576: true; the input reads as it did. -/
def closureAllowedUptoRow : OpenClaim := { program := "ytlogjpmajgbgaaa", sum := "47be3fce03fa275df92db7978e02360718ca3492676280a432c106caa0fdc1af", func := "blockway/blockwaylaw10.ClosureAllowed", spec := "closureAllowed", recurses := true, apart := false, narrowed := true }
def ClosureAllowedUptoSaid : Prop := closureAllowedUptoRow.holds Try.pinned (OpenSpec.upto closureAllowedSpec)

end Rows
end Go.Proofs.Ytlogjpmajgbgaaa
