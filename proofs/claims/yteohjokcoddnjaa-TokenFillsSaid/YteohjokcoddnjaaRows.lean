/-
  No cell of these rows narrows 'for every input' (looked for: loops, veiled, ifaces, maps, wideKeys, modest, calm, conditions, laid).
  DERIVED. THE GIVEN ROWS OF THIS SEAT. 12 by the template 'for every input the law returns true; each argument reads behind the call as it read before'; 0 by the template 'total and deterministic' (their statements: YteohjokcoddnjaaTotals.lean).
  GIVEN WITH THE SEED: the statements are not yours to turn. If you find one false, say at which input.
  Laid BY PROGRAM, IN A SANDBOX (cutbox-rows.mjs): the forced cells as the released guide's own fill.sh prints them over the translation d160175f61d2fd2d… (all of the seat's roots in one cut). By AI agents, Wed Nov 11 2026. No macro, syntax, notation, axiom, sorry.
-/
import Derived.Test.YteohjokcoddnjaaChecked
import GoSem.Claim
import GoSem.ClaimJoined
import GoSem.ClaimMapViews
import Derived.JoinedTies
import Derived.KernelRfl
namespace Go.Proofs.Yteohjokcoddnjaa
/- THE CELL 'sum', in the pinned program and in every row, IS THE sha256 OF THE DUMP (.gsa) THAT YteohjokcoddnjaaProg.lean LOADS. Nothing in Lean hashes anything: it is a label: what it is worth is what the hold of that sum in a sandbox is worth. -/
noncomputable def Try.pinned : Pinned := { name := "yteohjokcoddnjaa", sum := "d160175f61d2fd2d6b7f6a0c79a7c7d78636a5d3afc32fe6637601bb3d014c2c", checked := Try.checked }
namespace Rows
def none {H : Type} : Left H := { results := [], args := [] }

/-- 'blockwaylaw12.TokenBelow': WHATEVER THE INPUT: true; the input reads as it did. -/
def tokenBelowSpec : ChangeSpec := { name := "tokenBelow", fn := fun _ => fun
  | [d] => { results := [.lit (.bool true)], args := [d] }
  | _ => none }
def tokenBelowRow : OpenClaim := { program := "yteohjokcoddnjaa", sum := "d160175f61d2fd2d6b7f6a0c79a7c7d78636a5d3afc32fe6637601bb3d014c2c", func := "blockway/blockwaylaw12.TokenBelow", spec := "tokenBelow", unfollowed := true, recurses := true, apart := false }
def TokenBelowSaid : Prop := tokenBelowRow.holds Try.pinned (OpenSpec.ofChange tokenBelowSpec)

/-- ITS FALSE NEIGHBOUR: 'it returns false'. Refute it at one input. -/
def tokenBelowWrong : ChangeSpec := { name := "tokenBelow", fn := fun _ => fun
  | [d] => { results := [.lit (.bool false)], args := [d] }
  | _ => none }
def TokenBelowWrongFalsely : Prop := tokenBelowRow.holds Try.pinned (OpenSpec.ofChange tokenBelowWrong)

/-- 'blockwaylaw12.TokenMoves': WHATEVER THE INPUT: true; the input reads as it did. -/
def tokenMovesSpec : ChangeSpec := { name := "tokenMoves", fn := fun _ => fun
  | [d1, d2] => { results := [.lit (.bool true)], args := [d1, d2] }
  | _ => none }
def tokenMovesRow : OpenClaim := { program := "yteohjokcoddnjaa", sum := "d160175f61d2fd2d6b7f6a0c79a7c7d78636a5d3afc32fe6637601bb3d014c2c", func := "blockway/blockwaylaw12.TokenMoves", spec := "tokenMoves", unfollowed := true, recurses := true, apart := false }
def TokenMovesSaid : Prop := tokenMovesRow.holds Try.pinned (OpenSpec.ofChange tokenMovesSpec)

/-- ITS FALSE NEIGHBOUR: 'it returns false'. Refute it at one input. -/
def tokenMovesWrong : ChangeSpec := { name := "tokenMoves", fn := fun _ => fun
  | [d1, d2] => { results := [.lit (.bool false)], args := [d1, d2] }
  | _ => none }
def TokenMovesWrongFalsely : Prop := tokenMovesRow.holds Try.pinned (OpenSpec.ofChange tokenMovesWrong)

/-- 'blockwaylaw12.TokenFills': WHATEVER THE INPUT: true; the input reads as it did. -/
def tokenFillsSpec : ChangeSpec := { name := "tokenFills", fn := fun _ => fun
  | [d1, d2, d3, d4] => { results := [.lit (.bool true)], args := [d1, d2, d3, d4] }
  | _ => none }
def tokenFillsRow : OpenClaim := { program := "yteohjokcoddnjaa", sum := "d160175f61d2fd2d6b7f6a0c79a7c7d78636a5d3afc32fe6637601bb3d014c2c", func := "blockway/blockwaylaw12.TokenFills", spec := "tokenFills", unfollowed := true, recurses := true, apart := false }
def TokenFillsSaid : Prop := tokenFillsRow.holds Try.pinned (OpenSpec.ofChange tokenFillsSpec)

/-- ITS FALSE NEIGHBOUR: 'it returns false'. Refute it at one input. -/
def tokenFillsWrong : ChangeSpec := { name := "tokenFills", fn := fun _ => fun
  | [d1, d2, d3, d4] => { results := [.lit (.bool false)], args := [d1, d2, d3, d4] }
  | _ => none }
def TokenFillsWrongFalsely : Prop := tokenFillsRow.holds Try.pinned (OpenSpec.ofChange tokenFillsWrong)

/-- 'blockwaylaw12.TokenRings': WHATEVER THE INPUT: true; the input reads as it did. -/
def tokenRingsSpec : ChangeSpec := { name := "tokenRings", fn := fun _ => fun
  | [d] => { results := [.lit (.bool true)], args := [d] }
  | _ => none }
def tokenRingsRow : OpenClaim := { program := "yteohjokcoddnjaa", sum := "d160175f61d2fd2d6b7f6a0c79a7c7d78636a5d3afc32fe6637601bb3d014c2c", func := "blockway/blockwaylaw12.TokenRings", spec := "tokenRings", unfollowed := true, recurses := true, apart := false }
def TokenRingsSaid : Prop := tokenRingsRow.holds Try.pinned (OpenSpec.ofChange tokenRingsSpec)

/-- ITS FALSE NEIGHBOUR: 'it returns false'. Refute it at one input. -/
def tokenRingsWrong : ChangeSpec := { name := "tokenRings", fn := fun _ => fun
  | [d] => { results := [.lit (.bool false)], args := [d] }
  | _ => none }
def TokenRingsWrongFalsely : Prop := tokenRingsRow.holds Try.pinned (OpenSpec.ofChange tokenRingsWrong)

/-- 'blockwaylaw12.TokenReached': WHATEVER THE INPUT: true; the input reads as it did. -/
def tokenReachedSpec : ChangeSpec := { name := "tokenReached", fn := fun _ => fun
  | [d] => { results := [.lit (.bool true)], args := [d] }
  | _ => none }
def tokenReachedRow : OpenClaim := { program := "yteohjokcoddnjaa", sum := "d160175f61d2fd2d6b7f6a0c79a7c7d78636a5d3afc32fe6637601bb3d014c2c", func := "blockway/blockwaylaw12.TokenReached", spec := "tokenReached", unfollowed := true, recurses := true, apart := false }
def TokenReachedSaid : Prop := tokenReachedRow.holds Try.pinned (OpenSpec.ofChange tokenReachedSpec)

/-- ITS FALSE NEIGHBOUR: 'it returns false'. Refute it at one input. -/
def tokenReachedWrong : ChangeSpec := { name := "tokenReached", fn := fun _ => fun
  | [d] => { results := [.lit (.bool false)], args := [d] }
  | _ => none }
def TokenReachedWrongFalsely : Prop := tokenReachedRow.holds Try.pinned (OpenSpec.ofChange tokenReachedWrong)

/-- 'blockwaylaw12.TokenPlays': WHATEVER THE INPUT: true; the input reads as it did. -/
def tokenPlaysSpec : ChangeSpec := { name := "tokenPlays", fn := fun _ => fun
  | [d1, d2, d3, d4] => { results := [.lit (.bool true)], args := [d1, d2, d3, d4] }
  | _ => none }
def tokenPlaysRow : OpenClaim := { program := "yteohjokcoddnjaa", sum := "d160175f61d2fd2d6b7f6a0c79a7c7d78636a5d3afc32fe6637601bb3d014c2c", func := "blockway/blockwaylaw12.TokenPlays", spec := "tokenPlays", unfollowed := true, recurses := true, apart := false }
def TokenPlaysSaid : Prop := tokenPlaysRow.holds Try.pinned (OpenSpec.ofChange tokenPlaysSpec)

/-- ITS FALSE NEIGHBOUR: 'it returns false'. Refute it at one input. -/
def tokenPlaysWrong : ChangeSpec := { name := "tokenPlays", fn := fun _ => fun
  | [d1, d2, d3, d4] => { results := [.lit (.bool false)], args := [d1, d2, d3, d4] }
  | _ => none }
def TokenPlaysWrongFalsely : Prop := tokenPlaysRow.holds Try.pinned (OpenSpec.ofChange tokenPlaysWrong)

/-- 'blockwaylaw12.TokenTight': WHATEVER THE INPUT: true; the input reads as it did. -/
def tokenTightSpec : ChangeSpec := { name := "tokenTight", fn := fun _ => fun
  | [d] => { results := [.lit (.bool true)], args := [d] }
  | _ => none }
def tokenTightRow : OpenClaim := { program := "yteohjokcoddnjaa", sum := "d160175f61d2fd2d6b7f6a0c79a7c7d78636a5d3afc32fe6637601bb3d014c2c", func := "blockway/blockwaylaw12.TokenTight", spec := "tokenTight", unfollowed := true, recurses := true, apart := false }
def TokenTightSaid : Prop := tokenTightRow.holds Try.pinned (OpenSpec.ofChange tokenTightSpec)

/-- ITS FALSE NEIGHBOUR: 'it returns false'. Refute it at one input. -/
def tokenTightWrong : ChangeSpec := { name := "tokenTight", fn := fun _ => fun
  | [d] => { results := [.lit (.bool false)], args := [d] }
  | _ => none }
def TokenTightWrongFalsely : Prop := tokenTightRow.holds Try.pinned (OpenSpec.ofChange tokenTightWrong)

/-- 'blockwaylaw06.GirthNone': WHATEVER THE INPUT: true; the input reads as it did. -/
def girthNoneSpec : ChangeSpec := { name := "girthNone", fn := fun _ => fun
  | [d] => { results := [.lit (.bool true)], args := [d] }
  | _ => none }
def girthNoneRow : OpenClaim := { program := "yteohjokcoddnjaa", sum := "d160175f61d2fd2d6b7f6a0c79a7c7d78636a5d3afc32fe6637601bb3d014c2c", func := "blockway/blockwaylaw06.GirthNone", spec := "girthNone", apart := false }
def GirthNoneSaid : Prop := girthNoneRow.holds Try.pinned (OpenSpec.ofChange girthNoneSpec)

/-- ITS FALSE NEIGHBOUR: 'it returns false'. Refute it at one input. -/
def girthNoneWrong : ChangeSpec := { name := "girthNone", fn := fun _ => fun
  | [d] => { results := [.lit (.bool false)], args := [d] }
  | _ => none }
def GirthNoneWrongFalsely : Prop := girthNoneRow.holds Try.pinned (OpenSpec.ofChange girthNoneWrong)

/-- 'blockwaylaw10.ClosureTests': WHATEVER THE INPUT: true; the input reads as it did. -/
def closureTestsSpec : ChangeSpec := { name := "closureTests", fn := fun _ => fun
  | [d1, d2, d3, d4] => { results := [.lit (.bool true)], args := [d1, d2, d3, d4] }
  | _ => none }
def closureTestsRow : OpenClaim := { program := "yteohjokcoddnjaa", sum := "d160175f61d2fd2d6b7f6a0c79a7c7d78636a5d3afc32fe6637601bb3d014c2c", func := "blockway/blockwaylaw10.ClosureTests", spec := "closureTests", recurses := true, apart := false }
def ClosureTestsSaid : Prop := closureTestsRow.holds Try.pinned (OpenSpec.ofChange closureTestsSpec)

/-- ITS FALSE NEIGHBOUR: 'it returns false'. Refute it at one input. -/
def closureTestsWrong : ChangeSpec := { name := "closureTests", fn := fun _ => fun
  | [d1, d2, d3, d4] => { results := [.lit (.bool false)], args := [d1, d2, d3, d4] }
  | _ => none }
def ClosureTestsWrongFalsely : Prop := closureTestsRow.holds Try.pinned (OpenSpec.ofChange closureTestsWrong)

/-- 'blockwaylaw10.ClosureMeans': WHATEVER THE INPUT: true; the input reads as it did. -/
def closureMeansSpec : ChangeSpec := { name := "closureMeans", fn := fun _ => fun
  | [d1, d2] => { results := [.lit (.bool true)], args := [d1, d2] }
  | _ => none }
def closureMeansRow : OpenClaim := { program := "yteohjokcoddnjaa", sum := "d160175f61d2fd2d6b7f6a0c79a7c7d78636a5d3afc32fe6637601bb3d014c2c", func := "blockway/blockwaylaw10.ClosureMeans", spec := "closureMeans", recurses := true, apart := false }
def ClosureMeansSaid : Prop := closureMeansRow.holds Try.pinned (OpenSpec.ofChange closureMeansSpec)

/-- ITS FALSE NEIGHBOUR: 'it returns false'. Refute it at one input. -/
def closureMeansWrong : ChangeSpec := { name := "closureMeans", fn := fun _ => fun
  | [d1, d2] => { results := [.lit (.bool false)], args := [d1, d2] }
  | _ => none }
def ClosureMeansWrongFalsely : Prop := closureMeansRow.holds Try.pinned (OpenSpec.ofChange closureMeansWrong)

/-- 'blockwaylaw10.ClosureMonotone': WHATEVER THE INPUT: true; the input reads as it did. -/
def closureMonotoneSpec : ChangeSpec := { name := "closureMonotone", fn := fun _ => fun
  | [d1, d2, d3] => { results := [.lit (.bool true)], args := [d1, d2, d3] }
  | _ => none }
def closureMonotoneRow : OpenClaim := { program := "yteohjokcoddnjaa", sum := "d160175f61d2fd2d6b7f6a0c79a7c7d78636a5d3afc32fe6637601bb3d014c2c", func := "blockway/blockwaylaw10.ClosureMonotone", spec := "closureMonotone", recurses := true, apart := false }
def ClosureMonotoneSaid : Prop := closureMonotoneRow.holds Try.pinned (OpenSpec.ofChange closureMonotoneSpec)

/-- ITS FALSE NEIGHBOUR: 'it returns false'. Refute it at one input. -/
def closureMonotoneWrong : ChangeSpec := { name := "closureMonotone", fn := fun _ => fun
  | [d1, d2, d3] => { results := [.lit (.bool false)], args := [d1, d2, d3] }
  | _ => none }
def ClosureMonotoneWrongFalsely : Prop := closureMonotoneRow.holds Try.pinned (OpenSpec.ofChange closureMonotoneWrong)

/-- 'blockwaylaw10.ClosureAllowed': WHATEVER THE INPUT: true; the input reads as it did. -/
def closureAllowedSpec : ChangeSpec := { name := "closureAllowed", fn := fun _ => fun
  | [d1, d2, d3] => { results := [.lit (.bool true)], args := [d1, d2, d3] }
  | _ => none }
def closureAllowedRow : OpenClaim := { program := "yteohjokcoddnjaa", sum := "d160175f61d2fd2d6b7f6a0c79a7c7d78636a5d3afc32fe6637601bb3d014c2c", func := "blockway/blockwaylaw10.ClosureAllowed", spec := "closureAllowed", recurses := true, apart := false }
def ClosureAllowedSaid : Prop := closureAllowedRow.holds Try.pinned (OpenSpec.ofChange closureAllowedSpec)

/-- ITS FALSE NEIGHBOUR: 'it returns false'. Refute it at one input. -/
def closureAllowedWrong : ChangeSpec := { name := "closureAllowed", fn := fun _ => fun
  | [d1, d2, d3] => { results := [.lit (.bool false)], args := [d1, d2, d3] }
  | _ => none }
def ClosureAllowedWrongFalsely : Prop := closureAllowedRow.holds Try.pinned (OpenSpec.ofChange closureAllowedWrong)

/- THE SECOND FORM. 'bulk': how many values and letters a reading holds, each counted each time it is reached (what is shared counts as often as it is met; a slice's spare places count too). A statement '..UptoSaid' is the law's where the arguments, and the package variables that the reading takes, are together of bulk at most 1048576: NARROWER than '..Said'. Prove '..Said' where nothing that the law and all that it calls make is longer than what came in: it says more and counts as full. Else prove '..UptoSaid'. A law counts once. -/
mutual
def uptoBulk {H : Type} : DataW H → Nat
  | .lit (.string bytes) => bytes.length + 1
  | .lit _ => 1
  | .nil => 1
  | .ptr d => uptoBulk d + 1
  | .slice elems spare => uptoBulkAll elems + uptoBulkAll spare + 1
  | .agg parts => uptoBulkAll parts + 1
  | .iface _ d => uptoBulk d + 1
  | .map entries => uptoBulkEntries entries + 1
  | .held _ => 1
def uptoBulkAll {H : Type} : List (DataW H) → Nat
  | [] => 0
  | d :: r => uptoBulk d + uptoBulkAll r
def uptoBulkEntries {H : Type} : List (Lit × DataW H) → Nat
  | [] => 0
  | x :: r => uptoBulkEntry x + uptoBulkEntries r
def uptoBulkEntry {H : Type} : Lit × DataW H → Nat
  | (.string bytes, d) => bytes.length + uptoBulk d + 1
  | (_, d) => uptoBulk d + 1
 end
def uptoSmall : (H : Type) → List (DataW H) → Bool := fun _ ds => decide (uptoBulkAll ds ≤ 1048576)
def OpenSpec.upto (s : _root_.Go.ChangeSpec) : _root_.Go.OpenSpec := { _root_.Go.OpenSpec.ofChange s with cond := some uptoSmall }

/-- 'blockwaylaw12.TokenBelow', WHERE WHAT IT READS IS OF BULK AT MOST 1048576: true; the input reads as it did. -/
def tokenBelowUptoRow : OpenClaim := { program := "yteohjokcoddnjaa", sum := "d160175f61d2fd2d6b7f6a0c79a7c7d78636a5d3afc32fe6637601bb3d014c2c", func := "blockway/blockwaylaw12.TokenBelow", spec := "tokenBelow", unfollowed := true, recurses := true, apart := false, narrowed := true }
def TokenBelowUptoSaid : Prop := tokenBelowUptoRow.holds Try.pinned (OpenSpec.upto tokenBelowSpec)

/-- 'blockwaylaw12.TokenMoves', WHERE WHAT IT READS IS OF BULK AT MOST 1048576: true; the input reads as it did. -/
def tokenMovesUptoRow : OpenClaim := { program := "yteohjokcoddnjaa", sum := "d160175f61d2fd2d6b7f6a0c79a7c7d78636a5d3afc32fe6637601bb3d014c2c", func := "blockway/blockwaylaw12.TokenMoves", spec := "tokenMoves", unfollowed := true, recurses := true, apart := false, narrowed := true }
def TokenMovesUptoSaid : Prop := tokenMovesUptoRow.holds Try.pinned (OpenSpec.upto tokenMovesSpec)

/-- 'blockwaylaw12.TokenFills', WHERE WHAT IT READS IS OF BULK AT MOST 1048576: true; the input reads as it did. -/
def tokenFillsUptoRow : OpenClaim := { program := "yteohjokcoddnjaa", sum := "d160175f61d2fd2d6b7f6a0c79a7c7d78636a5d3afc32fe6637601bb3d014c2c", func := "blockway/blockwaylaw12.TokenFills", spec := "tokenFills", unfollowed := true, recurses := true, apart := false, narrowed := true }
def TokenFillsUptoSaid : Prop := tokenFillsUptoRow.holds Try.pinned (OpenSpec.upto tokenFillsSpec)

/-- 'blockwaylaw12.TokenRings', WHERE WHAT IT READS IS OF BULK AT MOST 1048576: true; the input reads as it did. -/
def tokenRingsUptoRow : OpenClaim := { program := "yteohjokcoddnjaa", sum := "d160175f61d2fd2d6b7f6a0c79a7c7d78636a5d3afc32fe6637601bb3d014c2c", func := "blockway/blockwaylaw12.TokenRings", spec := "tokenRings", unfollowed := true, recurses := true, apart := false, narrowed := true }
def TokenRingsUptoSaid : Prop := tokenRingsUptoRow.holds Try.pinned (OpenSpec.upto tokenRingsSpec)

/-- 'blockwaylaw12.TokenReached', WHERE WHAT IT READS IS OF BULK AT MOST 1048576: true; the input reads as it did. -/
def tokenReachedUptoRow : OpenClaim := { program := "yteohjokcoddnjaa", sum := "d160175f61d2fd2d6b7f6a0c79a7c7d78636a5d3afc32fe6637601bb3d014c2c", func := "blockway/blockwaylaw12.TokenReached", spec := "tokenReached", unfollowed := true, recurses := true, apart := false, narrowed := true }
def TokenReachedUptoSaid : Prop := tokenReachedUptoRow.holds Try.pinned (OpenSpec.upto tokenReachedSpec)

/-- 'blockwaylaw12.TokenPlays', WHERE WHAT IT READS IS OF BULK AT MOST 1048576: true; the input reads as it did. -/
def tokenPlaysUptoRow : OpenClaim := { program := "yteohjokcoddnjaa", sum := "d160175f61d2fd2d6b7f6a0c79a7c7d78636a5d3afc32fe6637601bb3d014c2c", func := "blockway/blockwaylaw12.TokenPlays", spec := "tokenPlays", unfollowed := true, recurses := true, apart := false, narrowed := true }
def TokenPlaysUptoSaid : Prop := tokenPlaysUptoRow.holds Try.pinned (OpenSpec.upto tokenPlaysSpec)

/-- 'blockwaylaw12.TokenTight', WHERE WHAT IT READS IS OF BULK AT MOST 1048576: true; the input reads as it did. -/
def tokenTightUptoRow : OpenClaim := { program := "yteohjokcoddnjaa", sum := "d160175f61d2fd2d6b7f6a0c79a7c7d78636a5d3afc32fe6637601bb3d014c2c", func := "blockway/blockwaylaw12.TokenTight", spec := "tokenTight", unfollowed := true, recurses := true, apart := false, narrowed := true }
def TokenTightUptoSaid : Prop := tokenTightUptoRow.holds Try.pinned (OpenSpec.upto tokenTightSpec)

/-- 'blockwaylaw06.GirthNone', WHERE WHAT IT READS IS OF BULK AT MOST 1048576: true; the input reads as it did. -/
def girthNoneUptoRow : OpenClaim := { program := "yteohjokcoddnjaa", sum := "d160175f61d2fd2d6b7f6a0c79a7c7d78636a5d3afc32fe6637601bb3d014c2c", func := "blockway/blockwaylaw06.GirthNone", spec := "girthNone", apart := false, narrowed := true }
def GirthNoneUptoSaid : Prop := girthNoneUptoRow.holds Try.pinned (OpenSpec.upto girthNoneSpec)

/-- 'blockwaylaw10.ClosureTests', WHERE WHAT IT READS IS OF BULK AT MOST 1048576: true; the input reads as it did. -/
def closureTestsUptoRow : OpenClaim := { program := "yteohjokcoddnjaa", sum := "d160175f61d2fd2d6b7f6a0c79a7c7d78636a5d3afc32fe6637601bb3d014c2c", func := "blockway/blockwaylaw10.ClosureTests", spec := "closureTests", recurses := true, apart := false, narrowed := true }
def ClosureTestsUptoSaid : Prop := closureTestsUptoRow.holds Try.pinned (OpenSpec.upto closureTestsSpec)

/-- 'blockwaylaw10.ClosureMeans', WHERE WHAT IT READS IS OF BULK AT MOST 1048576: true; the input reads as it did. -/
def closureMeansUptoRow : OpenClaim := { program := "yteohjokcoddnjaa", sum := "d160175f61d2fd2d6b7f6a0c79a7c7d78636a5d3afc32fe6637601bb3d014c2c", func := "blockway/blockwaylaw10.ClosureMeans", spec := "closureMeans", recurses := true, apart := false, narrowed := true }
def ClosureMeansUptoSaid : Prop := closureMeansUptoRow.holds Try.pinned (OpenSpec.upto closureMeansSpec)

/-- 'blockwaylaw10.ClosureMonotone', WHERE WHAT IT READS IS OF BULK AT MOST 1048576: true; the input reads as it did. -/
def closureMonotoneUptoRow : OpenClaim := { program := "yteohjokcoddnjaa", sum := "d160175f61d2fd2d6b7f6a0c79a7c7d78636a5d3afc32fe6637601bb3d014c2c", func := "blockway/blockwaylaw10.ClosureMonotone", spec := "closureMonotone", recurses := true, apart := false, narrowed := true }
def ClosureMonotoneUptoSaid : Prop := closureMonotoneUptoRow.holds Try.pinned (OpenSpec.upto closureMonotoneSpec)

/-- 'blockwaylaw10.ClosureAllowed', WHERE WHAT IT READS IS OF BULK AT MOST 1048576: true; the input reads as it did. -/
def closureAllowedUptoRow : OpenClaim := { program := "yteohjokcoddnjaa", sum := "d160175f61d2fd2d6b7f6a0c79a7c7d78636a5d3afc32fe6637601bb3d014c2c", func := "blockway/blockwaylaw10.ClosureAllowed", spec := "closureAllowed", recurses := true, apart := false, narrowed := true }
def ClosureAllowedUptoSaid : Prop := closureAllowedUptoRow.holds Try.pinned (OpenSpec.upto closureAllowedSpec)

end Rows
end Go.Proofs.Yteohjokcoddnjaa
