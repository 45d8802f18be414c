/-
  No cell of these rows narrows 'for every input' (looked for: loops, veiled, ifaces, maps, wideKeys, modest, calm, conditions, laid).
  DERIVED. THE GIVEN ROWS OF THIS SEAT. 5 by the template 'for every input the law returns true; each argument reads behind the call as it read before'; 0 by the template 'total and deterministic' (their statements: YtcdgphdieemjcaaTotals.lean).
  GIVEN WITH THE SEED: the statements are not yours to turn. If you find one false, say at which input.
  Laid BY PROGRAM, IN A SANDBOX (cutbox-rows.mjs): the forced cells as the released guide's own fill.sh prints them over the translation 96ce30775374a1c2… (all of the seat's roots in one cut). By AI agents, Wed Nov 11 2026. No macro, syntax, notation, axiom, sorry.
-/
import Derived.Test.YtcdgphdieemjcaaChecked
import GoSem.Claim
import GoSem.ClaimJoined
import GoSem.ClaimMapViews
import Derived.JoinedTies
import Derived.KernelRfl
namespace Go.Proofs.Ytcdgphdieemjcaa
/- THE CELL 'sum', in the pinned program and in every row, IS THE sha256 OF THE DUMP (.gsa) THAT YtcdgphdieemjcaaProg.lean LOADS. Nothing in Lean hashes anything: it is a label: what it is worth is what the hold of that sum in a sandbox is worth. -/
noncomputable def Try.pinned : Pinned := { name := "ytcdgphdieemjcaa", sum := "96ce30775374a1c2b9e271dec6045b46680048310a52994d0aa39d64717d1dd0", checked := Try.checked }
namespace Rows
def none {H : Type} : Left H := { results := [], args := [] }

/-- 'blockwaylaw06.GirthFinds': WHATEVER THE INPUT: true; the input reads as it did. -/
def girthFindsSpec : ChangeSpec := { name := "girthFinds", fn := fun _ => fun
  | [d1, d2, d3, d4, d5] => { results := [.lit (.bool true)], args := [d1, d2, d3, d4, d5] }
  | _ => none }
def girthFindsRow : OpenClaim := { program := "ytcdgphdieemjcaa", sum := "96ce30775374a1c2b9e271dec6045b46680048310a52994d0aa39d64717d1dd0", func := "blockway/blockwaylaw06.GirthFinds", spec := "girthFinds", apart := false }
def GirthFindsSaid : Prop := girthFindsRow.holds Try.pinned (OpenSpec.ofChange girthFindsSpec)

/-- ITS FALSE NEIGHBOUR: 'it returns false'. Refute it at one input. -/
def girthFindsWrong : ChangeSpec := { name := "girthFinds", fn := fun _ => fun
  | [d1, d2, d3, d4, d5] => { results := [.lit (.bool false)], args := [d1, d2, d3, d4, d5] }
  | _ => none }
def GirthFindsWrongFalsely : Prop := girthFindsRow.holds Try.pinned (OpenSpec.ofChange girthFindsWrong)

/-- 'blockwaylaw06.GirthShortest': WHATEVER THE INPUT: true; the input reads as it did. -/
def girthShortestSpec : ChangeSpec := { name := "girthShortest", fn := fun _ => fun
  | [d1, d2] => { results := [.lit (.bool true)], args := [d1, d2] }
  | _ => none }
def girthShortestRow : OpenClaim := { program := "ytcdgphdieemjcaa", sum := "96ce30775374a1c2b9e271dec6045b46680048310a52994d0aa39d64717d1dd0", func := "blockway/blockwaylaw06.GirthShortest", spec := "girthShortest", apart := false }
def GirthShortestSaid : Prop := girthShortestRow.holds Try.pinned (OpenSpec.ofChange girthShortestSpec)

/-- ITS FALSE NEIGHBOUR: 'it returns false'. Refute it at one input. -/
def girthShortestWrong : ChangeSpec := { name := "girthShortest", fn := fun _ => fun
  | [d1, d2] => { results := [.lit (.bool false)], args := [d1, d2] }
  | _ => none }
def GirthShortestWrongFalsely : Prop := girthShortestRow.holds Try.pinned (OpenSpec.ofChange girthShortestWrong)

/-- 'blockwaylaw06.GirthLeast': WHATEVER THE INPUT: true; the input reads as it did. -/
def girthLeastSpec : ChangeSpec := { name := "girthLeast", fn := fun _ => fun
  | [d] => { results := [.lit (.bool true)], args := [d] }
  | _ => none }
def girthLeastRow : OpenClaim := { program := "ytcdgphdieemjcaa", sum := "96ce30775374a1c2b9e271dec6045b46680048310a52994d0aa39d64717d1dd0", func := "blockway/blockwaylaw06.GirthLeast", spec := "girthLeast", apart := false }
def GirthLeastSaid : Prop := girthLeastRow.holds Try.pinned (OpenSpec.ofChange girthLeastSpec)

/-- ITS FALSE NEIGHBOUR: 'it returns false'. Refute it at one input. -/
def girthLeastWrong : ChangeSpec := { name := "girthLeast", fn := fun _ => fun
  | [d] => { results := [.lit (.bool false)], args := [d] }
  | _ => none }
def GirthLeastWrongFalsely : Prop := girthLeastRow.holds Try.pinned (OpenSpec.ofChange girthLeastWrong)

/-- 'blockwaylaw06.GirthGrows': WHATEVER THE INPUT: true; the input reads as it did. -/
def girthGrowsSpec : ChangeSpec := { name := "girthGrows", fn := fun _ => fun
  | [d] => { results := [.lit (.bool true)], args := [d] }
  | _ => none }
def girthGrowsRow : OpenClaim := { program := "ytcdgphdieemjcaa", sum := "96ce30775374a1c2b9e271dec6045b46680048310a52994d0aa39d64717d1dd0", func := "blockway/blockwaylaw06.GirthGrows", spec := "girthGrows", apart := false }
def GirthGrowsSaid : Prop := girthGrowsRow.holds Try.pinned (OpenSpec.ofChange girthGrowsSpec)

/-- ITS FALSE NEIGHBOUR: 'it returns false'. Refute it at one input. -/
def girthGrowsWrong : ChangeSpec := { name := "girthGrows", fn := fun _ => fun
  | [d] => { results := [.lit (.bool false)], args := [d] }
  | _ => none }
def GirthGrowsWrongFalsely : Prop := girthGrowsRow.holds Try.pinned (OpenSpec.ofChange girthGrowsWrong)

/-- 'blockwaylaw06.GirthNone': WHATEVER THE INPUT: true; the input reads as it did. -/
def girthNoneSpec : ChangeSpec := { name := "girthNone", fn := fun _ => fun
  | [d] => { results := [.lit (.bool true)], args := [d] }
  | _ => none }
def girthNoneRow : OpenClaim := { program := "ytcdgphdieemjcaa", sum := "96ce30775374a1c2b9e271dec6045b46680048310a52994d0aa39d64717d1dd0", func := "blockway/blockwaylaw06.GirthNone", spec := "girthNone", apart := false }
def GirthNoneSaid : Prop := girthNoneRow.holds Try.pinned (OpenSpec.ofChange girthNoneSpec)

/-- ITS FALSE NEIGHBOUR: 'it returns false'. Refute it at one input. -/
def girthNoneWrong : ChangeSpec := { name := "girthNone", fn := fun _ => fun
  | [d] => { results := [.lit (.bool false)], args := [d] }
  | _ => none }
def GirthNoneWrongFalsely : Prop := girthNoneRow.holds Try.pinned (OpenSpec.ofChange girthNoneWrong)

/- THE SECOND FORM. 'bulk': how many values and letters a reading holds, each counted each time it is reached (what is shared counts as often as it is met; a slice's spare places count too). A statement '..UptoSaid' is the law's where the arguments, and the package variables that the reading takes, are together of bulk at most 1048576: NARROWER than '..Said'. Prove '..Said' where nothing that the law and all that it calls make is longer than what came in: it says more and counts as full. Else prove '..UptoSaid'. A law counts once. -/
mutual
def uptoBulk {H : Type} : DataW H → Nat
  | .lit (.string bytes) => bytes.length + 1
  | .lit _ => 1
  | .nil => 1
  | .ptr d => uptoBulk d + 1
  | .slice elems spare => uptoBulkAll elems + uptoBulkAll spare + 1
  | .agg parts => uptoBulkAll parts + 1
  | .iface _ d => uptoBulk d + 1
  | .map entries => uptoBulkEntries entries + 1
  | .held _ => 1
def uptoBulkAll {H : Type} : List (DataW H) → Nat
  | [] => 0
  | d :: r => uptoBulk d + uptoBulkAll r
def uptoBulkEntries {H : Type} : List (Lit × DataW H) → Nat
  | [] => 0
  | x :: r => uptoBulkEntry x + uptoBulkEntries r
def uptoBulkEntry {H : Type} : Lit × DataW H → Nat
  | (.string bytes, d) => bytes.length + uptoBulk d + 1
  | (_, d) => uptoBulk d + 1
 end
def uptoSmall : (H : Type) → List (DataW H) → Bool := fun _ ds => decide (uptoBulkAll ds ≤ 1048576)
def OpenSpec.upto (s : _root_.Go.ChangeSpec) : _root_.Go.OpenSpec := { _root_.Go.OpenSpec.ofChange s with cond := some uptoSmall }

/-- 'blockwaylaw06.GirthFinds', WHERE WHAT IT READS IS OF BULK AT MOST 1048576: true; the input reads as it did. -/
def girthFindsUptoRow : OpenClaim := { program := "ytcdgphdieemjcaa", sum := "96ce30775374a1c2b9e271dec6045b46680048310a52994d0aa39d64717d1dd0", func := "blockway/blockwaylaw06.GirthFinds", spec := "girthFinds", apart := false, narrowed := true }
def GirthFindsUptoSaid : Prop := girthFindsUptoRow.holds Try.pinned (OpenSpec.upto girthFindsSpec)

/-- 'blockwaylaw06.GirthShortest', WHERE WHAT IT READS IS OF BULK AT MOST 1048576: true; the input reads as it did. -/
def girthShortestUptoRow : OpenClaim := { program := "ytcdgphdieemjcaa", sum := "96ce30775374a1c2b9e271dec6045b46680048310a52994d0aa39d64717d1dd0", func := "blockway/blockwaylaw06.GirthShortest", spec := "girthShortest", apart := false, narrowed := true }
def GirthShortestUptoSaid : Prop := girthShortestUptoRow.holds Try.pinned (OpenSpec.upto girthShortestSpec)

/-- 'blockwaylaw06.GirthLeast', WHERE WHAT IT READS IS OF BULK AT MOST 1048576: true; the input reads as it did. -/
def girthLeastUptoRow : OpenClaim := { program := "ytcdgphdieemjcaa", sum := "96ce30775374a1c2b9e271dec6045b46680048310a52994d0aa39d64717d1dd0", func := "blockway/blockwaylaw06.GirthLeast", spec := "girthLeast", apart := false, narrowed := true }
def GirthLeastUptoSaid : Prop := girthLeastUptoRow.holds Try.pinned (OpenSpec.upto girthLeastSpec)

/-- 'blockwaylaw06.GirthGrows', WHERE WHAT IT READS IS OF BULK AT MOST 1048576: true; the input reads as it did. -/
def girthGrowsUptoRow : OpenClaim := { program := "ytcdgphdieemjcaa", sum := "96ce30775374a1c2b9e271dec6045b46680048310a52994d0aa39d64717d1dd0", func := "blockway/blockwaylaw06.GirthGrows", spec := "girthGrows", apart := false, narrowed := true }
def GirthGrowsUptoSaid : Prop := girthGrowsUptoRow.holds Try.pinned (OpenSpec.upto girthGrowsSpec)

/-- 'blockwaylaw06.GirthNone', WHERE WHAT IT READS IS OF BULK AT MOST 1048576: true; the input reads as it did. -/
def girthNoneUptoRow : OpenClaim := { program := "ytcdgphdieemjcaa", sum := "96ce30775374a1c2b9e271dec6045b46680048310a52994d0aa39d64717d1dd0", func := "blockway/blockwaylaw06.GirthNone", spec := "girthNone", apart := false, narrowed := true }
def GirthNoneUptoSaid : Prop := girthNoneUptoRow.holds Try.pinned (OpenSpec.upto girthNoneSpec)

end Rows
end Go.Proofs.Ytcdgphdieemjcaa
