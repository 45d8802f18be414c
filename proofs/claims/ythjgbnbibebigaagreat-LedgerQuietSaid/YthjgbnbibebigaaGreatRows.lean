/-
  No cell of these rows narrows 'for every input' (looked for: loops, veiled, ifaces, maps, wideKeys, modest, calm, conditions, laid).
  DERIVED. THE GIVEN ROWS OF THIS SEAT. 4 by the template 'for every input the law returns true; each argument reads behind the call as it read before'; 0 by the template 'total and deterministic' (their statements: YthjgbnbibebigaaGreatTotals.lean).
  GIVEN WITH THE SEED: the statements are not yours to turn. If you find one false, say at which input.
  Laid BY PROGRAM, IN A SANDBOX (cutbox-rows.mjs): the forced cells as the released guide's own fill.sh prints them over the translation b407aab27615b450… (all of the seat's roots in one cut). By AI agents, Wed Nov 11 2026. No macro, syntax, notation, axiom, sorry.
-/
import Derived.Test.YthjgbnbibebigaaGreatChecked
import GoSem.Claim
import GoSem.ClaimJoined
import GoSem.ClaimMapViews
import Derived.JoinedTies
import Derived.KernelRfl
namespace Go.Proofs.YthjgbnbibebigaaGreat
/- THE CELL 'sum', in the pinned program and in every row, IS THE sha256 OF THE DUMP (.gsa) THAT YthjgbnbibebigaaGreatProg.lean LOADS. Nothing in Lean hashes anything: it is a label: what it is worth is what the hold of that sum in a sandbox is worth. -/
noncomputable def Tryz.pinned : Pinned := { name := "ythjgbnbibebigaagreat", sum := "b407aab27615b4501d77608355850dedd2dc4e2943592a91d1612d8e6e0ce2bd", checked := Tryz.checked }
namespace Rows
def none {H : Type} : Left H := { results := [], args := [] }

/-- 'blockwaylaw26.LedgerQuiet': WHATEVER THE INPUT: true; the input reads as it did. -/
def ledgerQuietSpec : ChangeSpec := { name := "ledgerQuiet", fn := fun _ => fun
  | [d] => { results := [.lit (.bool true)], args := [d] }
  | _ => none }
def ledgerQuietRow : OpenClaim := { program := "ythjgbnbibebigaagreat", sum := "b407aab27615b4501d77608355850dedd2dc4e2943592a91d1612d8e6e0ce2bd", func := "blockway/blockwaylaw26.LedgerQuiet", spec := "ledgerQuiet", unfollowed := true, recurses := true, apart := false }
def LedgerQuietSaid : Prop := ledgerQuietRow.holds Tryz.pinned (OpenSpec.ofChange ledgerQuietSpec)

/-- ITS FALSE NEIGHBOUR: 'it returns false'. Refute it at one input. -/
def ledgerQuietWrong : ChangeSpec := { name := "ledgerQuiet", fn := fun _ => fun
  | [d] => { results := [.lit (.bool false)], args := [d] }
  | _ => none }
def LedgerQuietWrongFalsely : Prop := ledgerQuietRow.holds Tryz.pinned (OpenSpec.ofChange ledgerQuietWrong)

/-- 'blockwaylaw26.LedgerCloses': WHATEVER THE INPUT: true; the input reads as it did. -/
def ledgerClosesSpec : ChangeSpec := { name := "ledgerCloses", fn := fun _ => fun
  | [d1, d2] => { results := [.lit (.bool true)], args := [d1, d2] }
  | _ => none }
def ledgerClosesRow : OpenClaim := { program := "ythjgbnbibebigaagreat", sum := "b407aab27615b4501d77608355850dedd2dc4e2943592a91d1612d8e6e0ce2bd", func := "blockway/blockwaylaw26.LedgerCloses", spec := "ledgerCloses", unfollowed := true, recurses := true, apart := false }
def LedgerClosesSaid : Prop := ledgerClosesRow.holds Tryz.pinned (OpenSpec.ofChange ledgerClosesSpec)

/-- ITS FALSE NEIGHBOUR: 'it returns false'. Refute it at one input. -/
def ledgerClosesWrong : ChangeSpec := { name := "ledgerCloses", fn := fun _ => fun
  | [d1, d2] => { results := [.lit (.bool false)], args := [d1, d2] }
  | _ => none }
def LedgerClosesWrongFalsely : Prop := ledgerClosesRow.holds Tryz.pinned (OpenSpec.ofChange ledgerClosesWrong)

/-- 'blockwaylaw26.LedgerTasks': WHATEVER THE INPUT: true; the input reads as it did. -/
def ledgerTasksSpec : ChangeSpec := { name := "ledgerTasks", fn := fun _ => fun
  | [d] => { results := [.lit (.bool true)], args := [d] }
  | _ => none }
def ledgerTasksRow : OpenClaim := { program := "ythjgbnbibebigaagreat", sum := "b407aab27615b4501d77608355850dedd2dc4e2943592a91d1612d8e6e0ce2bd", func := "blockway/blockwaylaw26.LedgerTasks", spec := "ledgerTasks", unfollowed := true, recurses := true, apart := false }
def LedgerTasksSaid : Prop := ledgerTasksRow.holds Tryz.pinned (OpenSpec.ofChange ledgerTasksSpec)

/-- ITS FALSE NEIGHBOUR: 'it returns false'. Refute it at one input. -/
def ledgerTasksWrong : ChangeSpec := { name := "ledgerTasks", fn := fun _ => fun
  | [d] => { results := [.lit (.bool false)], args := [d] }
  | _ => none }
def LedgerTasksWrongFalsely : Prop := ledgerTasksRow.holds Tryz.pinned (OpenSpec.ofChange ledgerTasksWrong)

/-- 'blockwaylaw26.LedgerFleet': WHATEVER THE INPUT: true; the input reads as it did. -/
def ledgerFleetSpec : ChangeSpec := { name := "ledgerFleet", fn := fun _ => fun
  | [d] => { results := [.lit (.bool true)], args := [d] }
  | _ => none }
def ledgerFleetRow : OpenClaim := { program := "ythjgbnbibebigaagreat", sum := "b407aab27615b4501d77608355850dedd2dc4e2943592a91d1612d8e6e0ce2bd", func := "blockway/blockwaylaw26.LedgerFleet", spec := "ledgerFleet", unfollowed := true, recurses := true, apart := false }
def LedgerFleetSaid : Prop := ledgerFleetRow.holds Tryz.pinned (OpenSpec.ofChange ledgerFleetSpec)

/-- ITS FALSE NEIGHBOUR: 'it returns false'. Refute it at one input. -/
def ledgerFleetWrong : ChangeSpec := { name := "ledgerFleet", fn := fun _ => fun
  | [d] => { results := [.lit (.bool false)], args := [d] }
  | _ => none }
def LedgerFleetWrongFalsely : Prop := ledgerFleetRow.holds Tryz.pinned (OpenSpec.ofChange ledgerFleetWrong)

/- THE SECOND FORM. 'bulk': how many values and letters a reading holds, each counted each time it is reached (what is shared counts as often as it is met; a slice's spare places count too). A statement '..UptoSaid' is the law's where the arguments, and the package variables that the reading takes, are together of bulk at most 1048576: NARROWER than '..Said'. Prove '..Said' where nothing that the law and all that it calls make is longer than what came in: it says more and counts as full. Else prove '..UptoSaid'. A law counts once. -/
mutual
def uptoBulk {H : Type} : DataW H → Nat
  | .lit (.string bytes) => bytes.length + 1
  | .lit _ => 1
  | .nil => 1
  | .ptr d => uptoBulk d + 1
  | .slice elems spare => uptoBulkAll elems + uptoBulkAll spare + 1
  | .agg parts => uptoBulkAll parts + 1
  | .iface _ d => uptoBulk d + 1
  | .map entries => uptoBulkEntries entries + 1
  | .held _ => 1
def uptoBulkAll {H : Type} : List (DataW H) → Nat
  | [] => 0
  | d :: r => uptoBulk d + uptoBulkAll r
def uptoBulkEntries {H : Type} : List (Lit × DataW H) → Nat
  | [] => 0
  | x :: r => uptoBulkEntry x + uptoBulkEntries r
def uptoBulkEntry {H : Type} : Lit × DataW H → Nat
  | (.string bytes, d) => bytes.length + uptoBulk d + 1
  | (_, d) => uptoBulk d + 1
 end
def uptoSmall : (H : Type) → List (DataW H) → Bool := fun _ ds => decide (uptoBulkAll ds ≤ 1048576)
def OpenSpec.upto (s : _root_.Go.ChangeSpec) : _root_.Go.OpenSpec := { _root_.Go.OpenSpec.ofChange s with cond := some uptoSmall }

/-- 'blockwaylaw26.LedgerQuiet', WHERE WHAT IT READS IS OF BULK AT MOST 1048576: true; the input reads as it did. -/
def ledgerQuietUptoRow : OpenClaim := { program := "ythjgbnbibebigaagreat", sum := "b407aab27615b4501d77608355850dedd2dc4e2943592a91d1612d8e6e0ce2bd", func := "blockway/blockwaylaw26.LedgerQuiet", spec := "ledgerQuiet", unfollowed := true, recurses := true, apart := false, narrowed := true }
def LedgerQuietUptoSaid : Prop := ledgerQuietUptoRow.holds Tryz.pinned (OpenSpec.upto ledgerQuietSpec)

/-- 'blockwaylaw26.LedgerCloses', WHERE WHAT IT READS IS OF BULK AT MOST 1048576: true; the input reads as it did. -/
def ledgerClosesUptoRow : OpenClaim := { program := "ythjgbnbibebigaagreat", sum := "b407aab27615b4501d77608355850dedd2dc4e2943592a91d1612d8e6e0ce2bd", func := "blockway/blockwaylaw26.LedgerCloses", spec := "ledgerCloses", unfollowed := true, recurses := true, apart := false, narrowed := true }
def LedgerClosesUptoSaid : Prop := ledgerClosesUptoRow.holds Tryz.pinned (OpenSpec.upto ledgerClosesSpec)

/-- 'blockwaylaw26.LedgerTasks', WHERE WHAT IT READS IS OF BULK AT MOST 1048576: true; the input reads as it did. -/
def ledgerTasksUptoRow : OpenClaim := { program := "ythjgbnbibebigaagreat", sum := "b407aab27615b4501d77608355850dedd2dc4e2943592a91d1612d8e6e0ce2bd", func := "blockway/blockwaylaw26.LedgerTasks", spec := "ledgerTasks", unfollowed := true, recurses := true, apart := false, narrowed := true }
def LedgerTasksUptoSaid : Prop := ledgerTasksUptoRow.holds Tryz.pinned (OpenSpec.upto ledgerTasksSpec)

/-- 'blockwaylaw26.LedgerFleet', WHERE WHAT IT READS IS OF BULK AT MOST 1048576: true; the input reads as it did. -/
def ledgerFleetUptoRow : OpenClaim := { program := "ythjgbnbibebigaagreat", sum := "b407aab27615b4501d77608355850dedd2dc4e2943592a91d1612d8e6e0ce2bd", func := "blockway/blockwaylaw26.LedgerFleet", spec := "ledgerFleet", unfollowed := true, recurses := true, apart := false, narrowed := true }
def LedgerFleetUptoSaid : Prop := ledgerFleetUptoRow.holds Tryz.pinned (OpenSpec.upto ledgerFleetSpec)

end Rows
end Go.Proofs.YthjgbnbibebigaaGreat
