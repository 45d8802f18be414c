/-
  No cell of these rows narrows 'for every input' (looked for: loops, veiled, ifaces, maps, wideKeys, modest, calm, conditions, laid).
  DERIVED. THE GIVEN ROWS OF THIS SEAT. 12 by the template 'for every input the law returns true; each argument reads behind the call as it read before'; 0 by the template 'total and deterministic' (their statements: YtepomnooippjpaaTotals.lean).
  GIVEN WITH THE SEED: the statements are not yours to turn. If you find one false, say at which input.
  Laid BY PROGRAM, IN A SANDBOX (cutbox-rows.mjs): the forced cells as the released guide's own fill.sh prints them over the translation bc42d5053be9fe15… (all of the seat's roots in one cut). By AI agents, Wed Nov 11 2026. No macro, syntax, notation, axiom, sorry.
-/
import Derived.Test.YtepomnooippjpaaChecked
import GoSem.Claim
import GoSem.ClaimJoined
import GoSem.ClaimMapViews
import Derived.JoinedTies
import Derived.KernelRfl
namespace Go.Proofs.Ytepomnooippjpaa
/- THE CELL 'sum', in the pinned program and in every row, IS THE sha256 OF THE DUMP (.gsa) THAT YtepomnooippjpaaProg.lean LOADS. Nothing in Lean hashes anything: it is a label: what it is worth is what the hold of that sum in a sandbox is worth. -/
noncomputable def Try.pinned : Pinned := { name := "ytepomnooippjpaa", sum := "bc42d5053be9fe15ac7cbf4d040fb0506dc1f74fe47112de1c6984412766b5b3", checked := Try.checked }
namespace Rows
def none {H : Type} : Left H := { results := [], args := [] }

/-- 'blockwaylaw21.StationsCount': WHATEVER THE INPUT: true; the input reads as it did. -/
def stationsCountSpec : ChangeSpec := { name := "stationsCount", fn := fun _ => fun
  | [d1, d2, d3, d4, d5] => { results := [.lit (.bool true)], args := [d1, d2, d3, d4, d5] }
  | _ => none }
def stationsCountRow : OpenClaim := { program := "ytepomnooippjpaa", sum := "bc42d5053be9fe15ac7cbf4d040fb0506dc1f74fe47112de1c6984412766b5b3", func := "blockway/blockwaylaw21.StationsCount", spec := "stationsCount", unfollowed := true, recurses := true, apart := false }
def StationsCountSaid : Prop := stationsCountRow.holds Try.pinned (OpenSpec.ofChange stationsCountSpec)

/-- ITS FALSE NEIGHBOUR: 'it returns false'. Refute it at one input. -/
def stationsCountWrong : ChangeSpec := { name := "stationsCount", fn := fun _ => fun
  | [d1, d2, d3, d4, d5] => { results := [.lit (.bool false)], args := [d1, d2, d3, d4, d5] }
  | _ => none }
def StationsCountWrongFalsely : Prop := stationsCountRow.holds Try.pinned (OpenSpec.ofChange stationsCountWrong)

/-- 'blockwaylaw21.StationsFull': WHATEVER THE INPUT: true; the input reads as it did. -/
def stationsFullSpec : ChangeSpec := { name := "stationsFull", fn := fun _ => fun
  | [d] => { results := [.lit (.bool true)], args := [d] }
  | _ => none }
def stationsFullRow : OpenClaim := { program := "ytepomnooippjpaa", sum := "bc42d5053be9fe15ac7cbf4d040fb0506dc1f74fe47112de1c6984412766b5b3", func := "blockway/blockwaylaw21.StationsFull", spec := "stationsFull", unfollowed := true, recurses := true, apart := false }
def StationsFullSaid : Prop := stationsFullRow.holds Try.pinned (OpenSpec.ofChange stationsFullSpec)

/-- ITS FALSE NEIGHBOUR: 'it returns false'. Refute it at one input. -/
def stationsFullWrong : ChangeSpec := { name := "stationsFull", fn := fun _ => fun
  | [d] => { results := [.lit (.bool false)], args := [d] }
  | _ => none }
def StationsFullWrongFalsely : Prop := stationsFullRow.holds Try.pinned (OpenSpec.ofChange stationsFullWrong)

/-- 'blockwaylaw21.StationsLeave': WHATEVER THE INPUT: true; the input reads as it did. -/
def stationsLeaveSpec : ChangeSpec := { name := "stationsLeave", fn := fun _ => fun
  | [d1, d2, d3] => { results := [.lit (.bool true)], args := [d1, d2, d3] }
  | _ => none }
def stationsLeaveRow : OpenClaim := { program := "ytepomnooippjpaa", sum := "bc42d5053be9fe15ac7cbf4d040fb0506dc1f74fe47112de1c6984412766b5b3", func := "blockway/blockwaylaw21.StationsLeave", spec := "stationsLeave", unfollowed := true, recurses := true, apart := false }
def StationsLeaveSaid : Prop := stationsLeaveRow.holds Try.pinned (OpenSpec.ofChange stationsLeaveSpec)

/-- ITS FALSE NEIGHBOUR: 'it returns false'. Refute it at one input. -/
def stationsLeaveWrong : ChangeSpec := { name := "stationsLeave", fn := fun _ => fun
  | [d1, d2, d3] => { results := [.lit (.bool false)], args := [d1, d2, d3] }
  | _ => none }
def StationsLeaveWrongFalsely : Prop := stationsLeaveRow.holds Try.pinned (OpenSpec.ofChange stationsLeaveWrong)

/-- 'blockwaylaw17.AgentOnce': WHATEVER THE INPUT: true; the input reads as it did. -/
def agentOnceSpec : ChangeSpec := { name := "agentOnce", fn := fun _ => fun
  | [d] => { results := [.lit (.bool true)], args := [d] }
  | _ => none }
def agentOnceRow : OpenClaim := { program := "ytepomnooippjpaa", sum := "bc42d5053be9fe15ac7cbf4d040fb0506dc1f74fe47112de1c6984412766b5b3", func := "blockway/blockwaylaw17.AgentOnce", spec := "agentOnce", unfollowed := true, recurses := true, apart := false }
def AgentOnceSaid : Prop := agentOnceRow.holds Try.pinned (OpenSpec.ofChange agentOnceSpec)

/-- ITS FALSE NEIGHBOUR: 'it returns false'. Refute it at one input. -/
def agentOnceWrong : ChangeSpec := { name := "agentOnce", fn := fun _ => fun
  | [d] => { results := [.lit (.bool false)], args := [d] }
  | _ => none }
def AgentOnceWrongFalsely : Prop := agentOnceRow.holds Try.pinned (OpenSpec.ofChange agentOnceWrong)

/-- 'blockwaylaw17.AgentActs': WHATEVER THE INPUT: true; the input reads as it did. -/
def agentActsSpec : ChangeSpec := { name := "agentActs", fn := fun _ => fun
  | [d1, d2, d3, d4, d5, d6] => { results := [.lit (.bool true)], args := [d1, d2, d3, d4, d5, d6] }
  | _ => none }
def agentActsRow : OpenClaim := { program := "ytepomnooippjpaa", sum := "bc42d5053be9fe15ac7cbf4d040fb0506dc1f74fe47112de1c6984412766b5b3", func := "blockway/blockwaylaw17.AgentActs", spec := "agentActs", unfollowed := true, recurses := true, apart := false }
def AgentActsSaid : Prop := agentActsRow.holds Try.pinned (OpenSpec.ofChange agentActsSpec)

/-- ITS FALSE NEIGHBOUR: 'it returns false'. Refute it at one input. -/
def agentActsWrong : ChangeSpec := { name := "agentActs", fn := fun _ => fun
  | [d1, d2, d3, d4, d5, d6] => { results := [.lit (.bool false)], args := [d1, d2, d3, d4, d5, d6] }
  | _ => none }
def AgentActsWrongFalsely : Prop := agentActsRow.holds Try.pinned (OpenSpec.ofChange agentActsWrong)

/-- 'blockwaylaw17.AgentReports': WHATEVER THE INPUT: true; the input reads as it did. -/
def agentReportsSpec : ChangeSpec := { name := "agentReports", fn := fun _ => fun
  | [d1, d2, d3] => { results := [.lit (.bool true)], args := [d1, d2, d3] }
  | _ => none }
def agentReportsRow : OpenClaim := { program := "ytepomnooippjpaa", sum := "bc42d5053be9fe15ac7cbf4d040fb0506dc1f74fe47112de1c6984412766b5b3", func := "blockway/blockwaylaw17.AgentReports", spec := "agentReports", unfollowed := true, recurses := true, apart := false }
def AgentReportsSaid : Prop := agentReportsRow.holds Try.pinned (OpenSpec.ofChange agentReportsSpec)

/-- ITS FALSE NEIGHBOUR: 'it returns false'. Refute it at one input. -/
def agentReportsWrong : ChangeSpec := { name := "agentReports", fn := fun _ => fun
  | [d1, d2, d3] => { results := [.lit (.bool false)], args := [d1, d2, d3] }
  | _ => none }
def AgentReportsWrongFalsely : Prop := agentReportsRow.holds Try.pinned (OpenSpec.ofChange agentReportsWrong)

/-- 'blockwaylaw16.PlantMoves': WHATEVER THE INPUT: true; the input reads as it did. -/
def plantMovesSpec : ChangeSpec := { name := "plantMoves", fn := fun _ => fun
  | [d] => { results := [.lit (.bool true)], args := [d] }
  | _ => none }
def plantMovesRow : OpenClaim := { program := "ytepomnooippjpaa", sum := "bc42d5053be9fe15ac7cbf4d040fb0506dc1f74fe47112de1c6984412766b5b3", func := "blockway/blockwaylaw16.PlantMoves", spec := "plantMoves", unfollowed := true, recurses := true, apart := false }
def PlantMovesSaid : Prop := plantMovesRow.holds Try.pinned (OpenSpec.ofChange plantMovesSpec)

/-- ITS FALSE NEIGHBOUR: 'it returns false'. Refute it at one input. -/
def plantMovesWrong : ChangeSpec := { name := "plantMoves", fn := fun _ => fun
  | [d] => { results := [.lit (.bool false)], args := [d] }
  | _ => none }
def PlantMovesWrongFalsely : Prop := plantMovesRow.holds Try.pinned (OpenSpec.ofChange plantMovesWrong)

/-- 'blockwaylaw16.PlantActs': WHATEVER THE INPUT: true; the input reads as it did. -/
def plantActsSpec : ChangeSpec := { name := "plantActs", fn := fun _ => fun
  | [d1, d2, d3, d4] => { results := [.lit (.bool true)], args := [d1, d2, d3, d4] }
  | _ => none }
def plantActsRow : OpenClaim := { program := "ytepomnooippjpaa", sum := "bc42d5053be9fe15ac7cbf4d040fb0506dc1f74fe47112de1c6984412766b5b3", func := "blockway/blockwaylaw16.PlantActs", spec := "plantActs", unfollowed := true, recurses := true, apart := false }
def PlantActsSaid : Prop := plantActsRow.holds Try.pinned (OpenSpec.ofChange plantActsSpec)

/-- ITS FALSE NEIGHBOUR: 'it returns false'. Refute it at one input. -/
def plantActsWrong : ChangeSpec := { name := "plantActs", fn := fun _ => fun
  | [d1, d2, d3, d4] => { results := [.lit (.bool false)], args := [d1, d2, d3, d4] }
  | _ => none }
def PlantActsWrongFalsely : Prop := plantActsRow.holds Try.pinned (OpenSpec.ofChange plantActsWrong)

/-- 'blockwaylaw16.PlantFaulted': WHATEVER THE INPUT: true; the input reads as it did. -/
def plantFaultedSpec : ChangeSpec := { name := "plantFaulted", fn := fun _ => fun
  | [d] => { results := [.lit (.bool true)], args := [d] }
  | _ => none }
def plantFaultedRow : OpenClaim := { program := "ytepomnooippjpaa", sum := "bc42d5053be9fe15ac7cbf4d040fb0506dc1f74fe47112de1c6984412766b5b3", func := "blockway/blockwaylaw16.PlantFaulted", spec := "plantFaulted", unfollowed := true, recurses := true, apart := false }
def PlantFaultedSaid : Prop := plantFaultedRow.holds Try.pinned (OpenSpec.ofChange plantFaultedSpec)

/-- ITS FALSE NEIGHBOUR: 'it returns false'. Refute it at one input. -/
def plantFaultedWrong : ChangeSpec := { name := "plantFaulted", fn := fun _ => fun
  | [d] => { results := [.lit (.bool false)], args := [d] }
  | _ => none }
def PlantFaultedWrongFalsely : Prop := plantFaultedRow.holds Try.pinned (OpenSpec.ofChange plantFaultedWrong)

/-- 'blockwaylaw22.HomesSettle': WHATEVER THE INPUT: true; the input reads as it did. -/
def homesSettleSpec : ChangeSpec := { name := "homesSettle", fn := fun _ => fun
  | [d1, d2, d3, d4, d5, d6] => { results := [.lit (.bool true)], args := [d1, d2, d3, d4, d5, d6] }
  | _ => none }
def homesSettleRow : OpenClaim := { program := "ytepomnooippjpaa", sum := "bc42d5053be9fe15ac7cbf4d040fb0506dc1f74fe47112de1c6984412766b5b3", func := "blockway/blockwaylaw22.HomesSettle", spec := "homesSettle", recurses := true, apart := false }
def HomesSettleSaid : Prop := homesSettleRow.holds Try.pinned (OpenSpec.ofChange homesSettleSpec)

/-- ITS FALSE NEIGHBOUR: 'it returns false'. Refute it at one input. -/
def homesSettleWrong : ChangeSpec := { name := "homesSettle", fn := fun _ => fun
  | [d1, d2, d3, d4, d5, d6] => { results := [.lit (.bool false)], args := [d1, d2, d3, d4, d5, d6] }
  | _ => none }
def HomesSettleWrongFalsely : Prop := homesSettleRow.holds Try.pinned (OpenSpec.ofChange homesSettleWrong)

/-- 'blockwaylaw22.HomesStable': WHATEVER THE INPUT: true; the input reads as it did. -/
def homesStableSpec : ChangeSpec := { name := "homesStable", fn := fun _ => fun
  | [d] => { results := [.lit (.bool true)], args := [d] }
  | _ => none }
def homesStableRow : OpenClaim := { program := "ytepomnooippjpaa", sum := "bc42d5053be9fe15ac7cbf4d040fb0506dc1f74fe47112de1c6984412766b5b3", func := "blockway/blockwaylaw22.HomesStable", spec := "homesStable", recurses := true, apart := false }
def HomesStableSaid : Prop := homesStableRow.holds Try.pinned (OpenSpec.ofChange homesStableSpec)

/-- ITS FALSE NEIGHBOUR: 'it returns false'. Refute it at one input. -/
def homesStableWrong : ChangeSpec := { name := "homesStable", fn := fun _ => fun
  | [d] => { results := [.lit (.bool false)], args := [d] }
  | _ => none }
def HomesStableWrongFalsely : Prop := homesStableRow.holds Try.pinned (OpenSpec.ofChange homesStableWrong)

/-- 'blockwaylaw22.HomesEnough': WHATEVER THE INPUT: true; the input reads as it did. -/
def homesEnoughSpec : ChangeSpec := { name := "homesEnough", fn := fun _ => fun
  | [d] => { results := [.lit (.bool true)], args := [d] }
  | _ => none }
def homesEnoughRow : OpenClaim := { program := "ytepomnooippjpaa", sum := "bc42d5053be9fe15ac7cbf4d040fb0506dc1f74fe47112de1c6984412766b5b3", func := "blockway/blockwaylaw22.HomesEnough", spec := "homesEnough", recurses := true, apart := false }
def HomesEnoughSaid : Prop := homesEnoughRow.holds Try.pinned (OpenSpec.ofChange homesEnoughSpec)

/-- ITS FALSE NEIGHBOUR: 'it returns false'. Refute it at one input. -/
def homesEnoughWrong : ChangeSpec := { name := "homesEnough", fn := fun _ => fun
  | [d] => { results := [.lit (.bool false)], args := [d] }
  | _ => none }
def HomesEnoughWrongFalsely : Prop := homesEnoughRow.holds Try.pinned (OpenSpec.ofChange homesEnoughWrong)

/- THE SECOND FORM. 'bulk': how many values and letters a reading holds, each counted each time it is reached (what is shared counts as often as it is met; a slice's spare places count too). A statement '..UptoSaid' is the law's where the arguments, and the package variables that the reading takes, are together of bulk at most 1048576: NARROWER than '..Said'. Prove '..Said' where nothing that the law and all that it calls make is longer than what came in: it says more and counts as full. Else prove '..UptoSaid'. A law counts once. -/
mutual
def uptoBulk {H : Type} : DataW H → Nat
  | .lit (.string bytes) => bytes.length + 1
  | .lit _ => 1
  | .nil => 1
  | .ptr d => uptoBulk d + 1
  | .slice elems spare => uptoBulkAll elems + uptoBulkAll spare + 1
  | .agg parts => uptoBulkAll parts + 1
  | .iface _ d => uptoBulk d + 1
  | .map entries => uptoBulkEntries entries + 1
  | .held _ => 1
def uptoBulkAll {H : Type} : List (DataW H) → Nat
  | [] => 0
  | d :: r => uptoBulk d + uptoBulkAll r
def uptoBulkEntries {H : Type} : List (Lit × DataW H) → Nat
  | [] => 0
  | x :: r => uptoBulkEntry x + uptoBulkEntries r
def uptoBulkEntry {H : Type} : Lit × DataW H → Nat
  | (.string bytes, d) => bytes.length + uptoBulk d + 1
  | (_, d) => uptoBulk d + 1
 end
def uptoSmall : (H : Type) → List (DataW H) → Bool := fun _ ds => decide (uptoBulkAll ds ≤ 1048576)
def OpenSpec.upto (s : _root_.Go.ChangeSpec) : _root_.Go.OpenSpec := { _root_.Go.OpenSpec.ofChange s with cond := some uptoSmall }

/-- 'blockwaylaw21.StationsCount', WHERE WHAT IT READS IS OF BULK AT MOST 1048576: true; the input reads as it did. -/
def stationsCountUptoRow : OpenClaim := { program := "ytepomnooippjpaa", sum := "bc42d5053be9fe15ac7cbf4d040fb0506dc1f74fe47112de1c6984412766b5b3", func := "blockway/blockwaylaw21.StationsCount", spec := "stationsCount", unfollowed := true, recurses := true, apart := false, narrowed := true }
def StationsCountUptoSaid : Prop := stationsCountUptoRow.holds Try.pinned (OpenSpec.upto stationsCountSpec)

/-- 'blockwaylaw21.StationsFull', WHERE WHAT IT READS IS OF BULK AT MOST 1048576: true; the input reads as it did. -/
def stationsFullUptoRow : OpenClaim := { program := "ytepomnooippjpaa", sum := "bc42d5053be9fe15ac7cbf4d040fb0506dc1f74fe47112de1c6984412766b5b3", func := "blockway/blockwaylaw21.StationsFull", spec := "stationsFull", unfollowed := true, recurses := true, apart := false, narrowed := true }
def StationsFullUptoSaid : Prop := stationsFullUptoRow.holds Try.pinned (OpenSpec.upto stationsFullSpec)

/-- 'blockwaylaw21.StationsLeave', WHERE WHAT IT READS IS OF BULK AT MOST 1048576: true; the input reads as it did. -/
def stationsLeaveUptoRow : OpenClaim := { program := "ytepomnooippjpaa", sum := "bc42d5053be9fe15ac7cbf4d040fb0506dc1f74fe47112de1c6984412766b5b3", func := "blockway/blockwaylaw21.StationsLeave", spec := "stationsLeave", unfollowed := true, recurses := true, apart := false, narrowed := true }
def StationsLeaveUptoSaid : Prop := stationsLeaveUptoRow.holds Try.pinned (OpenSpec.upto stationsLeaveSpec)

/-- 'blockwaylaw17.AgentOnce', WHERE WHAT IT READS IS OF BULK AT MOST 1048576: true; the input reads as it did. -/
def agentOnceUptoRow : OpenClaim := { program := "ytepomnooippjpaa", sum := "bc42d5053be9fe15ac7cbf4d040fb0506dc1f74fe47112de1c6984412766b5b3", func := "blockway/blockwaylaw17.AgentOnce", spec := "agentOnce", unfollowed := true, recurses := true, apart := false, narrowed := true }
def AgentOnceUptoSaid : Prop := agentOnceUptoRow.holds Try.pinned (OpenSpec.upto agentOnceSpec)

/-- 'blockwaylaw17.AgentActs', WHERE WHAT IT READS IS OF BULK AT MOST 1048576: true; the input reads as it did. -/
def agentActsUptoRow : OpenClaim := { program := "ytepomnooippjpaa", sum := "bc42d5053be9fe15ac7cbf4d040fb0506dc1f74fe47112de1c6984412766b5b3", func := "blockway/blockwaylaw17.AgentActs", spec := "agentActs", unfollowed := true, recurses := true, apart := false, narrowed := true }
def AgentActsUptoSaid : Prop := agentActsUptoRow.holds Try.pinned (OpenSpec.upto agentActsSpec)

/-- 'blockwaylaw17.AgentReports', WHERE WHAT IT READS IS OF BULK AT MOST 1048576: true; the input reads as it did. -/
def agentReportsUptoRow : OpenClaim := { program := "ytepomnooippjpaa", sum := "bc42d5053be9fe15ac7cbf4d040fb0506dc1f74fe47112de1c6984412766b5b3", func := "blockway/blockwaylaw17.AgentReports", spec := "agentReports", unfollowed := true, recurses := true, apart := false, narrowed := true }
def AgentReportsUptoSaid : Prop := agentReportsUptoRow.holds Try.pinned (OpenSpec.upto agentReportsSpec)

/-- 'blockwaylaw16.PlantMoves', WHERE WHAT IT READS IS OF BULK AT MOST 1048576: true; the input reads as it did. -/
def plantMovesUptoRow : OpenClaim := { program := "ytepomnooippjpaa", sum := "bc42d5053be9fe15ac7cbf4d040fb0506dc1f74fe47112de1c6984412766b5b3", func := "blockway/blockwaylaw16.PlantMoves", spec := "plantMoves", unfollowed := true, recurses := true, apart := false, narrowed := true }
def PlantMovesUptoSaid : Prop := plantMovesUptoRow.holds Try.pinned (OpenSpec.upto plantMovesSpec)

/-- 'blockwaylaw16.PlantActs', WHERE WHAT IT READS IS OF BULK AT MOST 1048576: true; the input reads as it did. -/
def plantActsUptoRow : OpenClaim := { program := "ytepomnooippjpaa", sum := "bc42d5053be9fe15ac7cbf4d040fb0506dc1f74fe47112de1c6984412766b5b3", func := "blockway/blockwaylaw16.PlantActs", spec := "plantActs", unfollowed := true, recurses := true, apart := false, narrowed := true }
def PlantActsUptoSaid : Prop := plantActsUptoRow.holds Try.pinned (OpenSpec.upto plantActsSpec)

/-- 'blockwaylaw16.PlantFaulted', WHERE WHAT IT READS IS OF BULK AT MOST 1048576: true; the input reads as it did. -/
def plantFaultedUptoRow : OpenClaim := { program := "ytepomnooippjpaa", sum := "bc42d5053be9fe15ac7cbf4d040fb0506dc1f74fe47112de1c6984412766b5b3", func := "blockway/blockwaylaw16.PlantFaulted", spec := "plantFaulted", unfollowed := true, recurses := true, apart := false, narrowed := true }
def PlantFaultedUptoSaid : Prop := plantFaultedUptoRow.holds Try.pinned (OpenSpec.upto plantFaultedSpec)

/-- 'blockwaylaw22.HomesSettle', WHERE WHAT IT READS IS OF BULK AT MOST 1048576: true; the input reads as it did. -/
def homesSettleUptoRow : OpenClaim := { program := "ytepomnooippjpaa", sum := "bc42d5053be9fe15ac7cbf4d040fb0506dc1f74fe47112de1c6984412766b5b3", func := "blockway/blockwaylaw22.HomesSettle", spec := "homesSettle", recurses := true, apart := false, narrowed := true }
def HomesSettleUptoSaid : Prop := homesSettleUptoRow.holds Try.pinned (OpenSpec.upto homesSettleSpec)

/-- 'blockwaylaw22.HomesStable', WHERE WHAT IT READS IS OF BULK AT MOST 1048576: true; the input reads as it did. -/
def homesStableUptoRow : OpenClaim := { program := "ytepomnooippjpaa", sum := "bc42d5053be9fe15ac7cbf4d040fb0506dc1f74fe47112de1c6984412766b5b3", func := "blockway/blockwaylaw22.HomesStable", spec := "homesStable", recurses := true, apart := false, narrowed := true }
def HomesStableUptoSaid : Prop := homesStableUptoRow.holds Try.pinned (OpenSpec.upto homesStableSpec)

/-- 'blockwaylaw22.HomesEnough', WHERE WHAT IT READS IS OF BULK AT MOST 1048576: true; the input reads as it did. -/
def homesEnoughUptoRow : OpenClaim := { program := "ytepomnooippjpaa", sum := "bc42d5053be9fe15ac7cbf4d040fb0506dc1f74fe47112de1c6984412766b5b3", func := "blockway/blockwaylaw22.HomesEnough", spec := "homesEnough", recurses := true, apart := false, narrowed := true }
def HomesEnoughUptoSaid : Prop := homesEnoughUptoRow.holds Try.pinned (OpenSpec.upto homesEnoughSpec)

end Rows
end Go.Proofs.Ytepomnooippjpaa
