/-
  No cell of these rows narrows 'for every input' (looked for: loops, veiled, ifaces, maps, wideKeys, modest, calm, conditions, laid).
  DERIVED. THE GIVEN ROWS OF THIS SEAT. 10 by the template 'for every input the law returns true; each argument reads behind the call as it read before'; 0 by the template 'total and deterministic' (their statements: YtoofpaocoogbjaaTotals.lean).
  GIVEN WITH THE SEED: the statements are not yours to turn. If you find one false, say at which input.
  Laid BY PROGRAM, IN A SANDBOX (cutbox-rows.mjs): the forced cells as the released guide's own fill.sh prints them over the translation 5e0a9b7cd81a94b6… (all of the seat's roots in one cut). By AI agents, Wed Nov 11 2026. No macro, syntax, notation, axiom, sorry.
-/
import Derived.Test.YtoofpaocoogbjaaChecked
import GoSem.Claim
import GoSem.ClaimJoined
import GoSem.ClaimMapViews
import Derived.JoinedTies
import Derived.KernelRfl
namespace Go.Proofs.Ytoofpaocoogbjaa
/- THE CELL 'sum', in the pinned program and in every row, IS THE sha256 OF THE DUMP (.gsa) THAT YtoofpaocoogbjaaProg.lean LOADS. Nothing in Lean hashes anything: it is a label: what it is worth is what the hold of that sum in a sandbox is worth. -/
noncomputable def Try.pinned : Pinned := { name := "ytoofpaocoogbjaa", sum := "5e0a9b7cd81a94b6fc68084b3ef66fc645d874d147fce453b0ac9cc2640e9d81", checked := Try.checked }
namespace Rows
def none {H : Type} : Left H := { results := [], args := [] }

/-- 'blockwaylaw16.PlantPrints': WHATEVER THE INPUT: true; the input reads as it did. -/
def plantPrintsSpec : ChangeSpec := { name := "plantPrints", fn := fun _ => fun
  | [d1, d2] => { results := [.lit (.bool true)], args := [d1, d2] }
  | _ => none }
def plantPrintsRow : OpenClaim := { program := "ytoofpaocoogbjaa", sum := "5e0a9b7cd81a94b6fc68084b3ef66fc645d874d147fce453b0ac9cc2640e9d81", func := "blockway/blockwaylaw16.PlantPrints", spec := "plantPrints", unfollowed := true, recurses := true, apart := false }
def PlantPrintsSaid : Prop := plantPrintsRow.holds Try.pinned (OpenSpec.ofChange plantPrintsSpec)

/-- ITS FALSE NEIGHBOUR: 'it returns false'. Refute it at one input. -/
def plantPrintsWrong : ChangeSpec := { name := "plantPrints", fn := fun _ => fun
  | [d1, d2] => { results := [.lit (.bool false)], args := [d1, d2] }
  | _ => none }
def PlantPrintsWrongFalsely : Prop := plantPrintsRow.holds Try.pinned (OpenSpec.ofChange plantPrintsWrong)

/-- 'blockwaylaw16.PlantMoves': WHATEVER THE INPUT: true; the input reads as it did. -/
def plantMovesSpec : ChangeSpec := { name := "plantMoves", fn := fun _ => fun
  | [d] => { results := [.lit (.bool true)], args := [d] }
  | _ => none }
def plantMovesRow : OpenClaim := { program := "ytoofpaocoogbjaa", sum := "5e0a9b7cd81a94b6fc68084b3ef66fc645d874d147fce453b0ac9cc2640e9d81", func := "blockway/blockwaylaw16.PlantMoves", spec := "plantMoves", unfollowed := true, recurses := true, apart := false }
def PlantMovesSaid : Prop := plantMovesRow.holds Try.pinned (OpenSpec.ofChange plantMovesSpec)

/-- ITS FALSE NEIGHBOUR: 'it returns false'. Refute it at one input. -/
def plantMovesWrong : ChangeSpec := { name := "plantMoves", fn := fun _ => fun
  | [d] => { results := [.lit (.bool false)], args := [d] }
  | _ => none }
def PlantMovesWrongFalsely : Prop := plantMovesRow.holds Try.pinned (OpenSpec.ofChange plantMovesWrong)

/-- 'blockwaylaw16.PlantActs': WHATEVER THE INPUT: true; the input reads as it did. -/
def plantActsSpec : ChangeSpec := { name := "plantActs", fn := fun _ => fun
  | [d1, d2, d3, d4] => { results := [.lit (.bool true)], args := [d1, d2, d3, d4] }
  | _ => none }
def plantActsRow : OpenClaim := { program := "ytoofpaocoogbjaa", sum := "5e0a9b7cd81a94b6fc68084b3ef66fc645d874d147fce453b0ac9cc2640e9d81", func := "blockway/blockwaylaw16.PlantActs", spec := "plantActs", unfollowed := true, recurses := true, apart := false }
def PlantActsSaid : Prop := plantActsRow.holds Try.pinned (OpenSpec.ofChange plantActsSpec)

/-- ITS FALSE NEIGHBOUR: 'it returns false'. Refute it at one input. -/
def plantActsWrong : ChangeSpec := { name := "plantActs", fn := fun _ => fun
  | [d1, d2, d3, d4] => { results := [.lit (.bool false)], args := [d1, d2, d3, d4] }
  | _ => none }
def PlantActsWrongFalsely : Prop := plantActsRow.holds Try.pinned (OpenSpec.ofChange plantActsWrong)

/-- 'blockwaylaw16.PlantFaulted': WHATEVER THE INPUT: true; the input reads as it did. -/
def plantFaultedSpec : ChangeSpec := { name := "plantFaulted", fn := fun _ => fun
  | [d] => { results := [.lit (.bool true)], args := [d] }
  | _ => none }
def plantFaultedRow : OpenClaim := { program := "ytoofpaocoogbjaa", sum := "5e0a9b7cd81a94b6fc68084b3ef66fc645d874d147fce453b0ac9cc2640e9d81", func := "blockway/blockwaylaw16.PlantFaulted", spec := "plantFaulted", unfollowed := true, recurses := true, apart := false }
def PlantFaultedSaid : Prop := plantFaultedRow.holds Try.pinned (OpenSpec.ofChange plantFaultedSpec)

/-- ITS FALSE NEIGHBOUR: 'it returns false'. Refute it at one input. -/
def plantFaultedWrong : ChangeSpec := { name := "plantFaulted", fn := fun _ => fun
  | [d] => { results := [.lit (.bool false)], args := [d] }
  | _ => none }
def PlantFaultedWrongFalsely : Prop := plantFaultedRow.holds Try.pinned (OpenSpec.ofChange plantFaultedWrong)

/-- 'blockwaylaw17.AgentOnce': WHATEVER THE INPUT: true; the input reads as it did. -/
def agentOnceSpec : ChangeSpec := { name := "agentOnce", fn := fun _ => fun
  | [d] => { results := [.lit (.bool true)], args := [d] }
  | _ => none }
def agentOnceRow : OpenClaim := { program := "ytoofpaocoogbjaa", sum := "5e0a9b7cd81a94b6fc68084b3ef66fc645d874d147fce453b0ac9cc2640e9d81", func := "blockway/blockwaylaw17.AgentOnce", spec := "agentOnce", unfollowed := true, recurses := true, apart := false }
def AgentOnceSaid : Prop := agentOnceRow.holds Try.pinned (OpenSpec.ofChange agentOnceSpec)

/-- ITS FALSE NEIGHBOUR: 'it returns false'. Refute it at one input. -/
def agentOnceWrong : ChangeSpec := { name := "agentOnce", fn := fun _ => fun
  | [d] => { results := [.lit (.bool false)], args := [d] }
  | _ => none }
def AgentOnceWrongFalsely : Prop := agentOnceRow.holds Try.pinned (OpenSpec.ofChange agentOnceWrong)

/-- 'blockwaylaw17.AgentActs': WHATEVER THE INPUT: true; the input reads as it did. -/
def agentActsSpec : ChangeSpec := { name := "agentActs", fn := fun _ => fun
  | [d1, d2, d3, d4, d5, d6] => { results := [.lit (.bool true)], args := [d1, d2, d3, d4, d5, d6] }
  | _ => none }
def agentActsRow : OpenClaim := { program := "ytoofpaocoogbjaa", sum := "5e0a9b7cd81a94b6fc68084b3ef66fc645d874d147fce453b0ac9cc2640e9d81", func := "blockway/blockwaylaw17.AgentActs", spec := "agentActs", unfollowed := true, recurses := true, apart := false }
def AgentActsSaid : Prop := agentActsRow.holds Try.pinned (OpenSpec.ofChange agentActsSpec)

/-- ITS FALSE NEIGHBOUR: 'it returns false'. Refute it at one input. -/
def agentActsWrong : ChangeSpec := { name := "agentActs", fn := fun _ => fun
  | [d1, d2, d3, d4, d5, d6] => { results := [.lit (.bool false)], args := [d1, d2, d3, d4, d5, d6] }
  | _ => none }
def AgentActsWrongFalsely : Prop := agentActsRow.holds Try.pinned (OpenSpec.ofChange agentActsWrong)

/-- 'blockwaylaw17.AgentReports': WHATEVER THE INPUT: true; the input reads as it did. -/
def agentReportsSpec : ChangeSpec := { name := "agentReports", fn := fun _ => fun
  | [d1, d2, d3] => { results := [.lit (.bool true)], args := [d1, d2, d3] }
  | _ => none }
def agentReportsRow : OpenClaim := { program := "ytoofpaocoogbjaa", sum := "5e0a9b7cd81a94b6fc68084b3ef66fc645d874d147fce453b0ac9cc2640e9d81", func := "blockway/blockwaylaw17.AgentReports", spec := "agentReports", unfollowed := true, recurses := true, apart := false }
def AgentReportsSaid : Prop := agentReportsRow.holds Try.pinned (OpenSpec.ofChange agentReportsSpec)

/-- ITS FALSE NEIGHBOUR: 'it returns false'. Refute it at one input. -/
def agentReportsWrong : ChangeSpec := { name := "agentReports", fn := fun _ => fun
  | [d1, d2, d3] => { results := [.lit (.bool false)], args := [d1, d2, d3] }
  | _ => none }
def AgentReportsWrongFalsely : Prop := agentReportsRow.holds Try.pinned (OpenSpec.ofChange agentReportsWrong)

/-- 'blockwaylaw18.RadioOnce': WHATEVER THE INPUT: true; the input reads as it did. -/
def radioOnceSpec : ChangeSpec := { name := "radioOnce", fn := fun _ => fun
  | [d1, d2] => { results := [.lit (.bool true)], args := [d1, d2] }
  | _ => none }
def radioOnceRow : OpenClaim := { program := "ytoofpaocoogbjaa", sum := "5e0a9b7cd81a94b6fc68084b3ef66fc645d874d147fce453b0ac9cc2640e9d81", func := "blockway/blockwaylaw18.RadioOnce", spec := "radioOnce", unfollowed := true, recurses := true, apart := false }
def RadioOnceSaid : Prop := radioOnceRow.holds Try.pinned (OpenSpec.ofChange radioOnceSpec)

/-- ITS FALSE NEIGHBOUR: 'it returns false'. Refute it at one input. -/
def radioOnceWrong : ChangeSpec := { name := "radioOnce", fn := fun _ => fun
  | [d1, d2] => { results := [.lit (.bool false)], args := [d1, d2] }
  | _ => none }
def RadioOnceWrongFalsely : Prop := radioOnceRow.holds Try.pinned (OpenSpec.ofChange radioOnceWrong)

/-- 'blockwaylaw18.RadioLives': WHATEVER THE INPUT: true; the input reads as it did. -/
def radioLivesSpec : ChangeSpec := { name := "radioLives", fn := fun _ => fun
  | [d] => { results := [.lit (.bool true)], args := [d] }
  | _ => none }
def radioLivesRow : OpenClaim := { program := "ytoofpaocoogbjaa", sum := "5e0a9b7cd81a94b6fc68084b3ef66fc645d874d147fce453b0ac9cc2640e9d81", func := "blockway/blockwaylaw18.RadioLives", spec := "radioLives", unfollowed := true, recurses := true, apart := false }
def RadioLivesSaid : Prop := radioLivesRow.holds Try.pinned (OpenSpec.ofChange radioLivesSpec)

/-- ITS FALSE NEIGHBOUR: 'it returns false'. Refute it at one input. -/
def radioLivesWrong : ChangeSpec := { name := "radioLives", fn := fun _ => fun
  | [d] => { results := [.lit (.bool false)], args := [d] }
  | _ => none }
def RadioLivesWrongFalsely : Prop := radioLivesRow.holds Try.pinned (OpenSpec.ofChange radioLivesWrong)

/-- 'blockwaylaw18.RadioFaulted': WHATEVER THE INPUT: true; the input reads as it did. -/
def radioFaultedSpec : ChangeSpec := { name := "radioFaulted", fn := fun _ => fun
  | [d1, d2] => { results := [.lit (.bool true)], args := [d1, d2] }
  | _ => none }
def radioFaultedRow : OpenClaim := { program := "ytoofpaocoogbjaa", sum := "5e0a9b7cd81a94b6fc68084b3ef66fc645d874d147fce453b0ac9cc2640e9d81", func := "blockway/blockwaylaw18.RadioFaulted", spec := "radioFaulted", unfollowed := true, recurses := true, apart := false }
def RadioFaultedSaid : Prop := radioFaultedRow.holds Try.pinned (OpenSpec.ofChange radioFaultedSpec)

/-- ITS FALSE NEIGHBOUR: 'it returns false'. Refute it at one input. -/
def radioFaultedWrong : ChangeSpec := { name := "radioFaulted", fn := fun _ => fun
  | [d1, d2] => { results := [.lit (.bool false)], args := [d1, d2] }
  | _ => none }
def RadioFaultedWrongFalsely : Prop := radioFaultedRow.holds Try.pinned (OpenSpec.ofChange radioFaultedWrong)

/- THE SECOND FORM. 'bulk': how many values and letters a reading holds, each counted each time it is reached (what is shared counts as often as it is met; a slice's spare places count too). A statement '..UptoSaid' is the law's where the arguments, and the package variables that the reading takes, are together of bulk at most 1048576: NARROWER than '..Said'. Prove '..Said' where nothing that the law and all that it calls make is longer than what came in: it says more and counts as full. Else prove '..UptoSaid'. A law counts once. -/
mutual
def uptoBulk {H : Type} : DataW H → Nat
  | .lit (.string bytes) => bytes.length + 1
  | .lit _ => 1
  | .nil => 1
  | .ptr d => uptoBulk d + 1
  | .slice elems spare => uptoBulkAll elems + uptoBulkAll spare + 1
  | .agg parts => uptoBulkAll parts + 1
  | .iface _ d => uptoBulk d + 1
  | .map entries => uptoBulkEntries entries + 1
  | .held _ => 1
def uptoBulkAll {H : Type} : List (DataW H) → Nat
  | [] => 0
  | d :: r => uptoBulk d + uptoBulkAll r
def uptoBulkEntries {H : Type} : List (Lit × DataW H) → Nat
  | [] => 0
  | x :: r => uptoBulkEntry x + uptoBulkEntries r
def uptoBulkEntry {H : Type} : Lit × DataW H → Nat
  | (.string bytes, d) => bytes.length + uptoBulk d + 1
  | (_, d) => uptoBulk d + 1
 end
def uptoSmall : (H : Type) → List (DataW H) → Bool := fun _ ds => decide (uptoBulkAll ds ≤ 1048576)
def OpenSpec.upto (s : _root_.Go.ChangeSpec) : _root_.Go.OpenSpec := { _root_.Go.OpenSpec.ofChange s with cond := some uptoSmall }

/-- 'blockwaylaw16.PlantPrints', WHERE WHAT IT READS IS OF BULK AT MOST 1048576: true; the input reads as it did. -/
def plantPrintsUptoRow : OpenClaim := { program := "ytoofpaocoogbjaa", sum := "5e0a9b7cd81a94b6fc68084b3ef66fc645d874d147fce453b0ac9cc2640e9d81", func := "blockway/blockwaylaw16.PlantPrints", spec := "plantPrints", unfollowed := true, recurses := true, apart := false, narrowed := true }
def PlantPrintsUptoSaid : Prop := plantPrintsUptoRow.holds Try.pinned (OpenSpec.upto plantPrintsSpec)

/-- 'blockwaylaw16.PlantMoves', WHERE WHAT IT READS IS OF BULK AT MOST 1048576: true; the input reads as it did. -/
def plantMovesUptoRow : OpenClaim := { program := "ytoofpaocoogbjaa", sum := "5e0a9b7cd81a94b6fc68084b3ef66fc645d874d147fce453b0ac9cc2640e9d81", func := "blockway/blockwaylaw16.PlantMoves", spec := "plantMoves", unfollowed := true, recurses := true, apart := false, narrowed := true }
def PlantMovesUptoSaid : Prop := plantMovesUptoRow.holds Try.pinned (OpenSpec.upto plantMovesSpec)

/-- 'blockwaylaw16.PlantActs', WHERE WHAT IT READS IS OF BULK AT MOST 1048576: true; the input reads as it did. -/
def plantActsUptoRow : OpenClaim := { program := "ytoofpaocoogbjaa", sum := "5e0a9b7cd81a94b6fc68084b3ef66fc645d874d147fce453b0ac9cc2640e9d81", func := "blockway/blockwaylaw16.PlantActs", spec := "plantActs", unfollowed := true, recurses := true, apart := false, narrowed := true }
def PlantActsUptoSaid : Prop := plantActsUptoRow.holds Try.pinned (OpenSpec.upto plantActsSpec)

/-- 'blockwaylaw16.PlantFaulted', WHERE WHAT IT READS IS OF BULK AT MOST 1048576: true; the input reads as it did. -/
def plantFaultedUptoRow : OpenClaim := { program := "ytoofpaocoogbjaa", sum := "5e0a9b7cd81a94b6fc68084b3ef66fc645d874d147fce453b0ac9cc2640e9d81", func := "blockway/blockwaylaw16.PlantFaulted", spec := "plantFaulted", unfollowed := true, recurses := true, apart := false, narrowed := true }
def PlantFaultedUptoSaid : Prop := plantFaultedUptoRow.holds Try.pinned (OpenSpec.upto plantFaultedSpec)

/-- 'blockwaylaw17.AgentOnce', WHERE WHAT IT READS IS OF BULK AT MOST 1048576: true; the input reads as it did. -/
def agentOnceUptoRow : OpenClaim := { program := "ytoofpaocoogbjaa", sum := "5e0a9b7cd81a94b6fc68084b3ef66fc645d874d147fce453b0ac9cc2640e9d81", func := "blockway/blockwaylaw17.AgentOnce", spec := "agentOnce", unfollowed := true, recurses := true, apart := false, narrowed := true }
def AgentOnceUptoSaid : Prop := agentOnceUptoRow.holds Try.pinned (OpenSpec.upto agentOnceSpec)

/-- 'blockwaylaw17.AgentActs', WHERE WHAT IT READS IS OF BULK AT MOST 1048576: true; the input reads as it did. -/
def agentActsUptoRow : OpenClaim := { program := "ytoofpaocoogbjaa", sum := "5e0a9b7cd81a94b6fc68084b3ef66fc645d874d147fce453b0ac9cc2640e9d81", func := "blockway/blockwaylaw17.AgentActs", spec := "agentActs", unfollowed := true, recurses := true, apart := false, narrowed := true }
def AgentActsUptoSaid : Prop := agentActsUptoRow.holds Try.pinned (OpenSpec.upto agentActsSpec)

/-- 'blockwaylaw17.AgentReports', WHERE WHAT IT READS IS OF BULK AT MOST 1048576: true; the input reads as it did. -/
def agentReportsUptoRow : OpenClaim := { program := "ytoofpaocoogbjaa", sum := "5e0a9b7cd81a94b6fc68084b3ef66fc645d874d147fce453b0ac9cc2640e9d81", func := "blockway/blockwaylaw17.AgentReports", spec := "agentReports", unfollowed := true, recurses := true, apart := false, narrowed := true }
def AgentReportsUptoSaid : Prop := agentReportsUptoRow.holds Try.pinned (OpenSpec.upto agentReportsSpec)

/-- 'blockwaylaw18.RadioOnce', WHERE WHAT IT READS IS OF BULK AT MOST 1048576: true; the input reads as it did. -/
def radioOnceUptoRow : OpenClaim := { program := "ytoofpaocoogbjaa", sum := "5e0a9b7cd81a94b6fc68084b3ef66fc645d874d147fce453b0ac9cc2640e9d81", func := "blockway/blockwaylaw18.RadioOnce", spec := "radioOnce", unfollowed := true, recurses := true, apart := false, narrowed := true }
def RadioOnceUptoSaid : Prop := radioOnceUptoRow.holds Try.pinned (OpenSpec.upto radioOnceSpec)

/-- 'blockwaylaw18.RadioLives', WHERE WHAT IT READS IS OF BULK AT MOST 1048576: true; the input reads as it did. -/
def radioLivesUptoRow : OpenClaim := { program := "ytoofpaocoogbjaa", sum := "5e0a9b7cd81a94b6fc68084b3ef66fc645d874d147fce453b0ac9cc2640e9d81", func := "blockway/blockwaylaw18.RadioLives", spec := "radioLives", unfollowed := true, recurses := true, apart := false, narrowed := true }
def RadioLivesUptoSaid : Prop := radioLivesUptoRow.holds Try.pinned (OpenSpec.upto radioLivesSpec)

/-- 'blockwaylaw18.RadioFaulted', WHERE WHAT IT READS IS OF BULK AT MOST 1048576: true; the input reads as it did. -/
def radioFaultedUptoRow : OpenClaim := { program := "ytoofpaocoogbjaa", sum := "5e0a9b7cd81a94b6fc68084b3ef66fc645d874d147fce453b0ac9cc2640e9d81", func := "blockway/blockwaylaw18.RadioFaulted", spec := "radioFaulted", unfollowed := true, recurses := true, apart := false, narrowed := true }
def RadioFaultedUptoSaid : Prop := radioFaultedUptoRow.holds Try.pinned (OpenSpec.upto radioFaultedSpec)

end Rows
end Go.Proofs.Ytoofpaocoogbjaa
