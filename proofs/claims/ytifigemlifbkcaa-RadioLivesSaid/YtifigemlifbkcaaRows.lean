/-
  No cell of these rows narrows 'for every input' (looked for: loops, veiled, ifaces, maps, wideKeys, modest, calm, conditions, laid).
  DERIVED. THE GIVEN ROWS OF THIS SEAT. 6 by the template 'for every input the law returns true; each argument reads behind the call as it read before'; 0 by the template 'total and deterministic' (their statements: YtifigemlifbkcaaTotals.lean).
  GIVEN WITH THE SEED: the statements are not yours to turn. If you find one false, say at which input.
  Laid BY PROGRAM, IN A SANDBOX (cutbox-rows.mjs): the forced cells as the released guide's own fill.sh prints them over the translation 8286abc6856db478… (all of the seat's roots in one cut). By AI agents, Wed Nov 11 2026. No macro, syntax, notation, axiom, sorry.
-/
import Derived.Test.YtifigemlifbkcaaChecked
import GoSem.Claim
import GoSem.ClaimJoined
import GoSem.ClaimMapViews
import Derived.JoinedTies
import Derived.KernelRfl
namespace Go.Proofs.Ytifigemlifbkcaa
/- THE CELL 'sum', in the pinned program and in every row, IS THE sha256 OF THE DUMP (.gsa) THAT YtifigemlifbkcaaProg.lean LOADS. Nothing in Lean hashes anything: it is a label: what it is worth is what the hold of that sum in a sandbox is worth. -/
noncomputable def Try.pinned : Pinned := { name := "ytifigemlifbkcaa", sum := "8286abc6856db47886e207ab86cfade16e0889ae835bf162e15e9c4f5a0e2b25", checked := Try.checked }
namespace Rows
def none {H : Type} : Left H := { results := [], args := [] }

/-- 'blockwaylaw17.AgentOnce': WHATEVER THE INPUT: true; the input reads as it did. -/
def agentOnceSpec : ChangeSpec := { name := "agentOnce", fn := fun _ => fun
  | [d] => { results := [.lit (.bool true)], args := [d] }
  | _ => none }
def agentOnceRow : OpenClaim := { program := "ytifigemlifbkcaa", sum := "8286abc6856db47886e207ab86cfade16e0889ae835bf162e15e9c4f5a0e2b25", func := "blockway/blockwaylaw17.AgentOnce", spec := "agentOnce", unfollowed := true, recurses := true, apart := false }
def AgentOnceSaid : Prop := agentOnceRow.holds Try.pinned (OpenSpec.ofChange agentOnceSpec)

/-- ITS FALSE NEIGHBOUR: 'it returns false'. Refute it at one input. -/
def agentOnceWrong : ChangeSpec := { name := "agentOnce", fn := fun _ => fun
  | [d] => { results := [.lit (.bool false)], args := [d] }
  | _ => none }
def AgentOnceWrongFalsely : Prop := agentOnceRow.holds Try.pinned (OpenSpec.ofChange agentOnceWrong)

/-- 'blockwaylaw17.AgentActs': WHATEVER THE INPUT: true; the input reads as it did. -/
def agentActsSpec : ChangeSpec := { name := "agentActs", fn := fun _ => fun
  | [d1, d2, d3, d4, d5, d6] => { results := [.lit (.bool true)], args := [d1, d2, d3, d4, d5, d6] }
  | _ => none }
def agentActsRow : OpenClaim := { program := "ytifigemlifbkcaa", sum := "8286abc6856db47886e207ab86cfade16e0889ae835bf162e15e9c4f5a0e2b25", func := "blockway/blockwaylaw17.AgentActs", spec := "agentActs", unfollowed := true, recurses := true, apart := false }
def AgentActsSaid : Prop := agentActsRow.holds Try.pinned (OpenSpec.ofChange agentActsSpec)

/-- ITS FALSE NEIGHBOUR: 'it returns false'. Refute it at one input. -/
def agentActsWrong : ChangeSpec := { name := "agentActs", fn := fun _ => fun
  | [d1, d2, d3, d4, d5, d6] => { results := [.lit (.bool false)], args := [d1, d2, d3, d4, d5, d6] }
  | _ => none }
def AgentActsWrongFalsely : Prop := agentActsRow.holds Try.pinned (OpenSpec.ofChange agentActsWrong)

/-- 'blockwaylaw17.AgentReports': WHATEVER THE INPUT: true; the input reads as it did. -/
def agentReportsSpec : ChangeSpec := { name := "agentReports", fn := fun _ => fun
  | [d1, d2, d3] => { results := [.lit (.bool true)], args := [d1, d2, d3] }
  | _ => none }
def agentReportsRow : OpenClaim := { program := "ytifigemlifbkcaa", sum := "8286abc6856db47886e207ab86cfade16e0889ae835bf162e15e9c4f5a0e2b25", func := "blockway/blockwaylaw17.AgentReports", spec := "agentReports", unfollowed := true, recurses := true, apart := false }
def AgentReportsSaid : Prop := agentReportsRow.holds Try.pinned (OpenSpec.ofChange agentReportsSpec)

/-- ITS FALSE NEIGHBOUR: 'it returns false'. Refute it at one input. -/
def agentReportsWrong : ChangeSpec := { name := "agentReports", fn := fun _ => fun
  | [d1, d2, d3] => { results := [.lit (.bool false)], args := [d1, d2, d3] }
  | _ => none }
def AgentReportsWrongFalsely : Prop := agentReportsRow.holds Try.pinned (OpenSpec.ofChange agentReportsWrong)

/-- 'blockwaylaw18.RadioOnce': WHATEVER THE INPUT: true; the input reads as it did. -/
def radioOnceSpec : ChangeSpec := { name := "radioOnce", fn := fun _ => fun
  | [d1, d2] => { results := [.lit (.bool true)], args := [d1, d2] }
  | _ => none }
def radioOnceRow : OpenClaim := { program := "ytifigemlifbkcaa", sum := "8286abc6856db47886e207ab86cfade16e0889ae835bf162e15e9c4f5a0e2b25", func := "blockway/blockwaylaw18.RadioOnce", spec := "radioOnce", unfollowed := true, recurses := true, apart := false }
def RadioOnceSaid : Prop := radioOnceRow.holds Try.pinned (OpenSpec.ofChange radioOnceSpec)

/-- ITS FALSE NEIGHBOUR: 'it returns false'. Refute it at one input. -/
def radioOnceWrong : ChangeSpec := { name := "radioOnce", fn := fun _ => fun
  | [d1, d2] => { results := [.lit (.bool false)], args := [d1, d2] }
  | _ => none }
def RadioOnceWrongFalsely : Prop := radioOnceRow.holds Try.pinned (OpenSpec.ofChange radioOnceWrong)

/-- 'blockwaylaw18.RadioLives': WHATEVER THE INPUT: true; the input reads as it did. -/
def radioLivesSpec : ChangeSpec := { name := "radioLives", fn := fun _ => fun
  | [d] => { results := [.lit (.bool true)], args := [d] }
  | _ => none }
def radioLivesRow : OpenClaim := { program := "ytifigemlifbkcaa", sum := "8286abc6856db47886e207ab86cfade16e0889ae835bf162e15e9c4f5a0e2b25", func := "blockway/blockwaylaw18.RadioLives", spec := "radioLives", unfollowed := true, recurses := true, apart := false }
def RadioLivesSaid : Prop := radioLivesRow.holds Try.pinned (OpenSpec.ofChange radioLivesSpec)

/-- ITS FALSE NEIGHBOUR: 'it returns false'. Refute it at one input. -/
def radioLivesWrong : ChangeSpec := { name := "radioLives", fn := fun _ => fun
  | [d] => { results := [.lit (.bool false)], args := [d] }
  | _ => none }
def RadioLivesWrongFalsely : Prop := radioLivesRow.holds Try.pinned (OpenSpec.ofChange radioLivesWrong)

/-- 'blockwaylaw18.RadioFaulted': WHATEVER THE INPUT: true; the input reads as it did. -/
def radioFaultedSpec : ChangeSpec := { name := "radioFaulted", fn := fun _ => fun
  | [d1, d2] => { results := [.lit (.bool true)], args := [d1, d2] }
  | _ => none }
def radioFaultedRow : OpenClaim := { program := "ytifigemlifbkcaa", sum := "8286abc6856db47886e207ab86cfade16e0889ae835bf162e15e9c4f5a0e2b25", func := "blockway/blockwaylaw18.RadioFaulted", spec := "radioFaulted", unfollowed := true, recurses := true, apart := false }
def RadioFaultedSaid : Prop := radioFaultedRow.holds Try.pinned (OpenSpec.ofChange radioFaultedSpec)

/-- ITS FALSE NEIGHBOUR: 'it returns false'. Refute it at one input. -/
def radioFaultedWrong : ChangeSpec := { name := "radioFaulted", fn := fun _ => fun
  | [d1, d2] => { results := [.lit (.bool false)], args := [d1, d2] }
  | _ => none }
def RadioFaultedWrongFalsely : Prop := radioFaultedRow.holds Try.pinned (OpenSpec.ofChange radioFaultedWrong)

/- THE SECOND FORM. 'bulk': how many values and letters a reading holds, each counted each time it is reached (what is shared counts as often as it is met; a slice's spare places count too). A statement '..UptoSaid' is the law's where the arguments, and the package variables that the reading takes, are together of bulk at most 1048576: NARROWER than '..Said'. Prove '..Said' where nothing that the law and all that it calls make is longer than what came in: it says more and counts as full. Else prove '..UptoSaid'. A law counts once. -/
mutual
def uptoBulk {H : Type} : DataW H → Nat
  | .lit (.string bytes) => bytes.length + 1
  | .lit _ => 1
  | .nil => 1
  | .ptr d => uptoBulk d + 1
  | .slice elems spare => uptoBulkAll elems + uptoBulkAll spare + 1
  | .agg parts => uptoBulkAll parts + 1
  | .iface _ d => uptoBulk d + 1
  | .map entries => uptoBulkEntries entries + 1
  | .held _ => 1
def uptoBulkAll {H : Type} : List (DataW H) → Nat
  | [] => 0
  | d :: r => uptoBulk d + uptoBulkAll r
def uptoBulkEntries {H : Type} : List (Lit × DataW H) → Nat
  | [] => 0
  | x :: r => uptoBulkEntry x + uptoBulkEntries r
def uptoBulkEntry {H : Type} : Lit × DataW H → Nat
  | (.string bytes, d) => bytes.length + uptoBulk d + 1
  | (_, d) => uptoBulk d + 1
 end
def uptoSmall : (H : Type) → List (DataW H) → Bool := fun _ ds => decide (uptoBulkAll ds ≤ 1048576)
def OpenSpec.upto (s : _root_.Go.ChangeSpec) : _root_.Go.OpenSpec := { _root_.Go.OpenSpec.ofChange s with cond := some uptoSmall }

/-- 'blockwaylaw17.AgentOnce', WHERE WHAT IT READS IS OF BULK AT MOST 1048576: true; the input reads as it did. -/
def agentOnceUptoRow : OpenClaim := { program := "ytifigemlifbkcaa", sum := "8286abc6856db47886e207ab86cfade16e0889ae835bf162e15e9c4f5a0e2b25", func := "blockway/blockwaylaw17.AgentOnce", spec := "agentOnce", unfollowed := true, recurses := true, apart := false, narrowed := true }
def AgentOnceUptoSaid : Prop := agentOnceUptoRow.holds Try.pinned (OpenSpec.upto agentOnceSpec)

/-- 'blockwaylaw17.AgentActs', WHERE WHAT IT READS IS OF BULK AT MOST 1048576: true; the input reads as it did. -/
def agentActsUptoRow : OpenClaim := { program := "ytifigemlifbkcaa", sum := "8286abc6856db47886e207ab86cfade16e0889ae835bf162e15e9c4f5a0e2b25", func := "blockway/blockwaylaw17.AgentActs", spec := "agentActs", unfollowed := true, recurses := true, apart := false, narrowed := true }
def AgentActsUptoSaid : Prop := agentActsUptoRow.holds Try.pinned (OpenSpec.upto agentActsSpec)

/-- 'blockwaylaw17.AgentReports', WHERE WHAT IT READS IS OF BULK AT MOST 1048576: true; the input reads as it did. -/
def agentReportsUptoRow : OpenClaim := { program := "ytifigemlifbkcaa", sum := "8286abc6856db47886e207ab86cfade16e0889ae835bf162e15e9c4f5a0e2b25", func := "blockway/blockwaylaw17.AgentReports", spec := "agentReports", unfollowed := true, recurses := true, apart := false, narrowed := true }
def AgentReportsUptoSaid : Prop := agentReportsUptoRow.holds Try.pinned (OpenSpec.upto agentReportsSpec)

/-- 'blockwaylaw18.RadioOnce', WHERE WHAT IT READS IS OF BULK AT MOST 1048576: true; the input reads as it did. -/
def radioOnceUptoRow : OpenClaim := { program := "ytifigemlifbkcaa", sum := "8286abc6856db47886e207ab86cfade16e0889ae835bf162e15e9c4f5a0e2b25", func := "blockway/blockwaylaw18.RadioOnce", spec := "radioOnce", unfollowed := true, recurses := true, apart := false, narrowed := true }
def RadioOnceUptoSaid : Prop := radioOnceUptoRow.holds Try.pinned (OpenSpec.upto radioOnceSpec)

/-- 'blockwaylaw18.RadioLives', WHERE WHAT IT READS IS OF BULK AT MOST 1048576: true; the input reads as it did. -/
def radioLivesUptoRow : OpenClaim := { program := "ytifigemlifbkcaa", sum := "8286abc6856db47886e207ab86cfade16e0889ae835bf162e15e9c4f5a0e2b25", func := "blockway/blockwaylaw18.RadioLives", spec := "radioLives", unfollowed := true, recurses := true, apart := false, narrowed := true }
def RadioLivesUptoSaid : Prop := radioLivesUptoRow.holds Try.pinned (OpenSpec.upto radioLivesSpec)

/-- 'blockwaylaw18.RadioFaulted', WHERE WHAT IT READS IS OF BULK AT MOST 1048576: true; the input reads as it did. -/
def radioFaultedUptoRow : OpenClaim := { program := "ytifigemlifbkcaa", sum := "8286abc6856db47886e207ab86cfade16e0889ae835bf162e15e9c4f5a0e2b25", func := "blockway/blockwaylaw18.RadioFaulted", spec := "radioFaulted", unfollowed := true, recurses := true, apart := false, narrowed := true }
def RadioFaultedUptoSaid : Prop := radioFaultedUptoRow.holds Try.pinned (OpenSpec.upto radioFaultedSpec)

end Rows
end Go.Proofs.Ytifigemlifbkcaa
