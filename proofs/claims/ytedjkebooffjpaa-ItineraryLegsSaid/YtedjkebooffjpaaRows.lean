/-
  No cell of these rows narrows 'for every input' (looked for: loops, veiled, ifaces, maps, wideKeys, modest, calm, conditions, laid).
  DERIVED. THE GIVEN ROWS OF THIS SEAT. 9 by the template 'for every input the law returns true; each argument reads behind the call as it read before'; 0 by the template 'total and deterministic' (their statements: YtedjkebooffjpaaTotals.lean).
  GIVEN WITH THE SEED: the statements are not yours to turn. If you find one false, say at which input.
  Laid BY PROGRAM, IN A SANDBOX (cutbox-rows.mjs): the forced cells as the released guide's own fill.sh prints them over the translation 4e1cc4bee201baab… (all of the seat's roots in one cut). By AI agents, Wed Nov 11 2026. No macro, syntax, notation, axiom, sorry.
-/
import Derived.Test.YtedjkebooffjpaaChecked
import GoSem.Claim
import GoSem.ClaimJoined
import GoSem.ClaimMapViews
import Derived.JoinedTies
import Derived.KernelRfl
namespace Go.Proofs.Ytedjkebooffjpaa
/- THE CELL 'sum', in the pinned program and in every row, IS THE sha256 OF THE DUMP (.gsa) THAT YtedjkebooffjpaaProg.lean LOADS. Nothing in Lean hashes anything: it is a label: what it is worth is what the hold of that sum in a sandbox is worth. -/
noncomputable def Try.pinned : Pinned := { name := "ytedjkebooffjpaa", sum := "4e1cc4bee201baabcfacc2213703c6ec98cf30140b7283d340c78f19467a3289", checked := Try.checked }
namespace Rows
def none {H : Type} : Left H := { results := [], args := [] }

/-- 'blockwaylaw20.SignalsOrder': WHATEVER THE INPUT: true; the input reads as it did. -/
def signalsOrderSpec : ChangeSpec := { name := "signalsOrder", fn := fun _ => fun
  | [d] => { results := [.lit (.bool true)], args := [d] }
  | _ => none }
def signalsOrderRow : OpenClaim := { program := "ytedjkebooffjpaa", sum := "4e1cc4bee201baabcfacc2213703c6ec98cf30140b7283d340c78f19467a3289", func := "blockway/blockwaylaw20.SignalsOrder", spec := "signalsOrder", unfollowed := true, recurses := true, apart := false }
def SignalsOrderSaid : Prop := signalsOrderRow.holds Try.pinned (OpenSpec.ofChange signalsOrderSpec)

/-- ITS FALSE NEIGHBOUR: 'it returns false'. Refute it at one input. -/
def signalsOrderWrong : ChangeSpec := { name := "signalsOrder", fn := fun _ => fun
  | [d] => { results := [.lit (.bool false)], args := [d] }
  | _ => none }
def SignalsOrderWrongFalsely : Prop := signalsOrderRow.holds Try.pinned (OpenSpec.ofChange signalsOrderWrong)

/-- 'blockwaylaw20.SignalsStates': WHATEVER THE INPUT: true; the input reads as it did. -/
def signalsStatesSpec : ChangeSpec := { name := "signalsStates", fn := fun _ => fun
  | [d] => { results := [.lit (.bool true)], args := [d] }
  | _ => none }
def signalsStatesRow : OpenClaim := { program := "ytedjkebooffjpaa", sum := "4e1cc4bee201baabcfacc2213703c6ec98cf30140b7283d340c78f19467a3289", func := "blockway/blockwaylaw20.SignalsStates", spec := "signalsStates", unfollowed := true, recurses := true, apart := false }
def SignalsStatesSaid : Prop := signalsStatesRow.holds Try.pinned (OpenSpec.ofChange signalsStatesSpec)

/-- ITS FALSE NEIGHBOUR: 'it returns false'. Refute it at one input. -/
def signalsStatesWrong : ChangeSpec := { name := "signalsStates", fn := fun _ => fun
  | [d] => { results := [.lit (.bool false)], args := [d] }
  | _ => none }
def SignalsStatesWrongFalsely : Prop := signalsStatesRow.holds Try.pinned (OpenSpec.ofChange signalsStatesWrong)

/-- 'blockwaylaw24.ItineraryAvoids': WHATEVER THE INPUT: true; the input reads as it did. -/
def itineraryAvoidsSpec : ChangeSpec := { name := "itineraryAvoids", fn := fun _ => fun
  | [d] => { results := [.lit (.bool true)], args := [d] }
  | _ => none }
def itineraryAvoidsRow : OpenClaim := { program := "ytedjkebooffjpaa", sum := "4e1cc4bee201baabcfacc2213703c6ec98cf30140b7283d340c78f19467a3289", func := "blockway/blockwaylaw24.ItineraryAvoids", spec := "itineraryAvoids", unfollowed := true, recurses := true, apart := false }
def ItineraryAvoidsSaid : Prop := itineraryAvoidsRow.holds Try.pinned (OpenSpec.ofChange itineraryAvoidsSpec)

/-- ITS FALSE NEIGHBOUR: 'it returns false'. Refute it at one input. -/
def itineraryAvoidsWrong : ChangeSpec := { name := "itineraryAvoids", fn := fun _ => fun
  | [d] => { results := [.lit (.bool false)], args := [d] }
  | _ => none }
def ItineraryAvoidsWrongFalsely : Prop := itineraryAvoidsRow.holds Try.pinned (OpenSpec.ofChange itineraryAvoidsWrong)

/-- 'blockwaylaw24.ItineraryOpen': WHATEVER THE INPUT: true; the input reads as it did. -/
def itineraryOpenSpec : ChangeSpec := { name := "itineraryOpen", fn := fun _ => fun
  | [d] => { results := [.lit (.bool true)], args := [d] }
  | _ => none }
def itineraryOpenRow : OpenClaim := { program := "ytedjkebooffjpaa", sum := "4e1cc4bee201baabcfacc2213703c6ec98cf30140b7283d340c78f19467a3289", func := "blockway/blockwaylaw24.ItineraryOpen", spec := "itineraryOpen", unfollowed := true, recurses := true, apart := false }
def ItineraryOpenSaid : Prop := itineraryOpenRow.holds Try.pinned (OpenSpec.ofChange itineraryOpenSpec)

/-- ITS FALSE NEIGHBOUR: 'it returns false'. Refute it at one input. -/
def itineraryOpenWrong : ChangeSpec := { name := "itineraryOpen", fn := fun _ => fun
  | [d] => { results := [.lit (.bool false)], args := [d] }
  | _ => none }
def ItineraryOpenWrongFalsely : Prop := itineraryOpenRow.holds Try.pinned (OpenSpec.ofChange itineraryOpenWrong)

/-- 'blockwaylaw20.SignalsActs': WHATEVER THE INPUT: true; the input reads as it did. -/
def signalsActsSpec : ChangeSpec := { name := "signalsActs", fn := fun _ => fun
  | [d1, d2, d3, d4, d5, d6, d7] => { results := [.lit (.bool true)], args := [d1, d2, d3, d4, d5, d6, d7] }
  | _ => none }
def signalsActsRow : OpenClaim := { program := "ytedjkebooffjpaa", sum := "4e1cc4bee201baabcfacc2213703c6ec98cf30140b7283d340c78f19467a3289", func := "blockway/blockwaylaw20.SignalsActs", spec := "signalsActs", unfollowed := true, recurses := true, apart := false }
def SignalsActsSaid : Prop := signalsActsRow.holds Try.pinned (OpenSpec.ofChange signalsActsSpec)

/-- ITS FALSE NEIGHBOUR: 'it returns false'. Refute it at one input. -/
def signalsActsWrong : ChangeSpec := { name := "signalsActs", fn := fun _ => fun
  | [d1, d2, d3, d4, d5, d6, d7] => { results := [.lit (.bool false)], args := [d1, d2, d3, d4, d5, d6, d7] }
  | _ => none }
def SignalsActsWrongFalsely : Prop := signalsActsRow.holds Try.pinned (OpenSpec.ofChange signalsActsWrong)

/-- 'blockwaylaw20.SignalsSound': WHATEVER THE INPUT: true; the input reads as it did. -/
def signalsSoundSpec : ChangeSpec := { name := "signalsSound", fn := fun _ => fun
  | [d] => { results := [.lit (.bool true)], args := [d] }
  | _ => none }
def signalsSoundRow : OpenClaim := { program := "ytedjkebooffjpaa", sum := "4e1cc4bee201baabcfacc2213703c6ec98cf30140b7283d340c78f19467a3289", func := "blockway/blockwaylaw20.SignalsSound", spec := "signalsSound", unfollowed := true, recurses := true, apart := false }
def SignalsSoundSaid : Prop := signalsSoundRow.holds Try.pinned (OpenSpec.ofChange signalsSoundSpec)

/-- ITS FALSE NEIGHBOUR: 'it returns false'. Refute it at one input. -/
def signalsSoundWrong : ChangeSpec := { name := "signalsSound", fn := fun _ => fun
  | [d] => { results := [.lit (.bool false)], args := [d] }
  | _ => none }
def SignalsSoundWrongFalsely : Prop := signalsSoundRow.holds Try.pinned (OpenSpec.ofChange signalsSoundWrong)

/-- 'blockwaylaw24.ItineraryFollows': WHATEVER THE INPUT: true; the input reads as it did. -/
def itineraryFollowsSpec : ChangeSpec := { name := "itineraryFollows", fn := fun _ => fun
  | [d] => { results := [.lit (.bool true)], args := [d] }
  | _ => none }
def itineraryFollowsRow : OpenClaim := { program := "ytedjkebooffjpaa", sum := "4e1cc4bee201baabcfacc2213703c6ec98cf30140b7283d340c78f19467a3289", func := "blockway/blockwaylaw24.ItineraryFollows", spec := "itineraryFollows", unfollowed := true, recurses := true, apart := false }
def ItineraryFollowsSaid : Prop := itineraryFollowsRow.holds Try.pinned (OpenSpec.ofChange itineraryFollowsSpec)

/-- ITS FALSE NEIGHBOUR: 'it returns false'. Refute it at one input. -/
def itineraryFollowsWrong : ChangeSpec := { name := "itineraryFollows", fn := fun _ => fun
  | [d] => { results := [.lit (.bool false)], args := [d] }
  | _ => none }
def ItineraryFollowsWrongFalsely : Prop := itineraryFollowsRow.holds Try.pinned (OpenSpec.ofChange itineraryFollowsWrong)

/-- 'blockwaylaw24.ItineraryLegs': WHATEVER THE INPUT: true; the input reads as it did. -/
def itineraryLegsSpec : ChangeSpec := { name := "itineraryLegs", fn := fun _ => fun
  | [d1, d2, d3, d4, d5] => { results := [.lit (.bool true)], args := [d1, d2, d3, d4, d5] }
  | _ => none }
def itineraryLegsRow : OpenClaim := { program := "ytedjkebooffjpaa", sum := "4e1cc4bee201baabcfacc2213703c6ec98cf30140b7283d340c78f19467a3289", func := "blockway/blockwaylaw24.ItineraryLegs", spec := "itineraryLegs", unfollowed := true, recurses := true, apart := false }
def ItineraryLegsSaid : Prop := itineraryLegsRow.holds Try.pinned (OpenSpec.ofChange itineraryLegsSpec)

/-- ITS FALSE NEIGHBOUR: 'it returns false'. Refute it at one input. -/
def itineraryLegsWrong : ChangeSpec := { name := "itineraryLegs", fn := fun _ => fun
  | [d1, d2, d3, d4, d5] => { results := [.lit (.bool false)], args := [d1, d2, d3, d4, d5] }
  | _ => none }
def ItineraryLegsWrongFalsely : Prop := itineraryLegsRow.holds Try.pinned (OpenSpec.ofChange itineraryLegsWrong)

/-- 'blockwaylaw24.ItineraryDetours': WHATEVER THE INPUT: true; the input reads as it did. -/
def itineraryDetoursSpec : ChangeSpec := { name := "itineraryDetours", fn := fun _ => fun
  | [d] => { results := [.lit (.bool true)], args := [d] }
  | _ => none }
def itineraryDetoursRow : OpenClaim := { program := "ytedjkebooffjpaa", sum := "4e1cc4bee201baabcfacc2213703c6ec98cf30140b7283d340c78f19467a3289", func := "blockway/blockwaylaw24.ItineraryDetours", spec := "itineraryDetours", unfollowed := true, recurses := true, apart := false }
def ItineraryDetoursSaid : Prop := itineraryDetoursRow.holds Try.pinned (OpenSpec.ofChange itineraryDetoursSpec)

/-- ITS FALSE NEIGHBOUR: 'it returns false'. Refute it at one input. -/
def itineraryDetoursWrong : ChangeSpec := { name := "itineraryDetours", fn := fun _ => fun
  | [d] => { results := [.lit (.bool false)], args := [d] }
  | _ => none }
def ItineraryDetoursWrongFalsely : Prop := itineraryDetoursRow.holds Try.pinned (OpenSpec.ofChange itineraryDetoursWrong)

/- THE SECOND FORM. 'bulk': how many values and letters a reading holds, each counted each time it is reached (what is shared counts as often as it is met; a slice's spare places count too). A statement '..UptoSaid' is the law's where the arguments, and the package variables that the reading takes, are together of bulk at most 1048576: NARROWER than '..Said'. Prove '..Said' where nothing that the law and all that it calls make is longer than what came in: it says more and counts as full. Else prove '..UptoSaid'. A law counts once. -/
mutual
def uptoBulk {H : Type} : DataW H → Nat
  | .lit (.string bytes) => bytes.length + 1
  | .lit _ => 1
  | .nil => 1
  | .ptr d => uptoBulk d + 1
  | .slice elems spare => uptoBulkAll elems + uptoBulkAll spare + 1
  | .agg parts => uptoBulkAll parts + 1
  | .iface _ d => uptoBulk d + 1
  | .map entries => uptoBulkEntries entries + 1
  | .held _ => 1
def uptoBulkAll {H : Type} : List (DataW H) → Nat
  | [] => 0
  | d :: r => uptoBulk d + uptoBulkAll r
def uptoBulkEntries {H : Type} : List (Lit × DataW H) → Nat
  | [] => 0
  | x :: r => uptoBulkEntry x + uptoBulkEntries r
def uptoBulkEntry {H : Type} : Lit × DataW H → Nat
  | (.string bytes, d) => bytes.length + uptoBulk d + 1
  | (_, d) => uptoBulk d + 1
 end
def uptoSmall : (H : Type) → List (DataW H) → Bool := fun _ ds => decide (uptoBulkAll ds ≤ 1048576)
def OpenSpec.upto (s : _root_.Go.ChangeSpec) : _root_.Go.OpenSpec := { _root_.Go.OpenSpec.ofChange s with cond := some uptoSmall }

/-- 'blockwaylaw20.SignalsOrder', WHERE WHAT IT READS IS OF BULK AT MOST 1048576: true; the input reads as it did. -/
def signalsOrderUptoRow : OpenClaim := { program := "ytedjkebooffjpaa", sum := "4e1cc4bee201baabcfacc2213703c6ec98cf30140b7283d340c78f19467a3289", func := "blockway/blockwaylaw20.SignalsOrder", spec := "signalsOrder", unfollowed := true, recurses := true, apart := false, narrowed := true }
def SignalsOrderUptoSaid : Prop := signalsOrderUptoRow.holds Try.pinned (OpenSpec.upto signalsOrderSpec)

/-- 'blockwaylaw20.SignalsStates', WHERE WHAT IT READS IS OF BULK AT MOST 1048576: true; the input reads as it did. -/
def signalsStatesUptoRow : OpenClaim := { program := "ytedjkebooffjpaa", sum := "4e1cc4bee201baabcfacc2213703c6ec98cf30140b7283d340c78f19467a3289", func := "blockway/blockwaylaw20.SignalsStates", spec := "signalsStates", unfollowed := true, recurses := true, apart := false, narrowed := true }
def SignalsStatesUptoSaid : Prop := signalsStatesUptoRow.holds Try.pinned (OpenSpec.upto signalsStatesSpec)

/-- 'blockwaylaw24.ItineraryAvoids', WHERE WHAT IT READS IS OF BULK AT MOST 1048576: true; the input reads as it did. -/
def itineraryAvoidsUptoRow : OpenClaim := { program := "ytedjkebooffjpaa", sum := "4e1cc4bee201baabcfacc2213703c6ec98cf30140b7283d340c78f19467a3289", func := "blockway/blockwaylaw24.ItineraryAvoids", spec := "itineraryAvoids", unfollowed := true, recurses := true, apart := false, narrowed := true }
def ItineraryAvoidsUptoSaid : Prop := itineraryAvoidsUptoRow.holds Try.pinned (OpenSpec.upto itineraryAvoidsSpec)

/-- 'blockwaylaw24.ItineraryOpen', WHERE WHAT IT READS IS OF BULK AT MOST 1048576: true; the input reads as it did. -/
def itineraryOpenUptoRow : OpenClaim := { program := "ytedjkebooffjpaa", sum := "4e1cc4bee201baabcfacc2213703c6ec98cf30140b7283d340c78f19467a3289", func := "blockway/blockwaylaw24.ItineraryOpen", spec := "itineraryOpen", unfollowed := true, recurses := true, apart := false, narrowed := true }
def ItineraryOpenUptoSaid : Prop := itineraryOpenUptoRow.holds Try.pinned (OpenSpec.upto itineraryOpenSpec)

/-- 'blockwaylaw20.SignalsActs', WHERE WHAT IT READS IS OF BULK AT MOST 1048576: true; the input reads as it did. -/
def signalsActsUptoRow : OpenClaim := { program := "ytedjkebooffjpaa", sum := "4e1cc4bee201baabcfacc2213703c6ec98cf30140b7283d340c78f19467a3289", func := "blockway/blockwaylaw20.SignalsActs", spec := "signalsActs", unfollowed := true, recurses := true, apart := false, narrowed := true }
def SignalsActsUptoSaid : Prop := signalsActsUptoRow.holds Try.pinned (OpenSpec.upto signalsActsSpec)

/-- 'blockwaylaw20.SignalsSound', WHERE WHAT IT READS IS OF BULK AT MOST 1048576: true; the input reads as it did. -/
def signalsSoundUptoRow : OpenClaim := { program := "ytedjkebooffjpaa", sum := "4e1cc4bee201baabcfacc2213703c6ec98cf30140b7283d340c78f19467a3289", func := "blockway/blockwaylaw20.SignalsSound", spec := "signalsSound", unfollowed := true, recurses := true, apart := false, narrowed := true }
def SignalsSoundUptoSaid : Prop := signalsSoundUptoRow.holds Try.pinned (OpenSpec.upto signalsSoundSpec)

/-- 'blockwaylaw24.ItineraryFollows', WHERE WHAT IT READS IS OF BULK AT MOST 1048576: true; the input reads as it did. -/
def itineraryFollowsUptoRow : OpenClaim := { program := "ytedjkebooffjpaa", sum := "4e1cc4bee201baabcfacc2213703c6ec98cf30140b7283d340c78f19467a3289", func := "blockway/blockwaylaw24.ItineraryFollows", spec := "itineraryFollows", unfollowed := true, recurses := true, apart := false, narrowed := true }
def ItineraryFollowsUptoSaid : Prop := itineraryFollowsUptoRow.holds Try.pinned (OpenSpec.upto itineraryFollowsSpec)

/-- 'blockwaylaw24.ItineraryLegs', WHERE WHAT IT READS IS OF BULK AT MOST 1048576: true; the input reads as it did. -/
def itineraryLegsUptoRow : OpenClaim := { program := "ytedjkebooffjpaa", sum := "4e1cc4bee201baabcfacc2213703c6ec98cf30140b7283d340c78f19467a3289", func := "blockway/blockwaylaw24.ItineraryLegs", spec := "itineraryLegs", unfollowed := true, recurses := true, apart := false, narrowed := true }
def ItineraryLegsUptoSaid : Prop := itineraryLegsUptoRow.holds Try.pinned (OpenSpec.upto itineraryLegsSpec)

/-- 'blockwaylaw24.ItineraryDetours', WHERE WHAT IT READS IS OF BULK AT MOST 1048576: true; the input reads as it did. -/
def itineraryDetoursUptoRow : OpenClaim := { program := "ytedjkebooffjpaa", sum := "4e1cc4bee201baabcfacc2213703c6ec98cf30140b7283d340c78f19467a3289", func := "blockway/blockwaylaw24.ItineraryDetours", spec := "itineraryDetours", unfollowed := true, recurses := true, apart := false, narrowed := true }
def ItineraryDetoursUptoSaid : Prop := itineraryDetoursUptoRow.holds Try.pinned (OpenSpec.upto itineraryDetoursSpec)

end Rows
end Go.Proofs.Ytedjkebooffjpaa
