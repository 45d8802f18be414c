/-
  No cell of these rows narrows 'for every input' (looked for: loops, veiled, ifaces, maps, wideKeys, modest, calm, conditions, laid).
  DERIVED. THE GIVEN ROWS OF THIS SEAT. 5 by the template 'for every input the law returns true; each argument reads behind the call as it read before'; 0 by the template 'total and deterministic' (their statements: YtnpmcikbnnlmkaaTotals.lean).
  GIVEN WITH THE SEED: the statements are not yours to turn. If you find one false, say at which input.
  Laid BY PROGRAM, IN A SANDBOX (cutbox-rows.mjs): the forced cells as the released guide's own fill.sh prints them over the translation 4b1a84fa57036afd… (all of the seat's roots in one cut). By AI agents, Wed Nov 11 2026. No macro, syntax, notation, axiom, sorry.
-/
import Derived.Test.YtnpmcikbnnlmkaaChecked
import GoSem.Claim
import GoSem.ClaimJoined
import GoSem.ClaimMapViews
import Derived.JoinedTies
import Derived.KernelRfl
namespace Go.Proofs.Ytnpmcikbnnlmkaa
/- THE CELL 'sum', in the pinned program and in every row, IS THE sha256 OF THE DUMP (.gsa) THAT YtnpmcikbnnlmkaaProg.lean LOADS. Nothing in Lean hashes anything: it is a label: what it is worth is what the hold of that sum in a sandbox is worth. -/
noncomputable def Try.pinned : Pinned := { name := "ytnpmcikbnnlmkaa", sum := "4b1a84fa57036afd5f14f07289e85b58f34ef3ce2fe603d3b7b88e4fb0b42764", checked := Try.checked }
namespace Rows
def none {H : Type} : Left H := { results := [], args := [] }

/-- 'blockwaylaw07.RoutesFinds': WHATEVER THE INPUT: true; the input reads as it did. -/
def routesFindsSpec : ChangeSpec := { name := "routesFinds", fn := fun _ => fun
  | [d1, d2, d3, d4] => { results := [.lit (.bool true)], args := [d1, d2, d3, d4] }
  | _ => none }
def routesFindsRow : OpenClaim := { program := "ytnpmcikbnnlmkaa", sum := "4b1a84fa57036afd5f14f07289e85b58f34ef3ce2fe603d3b7b88e4fb0b42764", func := "blockway/blockwaylaw07.RoutesFinds", spec := "routesFinds", apart := false }
def RoutesFindsSaid : Prop := routesFindsRow.holds Try.pinned (OpenSpec.ofChange routesFindsSpec)

/-- ITS FALSE NEIGHBOUR: 'it returns false'. Refute it at one input. -/
def routesFindsWrong : ChangeSpec := { name := "routesFinds", fn := fun _ => fun
  | [d1, d2, d3, d4] => { results := [.lit (.bool false)], args := [d1, d2, d3, d4] }
  | _ => none }
def RoutesFindsWrongFalsely : Prop := routesFindsRow.holds Try.pinned (OpenSpec.ofChange routesFindsWrong)

/-- 'blockwaylaw07.RoutesTriangle': WHATEVER THE INPUT: true; the input reads as it did. -/
def routesTriangleSpec : ChangeSpec := { name := "routesTriangle", fn := fun _ => fun
  | [d] => { results := [.lit (.bool true)], args := [d] }
  | _ => none }
def routesTriangleRow : OpenClaim := { program := "ytnpmcikbnnlmkaa", sum := "4b1a84fa57036afd5f14f07289e85b58f34ef3ce2fe603d3b7b88e4fb0b42764", func := "blockway/blockwaylaw07.RoutesTriangle", spec := "routesTriangle", apart := false }
def RoutesTriangleSaid : Prop := routesTriangleRow.holds Try.pinned (OpenSpec.ofChange routesTriangleSpec)

/-- ITS FALSE NEIGHBOUR: 'it returns false'. Refute it at one input. -/
def routesTriangleWrong : ChangeSpec := { name := "routesTriangle", fn := fun _ => fun
  | [d] => { results := [.lit (.bool false)], args := [d] }
  | _ => none }
def RoutesTriangleWrongFalsely : Prop := routesTriangleRow.holds Try.pinned (OpenSpec.ofChange routesTriangleWrong)

/-- 'blockwaylaw07.RoutesShut': WHATEVER THE INPUT: true; the input reads as it did. -/
def routesShutSpec : ChangeSpec := { name := "routesShut", fn := fun _ => fun
  | [d] => { results := [.lit (.bool true)], args := [d] }
  | _ => none }
def routesShutRow : OpenClaim := { program := "ytnpmcikbnnlmkaa", sum := "4b1a84fa57036afd5f14f07289e85b58f34ef3ce2fe603d3b7b88e4fb0b42764", func := "blockway/blockwaylaw07.RoutesShut", spec := "routesShut", apart := false }
def RoutesShutSaid : Prop := routesShutRow.holds Try.pinned (OpenSpec.ofChange routesShutSpec)

/-- ITS FALSE NEIGHBOUR: 'it returns false'. Refute it at one input. -/
def routesShutWrong : ChangeSpec := { name := "routesShut", fn := fun _ => fun
  | [d] => { results := [.lit (.bool false)], args := [d] }
  | _ => none }
def RoutesShutWrongFalsely : Prop := routesShutRow.holds Try.pinned (OpenSpec.ofChange routesShutWrong)

/-- 'blockwaylaw07.RoutesPaths': WHATEVER THE INPUT: true; the input reads as it did. -/
def routesPathsSpec : ChangeSpec := { name := "routesPaths", fn := fun _ => fun
  | [d] => { results := [.lit (.bool true)], args := [d] }
  | _ => none }
def routesPathsRow : OpenClaim := { program := "ytnpmcikbnnlmkaa", sum := "4b1a84fa57036afd5f14f07289e85b58f34ef3ce2fe603d3b7b88e4fb0b42764", func := "blockway/blockwaylaw07.RoutesPaths", spec := "routesPaths", apart := false }
def RoutesPathsSaid : Prop := routesPathsRow.holds Try.pinned (OpenSpec.ofChange routesPathsSpec)

/-- ITS FALSE NEIGHBOUR: 'it returns false'. Refute it at one input. -/
def routesPathsWrong : ChangeSpec := { name := "routesPaths", fn := fun _ => fun
  | [d] => { results := [.lit (.bool false)], args := [d] }
  | _ => none }
def RoutesPathsWrongFalsely : Prop := routesPathsRow.holds Try.pinned (OpenSpec.ofChange routesPathsWrong)

/-- 'blockwaylaw07.RoutesWalks': WHATEVER THE INPUT: true; the input reads as it did. -/
def routesWalksSpec : ChangeSpec := { name := "routesWalks", fn := fun _ => fun
  | [d] => { results := [.lit (.bool true)], args := [d] }
  | _ => none }
def routesWalksRow : OpenClaim := { program := "ytnpmcikbnnlmkaa", sum := "4b1a84fa57036afd5f14f07289e85b58f34ef3ce2fe603d3b7b88e4fb0b42764", func := "blockway/blockwaylaw07.RoutesWalks", spec := "routesWalks", apart := false }
def RoutesWalksSaid : Prop := routesWalksRow.holds Try.pinned (OpenSpec.ofChange routesWalksSpec)

/-- ITS FALSE NEIGHBOUR: 'it returns false'. Refute it at one input. -/
def routesWalksWrong : ChangeSpec := { name := "routesWalks", fn := fun _ => fun
  | [d] => { results := [.lit (.bool false)], args := [d] }
  | _ => none }
def RoutesWalksWrongFalsely : Prop := routesWalksRow.holds Try.pinned (OpenSpec.ofChange routesWalksWrong)

/- THE SECOND FORM. 'bulk': how many values and letters a reading holds, each counted each time it is reached (what is shared counts as often as it is met; a slice's spare places count too). A statement '..UptoSaid' is the law's where the arguments, and the package variables that the reading takes, are together of bulk at most 1048576: NARROWER than '..Said'. Prove '..Said' where nothing that the law and all that it calls make is longer than what came in: it says more and counts as full. Else prove '..UptoSaid'. A law counts once. -/
mutual
def uptoBulk {H : Type} : DataW H → Nat
  | .lit (.string bytes) => bytes.length + 1
  | .lit _ => 1
  | .nil => 1
  | .ptr d => uptoBulk d + 1
  | .slice elems spare => uptoBulkAll elems + uptoBulkAll spare + 1
  | .agg parts => uptoBulkAll parts + 1
  | .iface _ d => uptoBulk d + 1
  | .map entries => uptoBulkEntries entries + 1
  | .held _ => 1
def uptoBulkAll {H : Type} : List (DataW H) → Nat
  | [] => 0
  | d :: r => uptoBulk d + uptoBulkAll r
def uptoBulkEntries {H : Type} : List (Lit × DataW H) → Nat
  | [] => 0
  | x :: r => uptoBulkEntry x + uptoBulkEntries r
def uptoBulkEntry {H : Type} : Lit × DataW H → Nat
  | (.string bytes, d) => bytes.length + uptoBulk d + 1
  | (_, d) => uptoBulk d + 1
 end
def uptoSmall : (H : Type) → List (DataW H) → Bool := fun _ ds => decide (uptoBulkAll ds ≤ 1048576)
def OpenSpec.upto (s : _root_.Go.ChangeSpec) : _root_.Go.OpenSpec := { _root_.Go.OpenSpec.ofChange s with cond := some uptoSmall }

/-- 'blockwaylaw07.RoutesFinds', WHERE WHAT IT READS IS OF BULK AT MOST 1048576: true; the input reads as it did. -/
def routesFindsUptoRow : OpenClaim := { program := "ytnpmcikbnnlmkaa", sum := "4b1a84fa57036afd5f14f07289e85b58f34ef3ce2fe603d3b7b88e4fb0b42764", func := "blockway/blockwaylaw07.RoutesFinds", spec := "routesFinds", apart := false, narrowed := true }
def RoutesFindsUptoSaid : Prop := routesFindsUptoRow.holds Try.pinned (OpenSpec.upto routesFindsSpec)

/-- 'blockwaylaw07.RoutesTriangle', WHERE WHAT IT READS IS OF BULK AT MOST 1048576: true; the input reads as it did. -/
def routesTriangleUptoRow : OpenClaim := { program := "ytnpmcikbnnlmkaa", sum := "4b1a84fa57036afd5f14f07289e85b58f34ef3ce2fe603d3b7b88e4fb0b42764", func := "blockway/blockwaylaw07.RoutesTriangle", spec := "routesTriangle", apart := false, narrowed := true }
def RoutesTriangleUptoSaid : Prop := routesTriangleUptoRow.holds Try.pinned (OpenSpec.upto routesTriangleSpec)

/-- 'blockwaylaw07.RoutesShut', WHERE WHAT IT READS IS OF BULK AT MOST 1048576: true; the input reads as it did. -/
def routesShutUptoRow : OpenClaim := { program := "ytnpmcikbnnlmkaa", sum := "4b1a84fa57036afd5f14f07289e85b58f34ef3ce2fe603d3b7b88e4fb0b42764", func := "blockway/blockwaylaw07.RoutesShut", spec := "routesShut", apart := false, narrowed := true }
def RoutesShutUptoSaid : Prop := routesShutUptoRow.holds Try.pinned (OpenSpec.upto routesShutSpec)

/-- 'blockwaylaw07.RoutesPaths', WHERE WHAT IT READS IS OF BULK AT MOST 1048576: true; the input reads as it did. -/
def routesPathsUptoRow : OpenClaim := { program := "ytnpmcikbnnlmkaa", sum := "4b1a84fa57036afd5f14f07289e85b58f34ef3ce2fe603d3b7b88e4fb0b42764", func := "blockway/blockwaylaw07.RoutesPaths", spec := "routesPaths", apart := false, narrowed := true }
def RoutesPathsUptoSaid : Prop := routesPathsUptoRow.holds Try.pinned (OpenSpec.upto routesPathsSpec)

/-- 'blockwaylaw07.RoutesWalks', WHERE WHAT IT READS IS OF BULK AT MOST 1048576: true; the input reads as it did. -/
def routesWalksUptoRow : OpenClaim := { program := "ytnpmcikbnnlmkaa", sum := "4b1a84fa57036afd5f14f07289e85b58f34ef3ce2fe603d3b7b88e4fb0b42764", func := "blockway/blockwaylaw07.RoutesWalks", spec := "routesWalks", apart := false, narrowed := true }
def RoutesWalksUptoSaid : Prop := routesWalksUptoRow.holds Try.pinned (OpenSpec.upto routesWalksSpec)

end Rows
end Go.Proofs.Ytnpmcikbnnlmkaa
