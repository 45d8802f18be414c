/-
  No cell of these rows narrows 'for every input' (looked for: loops, veiled, ifaces, maps, wideKeys, modest, calm, conditions, laid).
  DERIVED. THE GIVEN ROWS OF THIS SEAT. 5 by the template 'for every input the law returns true; each argument reads behind the call as it read before'; 0 by the template 'total and deterministic' (their statements: YtliflcmdhenckaaTotals.lean).
  GIVEN WITH THE SEED: the statements are not yours to turn. If you find one false, say at which input.
  Laid BY PROGRAM, IN A SANDBOX (cutbox-rows.mjs): the forced cells as the released guide's own fill.sh prints them over the translation 68c829128fe8b961… (all of the seat's roots in one cut). By AI agents, Wed Nov 11 2026. No macro, syntax, notation, axiom, sorry.
-/
import Derived.Test.YtliflcmdhenckaaChecked
import GoSem.Claim
import GoSem.ClaimJoined
import GoSem.ClaimMapViews
import Derived.JoinedTies
import Derived.KernelRfl
namespace Go.Proofs.Ytliflcmdhenckaa
/- THE CELL 'sum', in the pinned program and in every row, IS THE sha256 OF THE DUMP (.gsa) THAT YtliflcmdhenckaaProg.lean LOADS. Nothing in Lean hashes anything: it is a label: what it is worth is what the hold of that sum in a sandbox is worth. -/
noncomputable def Try.pinned : Pinned := { name := "ytliflcmdhenckaa", sum := "68c829128fe8b961fb8d14537bb33f3396cfc68a08a06ea2edfb75325c4a0fa2", checked := Try.checked }
namespace Rows
def none {H : Type} : Left H := { results := [], args := [] }

/-- 'blockwaylaw14.ChannelOrder': WHATEVER THE INPUT: true; the input reads as it did. -/
def channelOrderSpec : ChangeSpec := { name := "channelOrder", fn := fun _ => fun
  | [d1, d2] => { results := [.lit (.bool true)], args := [d1, d2] }
  | _ => none }
def channelOrderRow : OpenClaim := { program := "ytliflcmdhenckaa", sum := "68c829128fe8b961fb8d14537bb33f3396cfc68a08a06ea2edfb75325c4a0fa2", func := "blockway/blockwaylaw14.ChannelOrder", spec := "channelOrder", apart := false }
def ChannelOrderSaid : Prop := channelOrderRow.holds Try.pinned (OpenSpec.ofChange channelOrderSpec)

/-- ITS FALSE NEIGHBOUR: 'it returns false'. Refute it at one input. -/
def channelOrderWrong : ChangeSpec := { name := "channelOrder", fn := fun _ => fun
  | [d1, d2] => { results := [.lit (.bool false)], args := [d1, d2] }
  | _ => none }
def ChannelOrderWrongFalsely : Prop := channelOrderRow.holds Try.pinned (OpenSpec.ofChange channelOrderWrong)

/-- 'blockwaylaw14.ChannelKeeps': WHATEVER THE INPUT: true; the input reads as it did. -/
def channelKeepsSpec : ChangeSpec := { name := "channelKeeps", fn := fun _ => fun
  | [d] => { results := [.lit (.bool true)], args := [d] }
  | _ => none }
def channelKeepsRow : OpenClaim := { program := "ytliflcmdhenckaa", sum := "68c829128fe8b961fb8d14537bb33f3396cfc68a08a06ea2edfb75325c4a0fa2", func := "blockway/blockwaylaw14.ChannelKeeps", spec := "channelKeeps", apart := false }
def ChannelKeepsSaid : Prop := channelKeepsRow.holds Try.pinned (OpenSpec.ofChange channelKeepsSpec)

/-- ITS FALSE NEIGHBOUR: 'it returns false'. Refute it at one input. -/
def channelKeepsWrong : ChangeSpec := { name := "channelKeeps", fn := fun _ => fun
  | [d] => { results := [.lit (.bool false)], args := [d] }
  | _ => none }
def ChannelKeepsWrongFalsely : Prop := channelKeepsRow.holds Try.pinned (OpenSpec.ofChange channelKeepsWrong)

/-- 'blockwaylaw15.RegisterOffers': WHATEVER THE INPUT: true; the input reads as it did. -/
def registerOffersSpec : ChangeSpec := { name := "registerOffers", fn := fun _ => fun
  | [d1, d2, d3] => { results := [.lit (.bool true)], args := [d1, d2, d3] }
  | _ => none }
def registerOffersRow : OpenClaim := { program := "ytliflcmdhenckaa", sum := "68c829128fe8b961fb8d14537bb33f3396cfc68a08a06ea2edfb75325c4a0fa2", func := "blockway/blockwaylaw15.RegisterOffers", spec := "registerOffers", apart := false }
def RegisterOffersSaid : Prop := registerOffersRow.holds Try.pinned (OpenSpec.ofChange registerOffersSpec)

/-- ITS FALSE NEIGHBOUR: 'it returns false'. Refute it at one input. -/
def registerOffersWrong : ChangeSpec := { name := "registerOffers", fn := fun _ => fun
  | [d1, d2, d3] => { results := [.lit (.bool false)], args := [d1, d2, d3] }
  | _ => none }
def RegisterOffersWrongFalsely : Prop := registerOffersRow.holds Try.pinned (OpenSpec.ofChange registerOffersWrong)

/-- 'blockwaylaw15.RegisterRises': WHATEVER THE INPUT: true; the input reads as it did. -/
def registerRisesSpec : ChangeSpec := { name := "registerRises", fn := fun _ => fun
  | [d] => { results := [.lit (.bool true)], args := [d] }
  | _ => none }
def registerRisesRow : OpenClaim := { program := "ytliflcmdhenckaa", sum := "68c829128fe8b961fb8d14537bb33f3396cfc68a08a06ea2edfb75325c4a0fa2", func := "blockway/blockwaylaw15.RegisterRises", spec := "registerRises", apart := false }
def RegisterRisesSaid : Prop := registerRisesRow.holds Try.pinned (OpenSpec.ofChange registerRisesSpec)

/-- ITS FALSE NEIGHBOUR: 'it returns false'. Refute it at one input. -/
def registerRisesWrong : ChangeSpec := { name := "registerRises", fn := fun _ => fun
  | [d] => { results := [.lit (.bool false)], args := [d] }
  | _ => none }
def RegisterRisesWrongFalsely : Prop := registerRisesRow.holds Try.pinned (OpenSpec.ofChange registerRisesWrong)

/-- 'blockwaylaw14.ChannelSends': WHATEVER THE INPUT: true; the input reads as it did. -/
def channelSendsSpec : ChangeSpec := { name := "channelSends", fn := fun _ => fun
  | [d1, d2, d3, d4] => { results := [.lit (.bool true)], args := [d1, d2, d3, d4] }
  | _ => none }
def channelSendsRow : OpenClaim := { program := "ytliflcmdhenckaa", sum := "68c829128fe8b961fb8d14537bb33f3396cfc68a08a06ea2edfb75325c4a0fa2", func := "blockway/blockwaylaw14.ChannelSends", spec := "channelSends", apart := false }
def ChannelSendsSaid : Prop := channelSendsRow.holds Try.pinned (OpenSpec.ofChange channelSendsSpec)

/-- ITS FALSE NEIGHBOUR: 'it returns false'. Refute it at one input. -/
def channelSendsWrong : ChangeSpec := { name := "channelSends", fn := fun _ => fun
  | [d1, d2, d3, d4] => { results := [.lit (.bool false)], args := [d1, d2, d3, d4] }
  | _ => none }
def ChannelSendsWrongFalsely : Prop := channelSendsRow.holds Try.pinned (OpenSpec.ofChange channelSendsWrong)

/- THE SECOND FORM. 'bulk': how many values and letters a reading holds, each counted each time it is reached (what is shared counts as often as it is met; a slice's spare places count too). A statement '..UptoSaid' is the law's where the arguments, and the package variables that the reading takes, are together of bulk at most 1048576: NARROWER than '..Said'. Prove '..Said' where nothing that the law and all that it calls make is longer than what came in: it says more and counts as full. Else prove '..UptoSaid'. A law counts once. -/
mutual
def uptoBulk {H : Type} : DataW H → Nat
  | .lit (.string bytes) => bytes.length + 1
  | .lit _ => 1
  | .nil => 1
  | .ptr d => uptoBulk d + 1
  | .slice elems spare => uptoBulkAll elems + uptoBulkAll spare + 1
  | .agg parts => uptoBulkAll parts + 1
  | .iface _ d => uptoBulk d + 1
  | .map entries => uptoBulkEntries entries + 1
  | .held _ => 1
def uptoBulkAll {H : Type} : List (DataW H) → Nat
  | [] => 0
  | d :: r => uptoBulk d + uptoBulkAll r
def uptoBulkEntries {H : Type} : List (Lit × DataW H) → Nat
  | [] => 0
  | x :: r => uptoBulkEntry x + uptoBulkEntries r
def uptoBulkEntry {H : Type} : Lit × DataW H → Nat
  | (.string bytes, d) => bytes.length + uptoBulk d + 1
  | (_, d) => uptoBulk d + 1
 end
def uptoSmall : (H : Type) → List (DataW H) → Bool := fun _ ds => decide (uptoBulkAll ds ≤ 1048576)
def OpenSpec.upto (s : _root_.Go.ChangeSpec) : _root_.Go.OpenSpec := { _root_.Go.OpenSpec.ofChange s with cond := some uptoSmall }

/-- 'blockwaylaw14.ChannelOrder', WHERE WHAT IT READS IS OF BULK AT MOST 1048576: true; the input reads as it did. -/
def channelOrderUptoRow : OpenClaim := { program := "ytliflcmdhenckaa", sum := "68c829128fe8b961fb8d14537bb33f3396cfc68a08a06ea2edfb75325c4a0fa2", func := "blockway/blockwaylaw14.ChannelOrder", spec := "channelOrder", apart := false, narrowed := true }
def ChannelOrderUptoSaid : Prop := channelOrderUptoRow.holds Try.pinned (OpenSpec.upto channelOrderSpec)

/-- 'blockwaylaw14.ChannelKeeps', WHERE WHAT IT READS IS OF BULK AT MOST 1048576: true; the input reads as it did. -/
def channelKeepsUptoRow : OpenClaim := { program := "ytliflcmdhenckaa", sum := "68c829128fe8b961fb8d14537bb33f3396cfc68a08a06ea2edfb75325c4a0fa2", func := "blockway/blockwaylaw14.ChannelKeeps", spec := "channelKeeps", apart := false, narrowed := true }
def ChannelKeepsUptoSaid : Prop := channelKeepsUptoRow.holds Try.pinned (OpenSpec.upto channelKeepsSpec)

/-- 'blockwaylaw15.RegisterOffers', WHERE WHAT IT READS IS OF BULK AT MOST 1048576: true; the input reads as it did. -/
def registerOffersUptoRow : OpenClaim := { program := "ytliflcmdhenckaa", sum := "68c829128fe8b961fb8d14537bb33f3396cfc68a08a06ea2edfb75325c4a0fa2", func := "blockway/blockwaylaw15.RegisterOffers", spec := "registerOffers", apart := false, narrowed := true }
def RegisterOffersUptoSaid : Prop := registerOffersUptoRow.holds Try.pinned (OpenSpec.upto registerOffersSpec)

/-- 'blockwaylaw15.RegisterRises', WHERE WHAT IT READS IS OF BULK AT MOST 1048576: true; the input reads as it did. -/
def registerRisesUptoRow : OpenClaim := { program := "ytliflcmdhenckaa", sum := "68c829128fe8b961fb8d14537bb33f3396cfc68a08a06ea2edfb75325c4a0fa2", func := "blockway/blockwaylaw15.RegisterRises", spec := "registerRises", apart := false, narrowed := true }
def RegisterRisesUptoSaid : Prop := registerRisesUptoRow.holds Try.pinned (OpenSpec.upto registerRisesSpec)

/-- 'blockwaylaw14.ChannelSends', WHERE WHAT IT READS IS OF BULK AT MOST 1048576: true; the input reads as it did. -/
def channelSendsUptoRow : OpenClaim := { program := "ytliflcmdhenckaa", sum := "68c829128fe8b961fb8d14537bb33f3396cfc68a08a06ea2edfb75325c4a0fa2", func := "blockway/blockwaylaw14.ChannelSends", spec := "channelSends", apart := false, narrowed := true }
def ChannelSendsUptoSaid : Prop := channelSendsUptoRow.holds Try.pinned (OpenSpec.upto channelSendsSpec)

end Rows
end Go.Proofs.Ytliflcmdhenckaa
