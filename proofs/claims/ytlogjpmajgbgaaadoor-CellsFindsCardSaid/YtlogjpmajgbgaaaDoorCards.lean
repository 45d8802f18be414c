/-
  DERIVED. GIVEN WITH THE SEED: THE CARDS: each row of YtlogjpmajgbgaaaDoorRows.lean that lists a variable, with what it lists TIED to the program's text (the seventh form; the later family's looks); each row that meets fmt, with fmt's text TOLD by the authors' own Lean function (tested against real Go, not proved from fmt's source: count such statements apart). THE CARD IS WHAT COUNTS. Prove the row's statement (the work); the ties are given (YtlogjpmajgbgaaaDoorTie.lean); close each card by the builder's one call (the guide's Derived/Test/ToyasCard.lean, 'card_holds'). Laid BY PROGRAM, IN A SANDBOX (cutbox-door.mjs). By AI agents, Wed Nov 11 2026. No macro, syntax, notation, axiom, sorry.
-/
import Derived.Test.YtlogjpmajgbgaaaDoorRows
import GoSem.ClaimSeven
namespace Go.Proofs.YtlogjpmajgbgaaaDoor
namespace Rows

/-- THE TIED CARD OF 'blockwaylaw09.CellsBlocks'. -/
def cellsBlocksCard : Claim7 := { stood := { row := cellsBlocksRow, standIns := [], harness := (true, "e620423842fc3e49d3b7816a60ad44bcab39e26f6e41d2789c8474ee16ff54e2"), looks := false }, kinds := [], alts := [], laidByText := true, laidKinds := [.data, .data, .data], laidTests := true, laidLooks := .later }
def CellsBlocksCardSaid : Prop := Claim7.holds Tryd.pinned (.plain (OpenSpec.ofChange cellsBlocksSpec)) cellsBlocksCard

/-- THE TIED CARD OF 'blockwaylaw09.CellsNames'. -/
def cellsNamesCard : Claim7 := { stood := { row := cellsNamesRow, standIns := [], harness := (true, "e620423842fc3e49d3b7816a60ad44bcab39e26f6e41d2789c8474ee16ff54e2"), looks := false }, kinds := [], alts := [], laidByText := true, laidKinds := [.data, .data, .data], laidTests := true, laidLooks := .later }
def CellsNamesCardSaid : Prop := Claim7.holds Tryd.pinned (.plain (OpenSpec.ofChange cellsNamesSpec)) cellsNamesCard

/-- THE TIED CARD OF 'blockwaylaw09.CellsChains'. -/
def cellsChainsCard : Claim7 := { stood := { row := cellsChainsRow, standIns := [], harness := (true, "e620423842fc3e49d3b7816a60ad44bcab39e26f6e41d2789c8474ee16ff54e2"), looks := false }, kinds := [], alts := [], laidByText := true, laidKinds := [.data, .data, .data], laidTests := true, laidLooks := .later }
def CellsChainsCardSaid : Prop := Claim7.holds Tryd.pinned (.plain (OpenSpec.ofChange cellsChainsSpec)) cellsChainsCard

/-- THE TIED CARD OF 'blockwaylaw09.CellsOpen'. -/
def cellsOpenCard : Claim7 := { stood := { row := cellsOpenRow, standIns := [], harness := (true, "e620423842fc3e49d3b7816a60ad44bcab39e26f6e41d2789c8474ee16ff54e2"), looks := false }, kinds := [], alts := [], laidByText := true, laidKinds := [.data, .data, .data], laidTests := true, laidLooks := .later }
def CellsOpenCardSaid : Prop := Claim7.holds Tryd.pinned (.plain (OpenSpec.ofChange cellsOpenSpec)) cellsOpenCard

/-- THE TIED CARD OF 'blockwaylaw09.CellsFinds'. -/
def cellsFindsCard : Claim7 := { stood := { row := cellsFindsRow, standIns := [], harness := (true, "e620423842fc3e49d3b7816a60ad44bcab39e26f6e41d2789c8474ee16ff54e2"), looks := false }, kinds := [], alts := [], laidByText := true, laidKinds := [.data, .data, .data], laidTests := true, laidLooks := .later }
def CellsFindsCardSaid : Prop := Claim7.holds Tryd.pinned (.plain (OpenSpec.ofChange cellsFindsSpec)) cellsFindsCard

/-- THE SECOND FORM's CARD OF 'blockwaylaw09.CellsBlocks'. -/
def cellsBlocksUptoCard : Claim7 := { stood := { row := cellsBlocksUptoRow, standIns := [], harness := (true, "e620423842fc3e49d3b7816a60ad44bcab39e26f6e41d2789c8474ee16ff54e2"), looks := false }, kinds := [], alts := [], laidByText := true, laidKinds := [.data, .data, .data], laidTests := true, laidLooks := .later }
def CellsBlocksUptoCardSaid : Prop := Claim7.holds Tryd.pinned (.plain (OpenSpec.upto cellsBlocksSpec)) cellsBlocksUptoCard

/-- THE SECOND FORM's CARD OF 'blockwaylaw09.CellsNames'. -/
def cellsNamesUptoCard : Claim7 := { stood := { row := cellsNamesUptoRow, standIns := [], harness := (true, "e620423842fc3e49d3b7816a60ad44bcab39e26f6e41d2789c8474ee16ff54e2"), looks := false }, kinds := [], alts := [], laidByText := true, laidKinds := [.data, .data, .data], laidTests := true, laidLooks := .later }
def CellsNamesUptoCardSaid : Prop := Claim7.holds Tryd.pinned (.plain (OpenSpec.upto cellsNamesSpec)) cellsNamesUptoCard

/-- THE SECOND FORM's CARD OF 'blockwaylaw09.CellsChains'. -/
def cellsChainsUptoCard : Claim7 := { stood := { row := cellsChainsUptoRow, standIns := [], harness := (true, "e620423842fc3e49d3b7816a60ad44bcab39e26f6e41d2789c8474ee16ff54e2"), looks := false }, kinds := [], alts := [], laidByText := true, laidKinds := [.data, .data, .data], laidTests := true, laidLooks := .later }
def CellsChainsUptoCardSaid : Prop := Claim7.holds Tryd.pinned (.plain (OpenSpec.upto cellsChainsSpec)) cellsChainsUptoCard

/-- THE SECOND FORM's CARD OF 'blockwaylaw09.CellsOpen'. -/
def cellsOpenUptoCard : Claim7 := { stood := { row := cellsOpenUptoRow, standIns := [], harness := (true, "e620423842fc3e49d3b7816a60ad44bcab39e26f6e41d2789c8474ee16ff54e2"), looks := false }, kinds := [], alts := [], laidByText := true, laidKinds := [.data, .data, .data], laidTests := true, laidLooks := .later }
def CellsOpenUptoCardSaid : Prop := Claim7.holds Tryd.pinned (.plain (OpenSpec.upto cellsOpenSpec)) cellsOpenUptoCard

/-- THE SECOND FORM's CARD OF 'blockwaylaw09.CellsFinds'. -/
def cellsFindsUptoCard : Claim7 := { stood := { row := cellsFindsUptoRow, standIns := [], harness := (true, "e620423842fc3e49d3b7816a60ad44bcab39e26f6e41d2789c8474ee16ff54e2"), looks := false }, kinds := [], alts := [], laidByText := true, laidKinds := [.data, .data, .data], laidTests := true, laidLooks := .later }
def CellsFindsUptoCardSaid : Prop := Claim7.holds Tryd.pinned (.plain (OpenSpec.upto cellsFindsSpec)) cellsFindsUptoCard
end Rows
end Go.Proofs.YtlogjpmajgbgaaaDoor
