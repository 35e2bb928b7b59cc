/-
  DERIVED. GIVEN WITH THE SEED: THE CARDS: each row of YtgdngfdeeadlnaaGreatDoorRows.lean that lists a variable, with what it lists TIED to the program's text (the seventh form; the later family's looks); each row that meets fmt, with fmt's text TOLD by the authors' own Lean function (tested against real Go, not proved from fmt's source: count such statements apart). THE CARD IS WHAT COUNTS. Prove the row's statement (the work); the ties are given (YtgdngfdeeadlnaaGreatDoorTie.lean); close each card by the builder's one call (the guide's Derived/Test/ToyasCard.lean, 'card_holds'). Laid BY PROGRAM, IN A SANDBOX (cutbox-door.mjs). By AI agents, Wed Nov 11 2026. No macro, syntax, notation, axiom, sorry.
-/
import Derived.Test.YtgdngfdeeadlnaaGreatDoorRows
import GoSem.ClaimSeven
namespace Go.Proofs.YtgdngfdeeadlnaaGreatDoor
namespace Rows

/-- THE TIED CARD OF 'reportescrowlaw18.StatementShows'. -/
def statementShowsCard : Claim7 := { stood := { row := statementShowsRow, standIns := [], harness := (true, "2cf81d6e4d361f2eaf07d7c1ed511852550362094263309e39e19da8558aa03f"), looks := true }, kinds := [], alts := [], laidByText := true, laidKinds := [.data, .data, .data, .data, .sentinel, .sentinel, .listed, .data, .pinned], laidTests := true, laidLooks := .later }
def StatementShowsCardSaid : Prop := Claim7.holds Tryz.pinned (.plain (OpenSpec.ofChange statementShowsSpec)) statementShowsCard

/-- THE TIED CARD OF 'reportescrowlaw18.StatementValues'. -/
def statementValuesCard : Claim7 := { stood := { row := statementValuesRow, standIns := [], harness := (true, "2cf81d6e4d361f2eaf07d7c1ed511852550362094263309e39e19da8558aa03f"), looks := true }, kinds := [], alts := [], laidByText := true, laidKinds := [.data, .data, .data, .data, .sentinel, .sentinel, .listed, .data, .pinned], laidTests := true, laidLooks := .later }
def StatementValuesCardSaid : Prop := Claim7.holds Tryz.pinned (.plain (OpenSpec.ofChange statementValuesSpec)) statementValuesCard

/-- THE TIED CARD OF 'reportescrowlaw18.StatementWrites'. -/
def statementWritesCard : Claim7 := { stood := { row := statementWritesRow, standIns := [], harness := (true, "2cf81d6e4d361f2eaf07d7c1ed511852550362094263309e39e19da8558aa03f"), looks := true }, kinds := [], alts := [], laidByText := true, laidKinds := [.data, .data, .data, .sentinel, .sentinel, .listed, .data], laidTests := true, laidLooks := .later }
def StatementWritesCardSaid : Prop := Claim7.holds Tryz.pinned (.plain (OpenSpec.ofChange statementWritesSpec)) statementWritesCard

/-- THE SECOND FORM's CARD OF 'reportescrowlaw18.StatementShows'. -/
def statementShowsUptoCard : Claim7 := { stood := { row := statementShowsUptoRow, standIns := [], harness := (true, "2cf81d6e4d361f2eaf07d7c1ed511852550362094263309e39e19da8558aa03f"), looks := true }, kinds := [], alts := [], laidByText := true, laidKinds := [.data, .data, .data, .data, .sentinel, .sentinel, .listed, .data, .pinned], laidTests := true, laidLooks := .later }
def StatementShowsUptoCardSaid : Prop := Claim7.holds Tryz.pinned (.plain (OpenSpec.upto statementShowsSpec)) statementShowsUptoCard

/-- THE SECOND FORM's CARD OF 'reportescrowlaw18.StatementValues'. -/
def statementValuesUptoCard : Claim7 := { stood := { row := statementValuesUptoRow, standIns := [], harness := (true, "2cf81d6e4d361f2eaf07d7c1ed511852550362094263309e39e19da8558aa03f"), looks := true }, kinds := [], alts := [], laidByText := true, laidKinds := [.data, .data, .data, .data, .sentinel, .sentinel, .listed, .data, .pinned], laidTests := true, laidLooks := .later }
def StatementValuesUptoCardSaid : Prop := Claim7.holds Tryz.pinned (.plain (OpenSpec.upto statementValuesSpec)) statementValuesUptoCard

/-- THE SECOND FORM's CARD OF 'reportescrowlaw18.StatementWrites'. -/
def statementWritesUptoCard : Claim7 := { stood := { row := statementWritesUptoRow, standIns := [], harness := (true, "2cf81d6e4d361f2eaf07d7c1ed511852550362094263309e39e19da8558aa03f"), looks := true }, kinds := [], alts := [], laidByText := true, laidKinds := [.data, .data, .data, .sentinel, .sentinel, .listed, .data], laidTests := true, laidLooks := .later }
def StatementWritesUptoCardSaid : Prop := Claim7.holds Tryz.pinned (.plain (OpenSpec.upto statementWritesSpec)) statementWritesUptoCard
end Rows
end Go.Proofs.YtgdngfdeeadlnaaGreatDoor
