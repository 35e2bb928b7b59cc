/-
  DERIVED. GIVEN WITH THE SEED: THE CARDS: each row of YthibelndhcnifaaGreatDoorRows.lean that lists a variable, with what it lists TIED to the program's text (the seventh form; the later family's looks); each row that meets fmt, with fmt's text TOLD by the authors' own Lean function (tested against real Go, not proved from fmt's source: count such statements apart). THE CARD IS WHAT COUNTS. Prove the row's statement (the work); the ties are given (YthibelndhcnifaaGreatDoorTie.lean); close each card by the builder's one call (the guide's Derived/Test/ToyasCard.lean, 'card_holds'). Laid BY PROGRAM, IN A SANDBOX (cutbox-door.mjs). By AI agents, Wed Nov 11 2026. No macro, syntax, notation, axiom, sorry.
-/
import Derived.Test.YthibelndhcnifaaGreatDoorRows
import GoSem.ClaimSeven
namespace Go.Proofs.YthibelndhcnifaaGreatDoor
namespace Rows

/-- THE TIED CARD OF 'reportescrowlaw18.StatementHides'. -/
def statementHidesCard : Claim7 := { stood := { row := statementHidesRow, standIns := [], harness := (true, "19b415ba7dcb99d619273338053d5434e3d2814abf9dc7835762e4fd6b5c162e"), looks := true }, kinds := [], alts := [], laidByText := true, laidKinds := [.data, .data, .data, .sentinel, .sentinel], laidTests := true, laidLooks := .later }
def StatementHidesCardSaid : Prop := Claim7.holds Tryz.pinned (.plain (OpenSpec.ofChange statementHidesSpec)) statementHidesCard

/-- THE SECOND FORM's CARD OF 'reportescrowlaw18.StatementHides'. -/
def statementHidesUptoCard : Claim7 := { stood := { row := statementHidesUptoRow, standIns := [], harness := (true, "19b415ba7dcb99d619273338053d5434e3d2814abf9dc7835762e4fd6b5c162e"), looks := true }, kinds := [], alts := [], laidByText := true, laidKinds := [.data, .data, .data, .sentinel, .sentinel], laidTests := true, laidLooks := .later }
def StatementHidesUptoCardSaid : Prop := Claim7.holds Tryz.pinned (.plain (OpenSpec.upto statementHidesSpec)) statementHidesUptoCard
end Rows
end Go.Proofs.YthibelndhcnifaaGreatDoor
