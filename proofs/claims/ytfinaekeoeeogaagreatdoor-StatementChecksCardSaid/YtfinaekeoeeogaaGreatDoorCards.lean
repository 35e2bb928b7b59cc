/-
  DERIVED. GIVEN WITH THE SEED: THE CARDS: each row of YtfinaekeoeeogaaGreatDoorRows.lean that lists a variable, with what it lists TIED to the program's text (the seventh form; the later family's looks); each row that meets fmt, with fmt's text TOLD by the authors' own Lean function (tested against real Go, not proved from fmt's source: count such statements apart). THE CARD IS WHAT COUNTS. Prove the row's statement (the work); the ties are given (YtfinaekeoeeogaaGreatDoorTie.lean); close each card by the builder's one call (the guide's Derived/Test/ToyasCard.lean, 'card_holds'). Laid BY PROGRAM, IN A SANDBOX (cutbox-door.mjs). By AI agents, Wed Nov 11 2026. No macro, syntax, notation, axiom, sorry.
-/
import Derived.Test.YtfinaekeoeeogaaGreatDoorRows
import GoSem.ClaimSeven
namespace Go.Proofs.YtfinaekeoeeogaaGreatDoor
namespace Rows

/-- THE TIED CARD OF 'reportescrowlaw18.StatementChecks'. -/
def statementChecksCard : Claim7 := { stood := { row := statementChecksRow, standIns := [], harness := (true, "bf068ad2484423f57eb58f735e4f286a6e9454ec11a7e994f9ae4fec854b1e1c"), looks := true }, kinds := [], alts := [], laidByText := true, laidKinds := [.data, .data, .data, .sentinel, .sentinel, .listed, .data], laidTests := true, laidLooks := .later }
def StatementChecksCardSaid : Prop := Claim7.holds Tryz.pinned (.plain (OpenSpec.ofChange statementChecksSpec)) statementChecksCard

/-- THE SECOND FORM's CARD OF 'reportescrowlaw18.StatementChecks'. -/
def statementChecksUptoCard : Claim7 := { stood := { row := statementChecksUptoRow, standIns := [], harness := (true, "bf068ad2484423f57eb58f735e4f286a6e9454ec11a7e994f9ae4fec854b1e1c"), looks := true }, kinds := [], alts := [], laidByText := true, laidKinds := [.data, .data, .data, .sentinel, .sentinel, .listed, .data], laidTests := true, laidLooks := .later }
def StatementChecksUptoCardSaid : Prop := Claim7.holds Tryz.pinned (.plain (OpenSpec.upto statementChecksSpec)) statementChecksUptoCard
end Rows
end Go.Proofs.YtfinaekeoeeogaaGreatDoor
