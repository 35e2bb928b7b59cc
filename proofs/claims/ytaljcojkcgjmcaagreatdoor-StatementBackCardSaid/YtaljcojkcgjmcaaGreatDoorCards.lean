/-
  DERIVED. GIVEN WITH THE SEED: THE CARDS: each row of YtaljcojkcgjmcaaGreatDoorRows.lean that lists a variable, with what it lists TIED to the program's text (the seventh form; the later family's looks); each row that meets fmt, with fmt's text TOLD by the authors' own Lean function (tested against real Go, not proved from fmt's source: count such statements apart). THE CARD IS WHAT COUNTS. Prove the row's statement (the work); the ties are given (YtaljcojkcgjmcaaGreatDoorTie.lean); close each card by the builder's one call (the guide's Derived/Test/ToyasCard.lean, 'card_holds'). Laid BY PROGRAM, IN A SANDBOX (cutbox-door.mjs). By AI agents, Wed Nov 11 2026. No macro, syntax, notation, axiom, sorry.
-/
import Derived.Test.YtaljcojkcgjmcaaGreatDoorRows
import GoSem.ClaimSeven
namespace Go.Proofs.YtaljcojkcgjmcaaGreatDoor
namespace Rows

/-- THE TIED CARD OF 'reportescrowlaw18.StatementBack'. -/
def statementBackCard : Claim7 := { stood := { row := statementBackRow, standIns := [], harness := (true, "7a14179e139c6cf47e8f06d718856d93487c715a340e859148b5e63ffe270b54"), looks := true }, kinds := [], alts := [], laidByText := true, laidKinds := [.data, .data, .data, .sentinel, .sentinel], laidTests := true, laidLooks := .later }
def StatementBackCardSaid : Prop := Claim7.holds Tryz.pinned (.plain (OpenSpec.ofChange statementBackSpec)) statementBackCard

/-- THE SECOND FORM's CARD OF 'reportescrowlaw18.StatementBack'. -/
def statementBackUptoCard : Claim7 := { stood := { row := statementBackUptoRow, standIns := [], harness := (true, "7a14179e139c6cf47e8f06d718856d93487c715a340e859148b5e63ffe270b54"), looks := true }, kinds := [], alts := [], laidByText := true, laidKinds := [.data, .data, .data, .sentinel, .sentinel], laidTests := true, laidLooks := .later }
def StatementBackUptoCardSaid : Prop := Claim7.holds Tryz.pinned (.plain (OpenSpec.upto statementBackSpec)) statementBackUptoCard
end Rows
end Go.Proofs.YtaljcojkcgjmcaaGreatDoor
