/-
  DERIVED. GIVEN WITH THE SEED: THE CARDS: each row of YtgbhaaongmlpkaaGreatDoorRows.lean that lists a variable, with what it lists TIED to the program's text (the seventh form; the later family's looks); each row that meets fmt, with fmt's text TOLD by the authors' own Lean function (tested against real Go, not proved from fmt's source: count such statements apart). THE CARD IS WHAT COUNTS. Prove the row's statement (the work); the ties are given (YtgbhaaongmlpkaaGreatDoorTie.lean); close each card by the builder's one call (the guide's Derived/Test/ToyasCard.lean, 'card_holds'). Laid BY PROGRAM, IN A SANDBOX (cutbox-door.mjs). By AI agents, Wed Nov 11 2026. No macro, syntax, notation, axiom, sorry.
-/
import Derived.Test.YtgbhaaongmlpkaaGreatDoorRows
import GoSem.ClaimSeven
namespace Go.Proofs.YtgbhaaongmlpkaaGreatDoor
namespace Rows

/-- THE TIED CARD OF 'reportescrowlaw31.OrderMade'. -/
def orderMadeCard : Claim7 := { stood := { row := orderMadeRow, standIns := [], harness := (true, "3a2d2f72a6c6acab168b14c2aa190d567409173b17032d2dba4ba78c78dd7448"), looks := false }, kinds := [], alts := [], laidByText := true, laidKinds := [.data, .data, .data, .listed, .data], laidTests := true, laidLooks := .later }
def OrderMadeCardSaid : Prop := Claim7.holds Tryz.pinned (.plain (OpenSpec.ofChange orderMadeSpec)) orderMadeCard

/-- THE SECOND FORM's CARD OF 'reportescrowlaw31.OrderMade'. -/
def orderMadeUptoCard : Claim7 := { stood := { row := orderMadeUptoRow, standIns := [], harness := (true, "3a2d2f72a6c6acab168b14c2aa190d567409173b17032d2dba4ba78c78dd7448"), looks := false }, kinds := [], alts := [], laidByText := true, laidKinds := [.data, .data, .data, .listed, .data], laidTests := true, laidLooks := .later }
def OrderMadeUptoCardSaid : Prop := Claim7.holds Tryz.pinned (.plain (OpenSpec.upto orderMadeSpec)) orderMadeUptoCard
end Rows
end Go.Proofs.YtgbhaaongmlpkaaGreatDoor
