/-
  DERIVED. GIVEN WITH THE SEED: THE CARDS: each row of YthfmmememdlekaaGreatDoorRows.lean that lists a variable, with what it lists TIED to the program's text (the seventh form; the later family's looks); each row that meets fmt, with fmt's text TOLD by the authors' own Lean function (tested against real Go, not proved from fmt's source: count such statements apart). THE CARD IS WHAT COUNTS. Prove the row's statement (the work); the ties are given (YthfmmememdlekaaGreatDoorTie.lean); close each card by the builder's one call (the guide's Derived/Test/ToyasCard.lean, 'card_holds'). Laid BY PROGRAM, IN A SANDBOX (cutbox-door.mjs). By AI agents, Wed Nov 11 2026. No macro, syntax, notation, axiom, sorry.
-/
import Derived.Test.YthfmmememdlekaaGreatDoorRows
import GoSem.ClaimSeven
namespace Go.Proofs.YthfmmememdlekaaGreatDoor
namespace Rows

/-- THE TIED CARD OF 'reportescrowlaw16.FormsPrints'. -/
def formsPrintsCard : Claim7 := { stood := { row := formsPrintsRow, standIns := [], harness := (true, "bb51ef8724bfca6e606374718c362e08be38533810e96b0d65167b4131dd1940"), looks := true }, kinds := [], alts := [], laidByText := true, laidKinds := [.data, .data, .data, .sentinel, .sentinel, .listed, .data], laidTests := true, laidLooks := .later }
def FormsPrintsCardSaid : Prop := Claim7.holds Tryz.pinned (.plain (OpenSpec.ofChange formsPrintsSpec)) formsPrintsCard

/-- THE TIED CARD OF 'reportescrowlaw31.OrderMade'. -/
def orderMadeCard : Claim7 := { stood := { row := orderMadeRow, standIns := [], harness := (true, "bb51ef8724bfca6e606374718c362e08be38533810e96b0d65167b4131dd1940"), looks := true }, kinds := [], alts := [], laidByText := true, laidKinds := [.data, .data, .data, .listed, .data], laidTests := true, laidLooks := .later }
def OrderMadeCardSaid : Prop := Claim7.holds Tryz.pinned (.plain (OpenSpec.ofChange orderMadeSpec)) orderMadeCard

/-- THE TIED CARD OF 'reportescrowlaw16.FormsValid'. -/
def formsValidCard : Claim7 := { stood := { row := formsValidRow, standIns := [], harness := (true, "bb51ef8724bfca6e606374718c362e08be38533810e96b0d65167b4131dd1940"), looks := true }, kinds := [], alts := [], laidByText := true, laidKinds := [.data, .data, .data, .sentinel, .sentinel, .listed, .data], laidTests := true, laidLooks := .later }
def FormsValidCardSaid : Prop := Claim7.holds Tryz.pinned (.plain (OpenSpec.ofChange formsValidSpec)) formsValidCard

/-- THE SECOND FORM's CARD OF 'reportescrowlaw16.FormsPrints'. -/
def formsPrintsUptoCard : Claim7 := { stood := { row := formsPrintsUptoRow, standIns := [], harness := (true, "bb51ef8724bfca6e606374718c362e08be38533810e96b0d65167b4131dd1940"), looks := true }, kinds := [], alts := [], laidByText := true, laidKinds := [.data, .data, .data, .sentinel, .sentinel, .listed, .data], laidTests := true, laidLooks := .later }
def FormsPrintsUptoCardSaid : Prop := Claim7.holds Tryz.pinned (.plain (OpenSpec.upto formsPrintsSpec)) formsPrintsUptoCard

/-- THE SECOND FORM's CARD OF 'reportescrowlaw31.OrderMade'. -/
def orderMadeUptoCard : Claim7 := { stood := { row := orderMadeUptoRow, standIns := [], harness := (true, "bb51ef8724bfca6e606374718c362e08be38533810e96b0d65167b4131dd1940"), looks := true }, kinds := [], alts := [], laidByText := true, laidKinds := [.data, .data, .data, .listed, .data], laidTests := true, laidLooks := .later }
def OrderMadeUptoCardSaid : Prop := Claim7.holds Tryz.pinned (.plain (OpenSpec.upto orderMadeSpec)) orderMadeUptoCard

/-- THE SECOND FORM's CARD OF 'reportescrowlaw16.FormsValid'. -/
def formsValidUptoCard : Claim7 := { stood := { row := formsValidUptoRow, standIns := [], harness := (true, "bb51ef8724bfca6e606374718c362e08be38533810e96b0d65167b4131dd1940"), looks := true }, kinds := [], alts := [], laidByText := true, laidKinds := [.data, .data, .data, .sentinel, .sentinel, .listed, .data], laidTests := true, laidLooks := .later }
def FormsValidUptoCardSaid : Prop := Claim7.holds Tryz.pinned (.plain (OpenSpec.upto formsValidSpec)) formsValidUptoCard
end Rows
end Go.Proofs.YthfmmememdlekaaGreatDoor
