/-
  DERIVED. GIVEN WITH THE SEED: THE CARDS: each row of YtgeahbmaeaoeeaaGreatDoorRows.lean that lists a variable, with what it lists TIED to the program's text (the seventh form; the later family's looks); each row that meets fmt, with fmt's text TOLD by the authors' own Lean function (tested against real Go, not proved from fmt's source: count such statements apart). THE CARD IS WHAT COUNTS. Prove the row's statement (the work); the ties are given (YtgeahbmaeaoeeaaGreatDoorTie.lean); close each card by the builder's one call (the guide's Derived/Test/ToyasCard.lean, 'card_holds'). Laid BY PROGRAM, IN A SANDBOX (cutbox-door.mjs). By AI agents, Wed Nov 11 2026. No macro, syntax, notation, axiom, sorry.
-/
import Derived.Test.YtgeahbmaeaoeeaaGreatDoorRows
import GoSem.ClaimSeven
namespace Go.Proofs.YtgeahbmaeaoeeaaGreatDoor
namespace Rows

/-- THE TIED CARD OF 'reportescrowlaw41.PairWays'. -/
def pairWaysCard : Claim7 := { stood := { row := pairWaysRow, standIns := [], harness := (true, "0b1efb7562a72c05ffcb939cd9efd8dd187bca1c45b1f99686faec234985172a"), looks := false }, kinds := [], alts := [], laidByText := true, laidKinds := [.data, .data, .data, .data], laidTests := true, laidLooks := .later }
def PairWaysCardSaid : Prop := Claim7.holds Tryz.pinned (.plain (OpenSpec.ofChange pairWaysSpec)) pairWaysCard

/-- THE TIED CARD OF 'reportescrowlaw41.PairAlike'. -/
def pairAlikeCard : Claim7 := { stood := { row := pairAlikeRow, standIns := [], harness := (true, "0b1efb7562a72c05ffcb939cd9efd8dd187bca1c45b1f99686faec234985172a"), looks := false }, kinds := [], alts := [], laidByText := true, laidKinds := [.data, .data, .data, .data], laidTests := true, laidLooks := .later }
def PairAlikeCardSaid : Prop := Claim7.holds Tryz.pinned (.plain (OpenSpec.ofChange pairAlikeSpec)) pairAlikeCard

/-- THE SECOND FORM's CARD OF 'reportescrowlaw41.PairWays'. -/
def pairWaysUptoCard : Claim7 := { stood := { row := pairWaysUptoRow, standIns := [], harness := (true, "0b1efb7562a72c05ffcb939cd9efd8dd187bca1c45b1f99686faec234985172a"), looks := false }, kinds := [], alts := [], laidByText := true, laidKinds := [.data, .data, .data, .data], laidTests := true, laidLooks := .later }
def PairWaysUptoCardSaid : Prop := Claim7.holds Tryz.pinned (.plain (OpenSpec.upto pairWaysSpec)) pairWaysUptoCard

/-- THE SECOND FORM's CARD OF 'reportescrowlaw41.PairAlike'. -/
def pairAlikeUptoCard : Claim7 := { stood := { row := pairAlikeUptoRow, standIns := [], harness := (true, "0b1efb7562a72c05ffcb939cd9efd8dd187bca1c45b1f99686faec234985172a"), looks := false }, kinds := [], alts := [], laidByText := true, laidKinds := [.data, .data, .data, .data], laidTests := true, laidLooks := .later }
def PairAlikeUptoCardSaid : Prop := Claim7.holds Tryz.pinned (.plain (OpenSpec.upto pairAlikeSpec)) pairAlikeUptoCard
end Rows
end Go.Proofs.YtgeahbmaeaoeeaaGreatDoor
