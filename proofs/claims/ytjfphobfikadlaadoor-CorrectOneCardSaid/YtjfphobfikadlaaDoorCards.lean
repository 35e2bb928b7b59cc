/-
  DERIVED. GIVEN WITH THE SEED: THE CARDS: each row of YtjfphobfikadlaaDoorRows.lean that lists a variable, with what it lists TIED to the program's text (the seventh form; the later family's looks); each row that meets fmt, with fmt's text TOLD by the authors' own Lean function (tested against real Go, not proved from fmt's source: count such statements apart). THE CARD IS WHAT COUNTS. Prove the row's statement (the work); the ties are given (YtjfphobfikadlaaDoorTie.lean); close each card by the builder's one call (the guide's Derived/Test/ToyasCard.lean, 'card_holds'). Laid BY PROGRAM, IN A SANDBOX (cutbox-door.mjs). By AI agents, Wed Nov 11 2026. No macro, syntax, notation, axiom, sorry.
-/
import Derived.Test.YtjfphobfikadlaaDoorRows
import GoSem.ClaimSeven
namespace Go.Proofs.YtjfphobfikadlaaDoor
namespace Rows

/-- THE TIED CARD OF 'reportescrowlaw07.CorrectBears'. -/
def correctBearsCard : Claim7 := { stood := { row := correctBearsRow, standIns := [], harness := (true, "ce3e81c47877d05de842b85795cdc505391dbe0ba958b514b6c0c780096cbda6"), looks := false }, kinds := [], alts := [], laidByText := true, laidKinds := [.data], laidTests := true, laidLooks := .later }
def CorrectBearsCardSaid : Prop := Claim7.holds Tryd.pinned (.plain (OpenSpec.ofChange correctBearsSpec)) correctBearsCard

/-- THE TIED CARD OF 'reportescrowlaw07.CorrectRoom'. -/
def correctRoomCard : Claim7 := { stood := { row := correctRoomRow, standIns := [], harness := (true, "ce3e81c47877d05de842b85795cdc505391dbe0ba958b514b6c0c780096cbda6"), looks := false }, kinds := [], alts := [], laidByText := true, laidKinds := [.data], laidTests := true, laidLooks := .later }
def CorrectRoomCardSaid : Prop := Claim7.holds Tryd.pinned (.plain (OpenSpec.ofChange correctRoomSpec)) correctRoomCard

/-- THE TIED CARD OF 'reportescrowlaw07.CorrectOne'. -/
def correctOneCard : Claim7 := { stood := { row := correctOneRow, standIns := [], harness := (true, "ce3e81c47877d05de842b85795cdc505391dbe0ba958b514b6c0c780096cbda6"), looks := false }, kinds := [], alts := [], laidByText := true, laidKinds := [.data], laidTests := true, laidLooks := .later }
def CorrectOneCardSaid : Prop := Claim7.holds Tryd.pinned (.plain (OpenSpec.ofChange correctOneSpec)) correctOneCard

/-- THE TIED CARD OF 'reportescrowlaw07.CorrectOnly'. -/
def correctOnlyCard : Claim7 := { stood := { row := correctOnlyRow, standIns := [], harness := (true, "ce3e81c47877d05de842b85795cdc505391dbe0ba958b514b6c0c780096cbda6"), looks := false }, kinds := [], alts := [], laidByText := true, laidKinds := [.data], laidTests := true, laidLooks := .later }
def CorrectOnlyCardSaid : Prop := Claim7.holds Tryd.pinned (.plain (OpenSpec.ofChange correctOnlySpec)) correctOnlyCard

/-- THE SECOND FORM's CARD OF 'reportescrowlaw07.CorrectBears'. -/
def correctBearsUptoCard : Claim7 := { stood := { row := correctBearsUptoRow, standIns := [], harness := (true, "ce3e81c47877d05de842b85795cdc505391dbe0ba958b514b6c0c780096cbda6"), looks := false }, kinds := [], alts := [], laidByText := true, laidKinds := [.data], laidTests := true, laidLooks := .later }
def CorrectBearsUptoCardSaid : Prop := Claim7.holds Tryd.pinned (.plain (OpenSpec.upto correctBearsSpec)) correctBearsUptoCard

/-- THE SECOND FORM's CARD OF 'reportescrowlaw07.CorrectRoom'. -/
def correctRoomUptoCard : Claim7 := { stood := { row := correctRoomUptoRow, standIns := [], harness := (true, "ce3e81c47877d05de842b85795cdc505391dbe0ba958b514b6c0c780096cbda6"), looks := false }, kinds := [], alts := [], laidByText := true, laidKinds := [.data], laidTests := true, laidLooks := .later }
def CorrectRoomUptoCardSaid : Prop := Claim7.holds Tryd.pinned (.plain (OpenSpec.upto correctRoomSpec)) correctRoomUptoCard

/-- THE SECOND FORM's CARD OF 'reportescrowlaw07.CorrectOne'. -/
def correctOneUptoCard : Claim7 := { stood := { row := correctOneUptoRow, standIns := [], harness := (true, "ce3e81c47877d05de842b85795cdc505391dbe0ba958b514b6c0c780096cbda6"), looks := false }, kinds := [], alts := [], laidByText := true, laidKinds := [.data], laidTests := true, laidLooks := .later }
def CorrectOneUptoCardSaid : Prop := Claim7.holds Tryd.pinned (.plain (OpenSpec.upto correctOneSpec)) correctOneUptoCard

/-- THE SECOND FORM's CARD OF 'reportescrowlaw07.CorrectOnly'. -/
def correctOnlyUptoCard : Claim7 := { stood := { row := correctOnlyUptoRow, standIns := [], harness := (true, "ce3e81c47877d05de842b85795cdc505391dbe0ba958b514b6c0c780096cbda6"), looks := false }, kinds := [], alts := [], laidByText := true, laidKinds := [.data], laidTests := true, laidLooks := .later }
def CorrectOnlyUptoCardSaid : Prop := Claim7.holds Tryd.pinned (.plain (OpenSpec.upto correctOnlySpec)) correctOnlyUptoCard
end Rows
end Go.Proofs.YtjfphobfikadlaaDoor
