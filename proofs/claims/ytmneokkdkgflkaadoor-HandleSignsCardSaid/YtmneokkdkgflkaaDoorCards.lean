/-
  DERIVED. GIVEN WITH THE SEED: THE CARDS: each row of YtmneokkdkgflkaaDoorRows.lean that lists a variable, with what it lists TIED to the program's text (the seventh form; the later family's looks); each row that meets fmt, with fmt's text TOLD by the authors' own Lean function (tested against real Go, not proved from fmt's source: count such statements apart). THE CARD IS WHAT COUNTS. Prove the row's statement (the work); the ties are given (YtmneokkdkgflkaaDoorTie.lean); close each card by the builder's one call (the guide's Derived/Test/ToyasCard.lean, 'card_holds'). Laid BY PROGRAM, IN A SANDBOX (cutbox-door.mjs). By AI agents, Wed Nov 11 2026. No macro, syntax, notation, axiom, sorry.
-/
import Derived.Test.YtmneokkdkgflkaaDoorRows
import GoSem.ClaimSeven
namespace Go.Proofs.YtmneokkdkgflkaaDoor
namespace Rows

/-- THE TIED CARD OF 'reportescrowlaw15.HandleAgrees'. -/
def handleAgreesCard : Claim7 := { stood := { row := handleAgreesRow, standIns := [], harness := (true, "bc0075bfa26e480555d0f1a56b4e0738eac62a2fdcf050c6fe464efd4b983edd"), looks := false }, kinds := [], alts := [], laidByText := true, laidKinds := [.data], laidTests := true, laidLooks := .later }
def HandleAgreesCardSaid : Prop := Claim7.holds Tryd.pinned (.plain (OpenSpec.ofChange handleAgreesSpec)) handleAgreesCard

/-- THE TIED CARD OF 'reportescrowlaw15.HandleGroup'. -/
def handleGroupCard : Claim7 := { stood := { row := handleGroupRow, standIns := [], harness := (true, "bc0075bfa26e480555d0f1a56b4e0738eac62a2fdcf050c6fe464efd4b983edd"), looks := false }, kinds := [], alts := [], laidByText := true, laidKinds := [.data], laidTests := true, laidLooks := .later }
def HandleGroupCardSaid : Prop := Claim7.holds Tryd.pinned (.plain (OpenSpec.ofChange handleGroupSpec)) handleGroupCard

/-- THE TIED CARD OF 'reportescrowlaw15.HandlePowers'. -/
def handlePowersCard : Claim7 := { stood := { row := handlePowersRow, standIns := [], harness := (true, "bc0075bfa26e480555d0f1a56b4e0738eac62a2fdcf050c6fe464efd4b983edd"), looks := false }, kinds := [], alts := [], laidByText := true, laidKinds := [.data], laidTests := true, laidLooks := .later }
def HandlePowersCardSaid : Prop := Claim7.holds Tryd.pinned (.plain (OpenSpec.ofChange handlePowersSpec)) handlePowersCard

/-- THE TIED CARD OF 'reportescrowlaw15.HandleSigns'. -/
def handleSignsCard : Claim7 := { stood := { row := handleSignsRow, standIns := [], harness := (true, "bc0075bfa26e480555d0f1a56b4e0738eac62a2fdcf050c6fe464efd4b983edd"), looks := false }, kinds := [], alts := [], laidByText := true, laidKinds := [.data], laidTests := true, laidLooks := .later }
def HandleSignsCardSaid : Prop := Claim7.holds Tryd.pinned (.plain (OpenSpec.ofChange handleSignsSpec)) handleSignsCard

/-- THE TIED CARD OF 'reportescrowlaw15.HandleVerifies'. -/
def handleVerifiesCard : Claim7 := { stood := { row := handleVerifiesRow, standIns := [], harness := (true, "bc0075bfa26e480555d0f1a56b4e0738eac62a2fdcf050c6fe464efd4b983edd"), looks := false }, kinds := [], alts := [], laidByText := true, laidKinds := [.data], laidTests := true, laidLooks := .later }
def HandleVerifiesCardSaid : Prop := Claim7.holds Tryd.pinned (.plain (OpenSpec.ofChange handleVerifiesSpec)) handleVerifiesCard

/-- THE TIED CARD OF 'reportescrowlaw15.HandleBears'. -/
def handleBearsCard : Claim7 := { stood := { row := handleBearsRow, standIns := [], harness := (true, "bc0075bfa26e480555d0f1a56b4e0738eac62a2fdcf050c6fe464efd4b983edd"), looks := false }, kinds := [], alts := [], laidByText := true, laidKinds := [.data], laidTests := true, laidLooks := .later }
def HandleBearsCardSaid : Prop := Claim7.holds Tryd.pinned (.plain (OpenSpec.ofChange handleBearsSpec)) handleBearsCard

/-- THE SECOND FORM's CARD OF 'reportescrowlaw15.HandleAgrees'. -/
def handleAgreesUptoCard : Claim7 := { stood := { row := handleAgreesUptoRow, standIns := [], harness := (true, "bc0075bfa26e480555d0f1a56b4e0738eac62a2fdcf050c6fe464efd4b983edd"), looks := false }, kinds := [], alts := [], laidByText := true, laidKinds := [.data], laidTests := true, laidLooks := .later }
def HandleAgreesUptoCardSaid : Prop := Claim7.holds Tryd.pinned (.plain (OpenSpec.upto handleAgreesSpec)) handleAgreesUptoCard

/-- THE SECOND FORM's CARD OF 'reportescrowlaw15.HandleGroup'. -/
def handleGroupUptoCard : Claim7 := { stood := { row := handleGroupUptoRow, standIns := [], harness := (true, "bc0075bfa26e480555d0f1a56b4e0738eac62a2fdcf050c6fe464efd4b983edd"), looks := false }, kinds := [], alts := [], laidByText := true, laidKinds := [.data], laidTests := true, laidLooks := .later }
def HandleGroupUptoCardSaid : Prop := Claim7.holds Tryd.pinned (.plain (OpenSpec.upto handleGroupSpec)) handleGroupUptoCard

/-- THE SECOND FORM's CARD OF 'reportescrowlaw15.HandlePowers'. -/
def handlePowersUptoCard : Claim7 := { stood := { row := handlePowersUptoRow, standIns := [], harness := (true, "bc0075bfa26e480555d0f1a56b4e0738eac62a2fdcf050c6fe464efd4b983edd"), looks := false }, kinds := [], alts := [], laidByText := true, laidKinds := [.data], laidTests := true, laidLooks := .later }
def HandlePowersUptoCardSaid : Prop := Claim7.holds Tryd.pinned (.plain (OpenSpec.upto handlePowersSpec)) handlePowersUptoCard

/-- THE SECOND FORM's CARD OF 'reportescrowlaw15.HandleSigns'. -/
def handleSignsUptoCard : Claim7 := { stood := { row := handleSignsUptoRow, standIns := [], harness := (true, "bc0075bfa26e480555d0f1a56b4e0738eac62a2fdcf050c6fe464efd4b983edd"), looks := false }, kinds := [], alts := [], laidByText := true, laidKinds := [.data], laidTests := true, laidLooks := .later }
def HandleSignsUptoCardSaid : Prop := Claim7.holds Tryd.pinned (.plain (OpenSpec.upto handleSignsSpec)) handleSignsUptoCard

/-- THE SECOND FORM's CARD OF 'reportescrowlaw15.HandleVerifies'. -/
def handleVerifiesUptoCard : Claim7 := { stood := { row := handleVerifiesUptoRow, standIns := [], harness := (true, "bc0075bfa26e480555d0f1a56b4e0738eac62a2fdcf050c6fe464efd4b983edd"), looks := false }, kinds := [], alts := [], laidByText := true, laidKinds := [.data], laidTests := true, laidLooks := .later }
def HandleVerifiesUptoCardSaid : Prop := Claim7.holds Tryd.pinned (.plain (OpenSpec.upto handleVerifiesSpec)) handleVerifiesUptoCard

/-- THE SECOND FORM's CARD OF 'reportescrowlaw15.HandleBears'. -/
def handleBearsUptoCard : Claim7 := { stood := { row := handleBearsUptoRow, standIns := [], harness := (true, "bc0075bfa26e480555d0f1a56b4e0738eac62a2fdcf050c6fe464efd4b983edd"), looks := false }, kinds := [], alts := [], laidByText := true, laidKinds := [.data], laidTests := true, laidLooks := .later }
def HandleBearsUptoCardSaid : Prop := Claim7.holds Tryd.pinned (.plain (OpenSpec.upto handleBearsSpec)) handleBearsUptoCard
end Rows
end Go.Proofs.YtmneokkdkgflkaaDoor
