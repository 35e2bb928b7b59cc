/-
  DERIVED. GIVEN WITH THE SEED: THE CARDS: each row of YtjfphobfikadlaaGreatDoorRows.lean that lists a variable, with what it lists TIED to the program's text (the seventh form; the later family's looks); each row that meets fmt, with fmt's text TOLD by the authors' own Lean function (tested against real Go, not proved from fmt's source: count such statements apart). THE CARD IS WHAT COUNTS. Prove the row's statement (the work); the ties are given (YtjfphobfikadlaaGreatDoorTie.lean); close each card by the builder's one call (the guide's Derived/Test/ToyasCard.lean, 'card_holds'). Laid BY PROGRAM, IN A SANDBOX (cutbox-door.mjs). By AI agents, Wed Nov 11 2026. No macro, syntax, notation, axiom, sorry.
-/
import Derived.Test.YtjfphobfikadlaaGreatDoorRows
import GoSem.ClaimSeven
namespace Go.Proofs.YtjfphobfikadlaaGreatDoor
namespace Rows

/-- THE TIED CARD OF 'reportescrowlaw33.FriendsStretch'. -/
def friendsStretchCard : Claim7 := { stood := { row := friendsStretchRow, standIns := [], harness := (true, "9cc6846324a19f0826390ce8e42e33db4c50b7690f0bb8d6cc6a6955bd1c5b9b"), looks := false }, kinds := [], alts := [], laidByText := true, laidKinds := [.data], laidTests := true, laidLooks := .later }
def FriendsStretchCardSaid : Prop := Claim7.holds Tryz.pinned (.plain (OpenSpec.ofChange friendsStretchSpec)) friendsStretchCard

/-- THE TIED CARD OF 'reportescrowlaw33.FriendsRecover'. -/
def friendsRecoverCard : Claim7 := { stood := { row := friendsRecoverRow, standIns := [], harness := (true, "9cc6846324a19f0826390ce8e42e33db4c50b7690f0bb8d6cc6a6955bd1c5b9b"), looks := false }, kinds := [], alts := [], laidByText := true, laidKinds := [.data], laidTests := true, laidLooks := .later }
def FriendsRecoverCardSaid : Prop := Claim7.holds Tryz.pinned (.plain (OpenSpec.ofChange friendsRecoverSpec)) friendsRecoverCard

/-- THE TIED CARD OF 'reportescrowlaw33.FriendsLess'. -/
def friendsLessCard : Claim7 := { stood := { row := friendsLessRow, standIns := [], harness := (true, "9cc6846324a19f0826390ce8e42e33db4c50b7690f0bb8d6cc6a6955bd1c5b9b"), looks := false }, kinds := [], alts := [], laidByText := true, laidKinds := [.data], laidTests := true, laidLooks := .later }
def FriendsLessCardSaid : Prop := Claim7.holds Tryz.pinned (.plain (OpenSpec.ofChange friendsLessSpec)) friendsLessCard

/-- THE TIED CARD OF 'reportescrowlaw33.FriendsMade'. -/
def friendsMadeCard : Claim7 := { stood := { row := friendsMadeRow, standIns := [], harness := (true, "9cc6846324a19f0826390ce8e42e33db4c50b7690f0bb8d6cc6a6955bd1c5b9b"), looks := false }, kinds := [], alts := [], laidByText := true, laidKinds := [.data], laidTests := true, laidLooks := .later }
def FriendsMadeCardSaid : Prop := Claim7.holds Tryz.pinned (.plain (OpenSpec.ofChange friendsMadeSpec)) friendsMadeCard

/-- THE TIED CARD OF 'reportescrowlaw33.FriendsReplaced'. -/
def friendsReplacedCard : Claim7 := { stood := { row := friendsReplacedRow, standIns := [], harness := (true, "9cc6846324a19f0826390ce8e42e33db4c50b7690f0bb8d6cc6a6955bd1c5b9b"), looks := false }, kinds := [], alts := [], laidByText := true, laidKinds := [.data], laidTests := true, laidLooks := .later }
def FriendsReplacedCardSaid : Prop := Claim7.holds Tryz.pinned (.plain (OpenSpec.ofChange friendsReplacedSpec)) friendsReplacedCard

/-- THE TIED CARD OF 'reportescrowlaw07.CorrectRobust'. -/
def correctRobustCard : Claim7 := { stood := { row := correctRobustRow, standIns := [], harness := (true, "9cc6846324a19f0826390ce8e42e33db4c50b7690f0bb8d6cc6a6955bd1c5b9b"), looks := false }, kinds := [], alts := [], laidByText := true, laidKinds := [.data], laidTests := true, laidLooks := .later }
def CorrectRobustCardSaid : Prop := Claim7.holds Tryz.pinned (.plain (OpenSpec.ofChange correctRobustSpec)) correctRobustCard

/-- THE TIED CARD OF 'reportescrowlaw07.CorrectMarks'. -/
def correctMarksCard : Claim7 := { stood := { row := correctMarksRow, standIns := [], harness := (true, "9cc6846324a19f0826390ce8e42e33db4c50b7690f0bb8d6cc6a6955bd1c5b9b"), looks := false }, kinds := [], alts := [], laidByText := true, laidKinds := [.data], laidTests := true, laidLooks := .later }
def CorrectMarksCardSaid : Prop := Claim7.holds Tryz.pinned (.plain (OpenSpec.ofChange correctMarksSpec)) correctMarksCard

/-- THE SECOND FORM's CARD OF 'reportescrowlaw33.FriendsStretch'. -/
def friendsStretchUptoCard : Claim7 := { stood := { row := friendsStretchUptoRow, standIns := [], harness := (true, "9cc6846324a19f0826390ce8e42e33db4c50b7690f0bb8d6cc6a6955bd1c5b9b"), looks := false }, kinds := [], alts := [], laidByText := true, laidKinds := [.data], laidTests := true, laidLooks := .later }
def FriendsStretchUptoCardSaid : Prop := Claim7.holds Tryz.pinned (.plain (OpenSpec.upto friendsStretchSpec)) friendsStretchUptoCard

/-- THE SECOND FORM's CARD OF 'reportescrowlaw33.FriendsRecover'. -/
def friendsRecoverUptoCard : Claim7 := { stood := { row := friendsRecoverUptoRow, standIns := [], harness := (true, "9cc6846324a19f0826390ce8e42e33db4c50b7690f0bb8d6cc6a6955bd1c5b9b"), looks := false }, kinds := [], alts := [], laidByText := true, laidKinds := [.data], laidTests := true, laidLooks := .later }
def FriendsRecoverUptoCardSaid : Prop := Claim7.holds Tryz.pinned (.plain (OpenSpec.upto friendsRecoverSpec)) friendsRecoverUptoCard

/-- THE SECOND FORM's CARD OF 'reportescrowlaw33.FriendsLess'. -/
def friendsLessUptoCard : Claim7 := { stood := { row := friendsLessUptoRow, standIns := [], harness := (true, "9cc6846324a19f0826390ce8e42e33db4c50b7690f0bb8d6cc6a6955bd1c5b9b"), looks := false }, kinds := [], alts := [], laidByText := true, laidKinds := [.data], laidTests := true, laidLooks := .later }
def FriendsLessUptoCardSaid : Prop := Claim7.holds Tryz.pinned (.plain (OpenSpec.upto friendsLessSpec)) friendsLessUptoCard

/-- THE SECOND FORM's CARD OF 'reportescrowlaw33.FriendsMade'. -/
def friendsMadeUptoCard : Claim7 := { stood := { row := friendsMadeUptoRow, standIns := [], harness := (true, "9cc6846324a19f0826390ce8e42e33db4c50b7690f0bb8d6cc6a6955bd1c5b9b"), looks := false }, kinds := [], alts := [], laidByText := true, laidKinds := [.data], laidTests := true, laidLooks := .later }
def FriendsMadeUptoCardSaid : Prop := Claim7.holds Tryz.pinned (.plain (OpenSpec.upto friendsMadeSpec)) friendsMadeUptoCard

/-- THE SECOND FORM's CARD OF 'reportescrowlaw33.FriendsReplaced'. -/
def friendsReplacedUptoCard : Claim7 := { stood := { row := friendsReplacedUptoRow, standIns := [], harness := (true, "9cc6846324a19f0826390ce8e42e33db4c50b7690f0bb8d6cc6a6955bd1c5b9b"), looks := false }, kinds := [], alts := [], laidByText := true, laidKinds := [.data], laidTests := true, laidLooks := .later }
def FriendsReplacedUptoCardSaid : Prop := Claim7.holds Tryz.pinned (.plain (OpenSpec.upto friendsReplacedSpec)) friendsReplacedUptoCard

/-- THE SECOND FORM's CARD OF 'reportescrowlaw07.CorrectRobust'. -/
def correctRobustUptoCard : Claim7 := { stood := { row := correctRobustUptoRow, standIns := [], harness := (true, "9cc6846324a19f0826390ce8e42e33db4c50b7690f0bb8d6cc6a6955bd1c5b9b"), looks := false }, kinds := [], alts := [], laidByText := true, laidKinds := [.data], laidTests := true, laidLooks := .later }
def CorrectRobustUptoCardSaid : Prop := Claim7.holds Tryz.pinned (.plain (OpenSpec.upto correctRobustSpec)) correctRobustUptoCard

/-- THE SECOND FORM's CARD OF 'reportescrowlaw07.CorrectMarks'. -/
def correctMarksUptoCard : Claim7 := { stood := { row := correctMarksUptoRow, standIns := [], harness := (true, "9cc6846324a19f0826390ce8e42e33db4c50b7690f0bb8d6cc6a6955bd1c5b9b"), looks := false }, kinds := [], alts := [], laidByText := true, laidKinds := [.data], laidTests := true, laidLooks := .later }
def CorrectMarksUptoCardSaid : Prop := Claim7.holds Tryz.pinned (.plain (OpenSpec.upto correctMarksSpec)) correctMarksUptoCard
end Rows
end Go.Proofs.YtjfphobfikadlaaGreatDoor
