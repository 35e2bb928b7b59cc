/-
  NARROWER THAN 'FOR EVERY INPUT', by the rows' own cells (each row's printed sentence says how): FriendsStretch: laid · FriendsRecover: laid · FriendsLess: laid · FriendsMade: laid · FriendsReplaced: laid · CorrectRobust: laid · CorrectMarks: laid.
  DERIVED. THE GIVEN ROWS OF THIS SEAT. 7 by the template 'for every input the law returns true; each argument reads behind the call as it read before'; 0 by the template 'total and deterministic' (their statements: YtjfphobfikadlaaGreatDoorTotals.lean).
  GIVEN WITH THE SEED: the statements are not yours to turn. If you find one false, say at which input.
  Laid BY PROGRAM, IN A SANDBOX (cutbox-rows.mjs): the forced cells as the released guide's own fill.sh prints them over the translation b8e1f934e60b1837… (all of the seat's roots in one cut). By AI agents, Wed Nov 11 2026. No macro, syntax, notation, axiom, sorry.
-/
import Derived.Test.YtjfphobfikadlaaGreatDoorChecked
import GoSem.Claim
import GoSem.ClaimJoined
import GoSem.ClaimMapViews
import Derived.JoinedTies
import Derived.KernelRfl
namespace Go.Proofs.YtjfphobfikadlaaGreatDoor
/- THE CELL 'sum', in the pinned program and in every row, IS THE sha256 OF THE DUMP (.gsa) THAT YtjfphobfikadlaaGreatDoorProg.lean LOADS. Nothing in Lean hashes anything: it is a label: what it is worth is what the hold of that sum in a sandbox is worth. -/
noncomputable def Tryz.pinned : Pinned := { name := "ytjfphobfikadlaagreatdoor", sum := "b8e1f934e60b18379608db4e39bebff28ef4e3e1ed6dccdb428cb2f5bbc65dc0", checked := Tryz.checked }
namespace Rows
def none {H : Type} : Left H := { results := [], args := [] }

/- WHAT THE LISTED PACKAGE-LEVEL VARIABLES READ AS WHEN THE CALL BEGINS. Each datum BY PROGRAM (the guide's laid-datum.mjs) off the statement by which the dump's own 'gosem.cut.vars' lays the variable. In a bare row this is a premise. The card (YtjfphobfikadlaaGreatDoorCards.lean) ties it to the program's text. -/
def laid_reportescrow_field_bases {H : Type} : DataW H := .agg [.lit (.int .i64 2), .lit (.int .i64 3), .lit (.int .i64 5), .lit (.int .i64 7)]

/-- 'reportescrowlaw33.FriendsStretch': WHATEVER THE INPUT: true; the input reads as it did. -/
def friendsStretchSpec : ChangeSpec := { name := "friendsStretch", fn := fun _ => fun
  | [d1, d2, d3] => { results := [.lit (.bool true)], args := [d1, d2, d3] }
  | _ => none }
def friendsStretchRow : OpenClaim := { program := "ytjfphobfikadlaagreatdoor", sum := "b8e1f934e60b18379608db4e39bebff28ef4e3e1ed6dccdb428cb2f5bbc65dc0", func := "reportescrow/reportescrowlaw33.FriendsStretch", spec := "friendsStretch", inPlace := ["internal/abi.NoEscape", "internal/bytealg.MakeNoZero"], unfollowed := true, recurses := true, named := ["reportescrow/field.bases"], apart := false, laid := [("reportescrow/field.bases", laid_reportescrow_field_bases)] }
def FriendsStretchSaid : Prop := friendsStretchRow.holds Tryz.pinned (OpenSpec.ofChange friendsStretchSpec)

/-- ITS FALSE NEIGHBOUR: 'it returns false'. Refute it at one input. -/
def friendsStretchWrong : ChangeSpec := { name := "friendsStretch", fn := fun _ => fun
  | [d1, d2, d3] => { results := [.lit (.bool false)], args := [d1, d2, d3] }
  | _ => none }
def FriendsStretchWrongFalsely : Prop := friendsStretchRow.holds Tryz.pinned (OpenSpec.ofChange friendsStretchWrong)

/-- 'reportescrowlaw33.FriendsRecover': WHATEVER THE INPUT: true; the input reads as it did. -/
def friendsRecoverSpec : ChangeSpec := { name := "friendsRecover", fn := fun _ => fun
  | [d] => { results := [.lit (.bool true)], args := [d] }
  | _ => none }
def friendsRecoverRow : OpenClaim := { program := "ytjfphobfikadlaagreatdoor", sum := "b8e1f934e60b18379608db4e39bebff28ef4e3e1ed6dccdb428cb2f5bbc65dc0", func := "reportescrow/reportescrowlaw33.FriendsRecover", spec := "friendsRecover", inPlace := ["internal/abi.NoEscape", "internal/bytealg.MakeNoZero"], unfollowed := true, recurses := true, named := ["reportescrow/field.bases"], apart := false, laid := [("reportescrow/field.bases", laid_reportescrow_field_bases)] }
def FriendsRecoverSaid : Prop := friendsRecoverRow.holds Tryz.pinned (OpenSpec.ofChange friendsRecoverSpec)

/-- ITS FALSE NEIGHBOUR: 'it returns false'. Refute it at one input. -/
def friendsRecoverWrong : ChangeSpec := { name := "friendsRecover", fn := fun _ => fun
  | [d] => { results := [.lit (.bool false)], args := [d] }
  | _ => none }
def FriendsRecoverWrongFalsely : Prop := friendsRecoverRow.holds Tryz.pinned (OpenSpec.ofChange friendsRecoverWrong)

/-- 'reportescrowlaw33.FriendsLess': WHATEVER THE INPUT: true; the input reads as it did. -/
def friendsLessSpec : ChangeSpec := { name := "friendsLess", fn := fun _ => fun
  | [d1, d2] => { results := [.lit (.bool true)], args := [d1, d2] }
  | _ => none }
def friendsLessRow : OpenClaim := { program := "ytjfphobfikadlaagreatdoor", sum := "b8e1f934e60b18379608db4e39bebff28ef4e3e1ed6dccdb428cb2f5bbc65dc0", func := "reportescrow/reportescrowlaw33.FriendsLess", spec := "friendsLess", inPlace := ["internal/abi.NoEscape", "internal/bytealg.MakeNoZero"], unfollowed := true, recurses := true, named := ["reportescrow/field.bases"], apart := false, laid := [("reportescrow/field.bases", laid_reportescrow_field_bases)] }
def FriendsLessSaid : Prop := friendsLessRow.holds Tryz.pinned (OpenSpec.ofChange friendsLessSpec)

/-- ITS FALSE NEIGHBOUR: 'it returns false'. Refute it at one input. -/
def friendsLessWrong : ChangeSpec := { name := "friendsLess", fn := fun _ => fun
  | [d1, d2] => { results := [.lit (.bool false)], args := [d1, d2] }
  | _ => none }
def FriendsLessWrongFalsely : Prop := friendsLessRow.holds Tryz.pinned (OpenSpec.ofChange friendsLessWrong)

/-- 'reportescrowlaw33.FriendsMade': WHATEVER THE INPUT: true; the input reads as it did. -/
def friendsMadeSpec : ChangeSpec := { name := "friendsMade", fn := fun _ => fun
  | [d1, d2, d3] => { results := [.lit (.bool true)], args := [d1, d2, d3] }
  | _ => none }
def friendsMadeRow : OpenClaim := { program := "ytjfphobfikadlaagreatdoor", sum := "b8e1f934e60b18379608db4e39bebff28ef4e3e1ed6dccdb428cb2f5bbc65dc0", func := "reportescrow/reportescrowlaw33.FriendsMade", spec := "friendsMade", inPlace := ["internal/abi.NoEscape", "internal/bytealg.MakeNoZero"], unfollowed := true, recurses := true, named := ["reportescrow/field.bases"], apart := false, laid := [("reportescrow/field.bases", laid_reportescrow_field_bases)] }
def FriendsMadeSaid : Prop := friendsMadeRow.holds Tryz.pinned (OpenSpec.ofChange friendsMadeSpec)

/-- ITS FALSE NEIGHBOUR: 'it returns false'. Refute it at one input. -/
def friendsMadeWrong : ChangeSpec := { name := "friendsMade", fn := fun _ => fun
  | [d1, d2, d3] => { results := [.lit (.bool false)], args := [d1, d2, d3] }
  | _ => none }
def FriendsMadeWrongFalsely : Prop := friendsMadeRow.holds Tryz.pinned (OpenSpec.ofChange friendsMadeWrong)

/-- 'reportescrowlaw33.FriendsReplaced': WHATEVER THE INPUT: true; the input reads as it did. -/
def friendsReplacedSpec : ChangeSpec := { name := "friendsReplaced", fn := fun _ => fun
  | [d] => { results := [.lit (.bool true)], args := [d] }
  | _ => none }
def friendsReplacedRow : OpenClaim := { program := "ytjfphobfikadlaagreatdoor", sum := "b8e1f934e60b18379608db4e39bebff28ef4e3e1ed6dccdb428cb2f5bbc65dc0", func := "reportescrow/reportescrowlaw33.FriendsReplaced", spec := "friendsReplaced", inPlace := ["internal/abi.NoEscape", "internal/bytealg.MakeNoZero"], unfollowed := true, recurses := true, named := ["reportescrow/field.bases"], apart := false, laid := [("reportescrow/field.bases", laid_reportescrow_field_bases)] }
def FriendsReplacedSaid : Prop := friendsReplacedRow.holds Tryz.pinned (OpenSpec.ofChange friendsReplacedSpec)

/-- ITS FALSE NEIGHBOUR: 'it returns false'. Refute it at one input. -/
def friendsReplacedWrong : ChangeSpec := { name := "friendsReplaced", fn := fun _ => fun
  | [d] => { results := [.lit (.bool false)], args := [d] }
  | _ => none }
def FriendsReplacedWrongFalsely : Prop := friendsReplacedRow.holds Tryz.pinned (OpenSpec.ofChange friendsReplacedWrong)

/-- 'reportescrowlaw07.CorrectRobust': WHATEVER THE INPUT: true; the input reads as it did. -/
def correctRobustSpec : ChangeSpec := { name := "correctRobust", fn := fun _ => fun
  | [d1, d2, d3] => { results := [.lit (.bool true)], args := [d1, d2, d3] }
  | _ => none }
def correctRobustRow : OpenClaim := { program := "ytjfphobfikadlaagreatdoor", sum := "b8e1f934e60b18379608db4e39bebff28ef4e3e1ed6dccdb428cb2f5bbc65dc0", func := "reportescrow/reportescrowlaw07.CorrectRobust", spec := "correctRobust", inPlace := ["internal/abi.NoEscape", "internal/bytealg.MakeNoZero"], unfollowed := true, recurses := true, named := ["reportescrow/field.bases"], apart := false, laid := [("reportescrow/field.bases", laid_reportescrow_field_bases)] }
def CorrectRobustSaid : Prop := correctRobustRow.holds Tryz.pinned (OpenSpec.ofChange correctRobustSpec)

/-- ITS FALSE NEIGHBOUR: 'it returns false'. Refute it at one input. -/
def correctRobustWrong : ChangeSpec := { name := "correctRobust", fn := fun _ => fun
  | [d1, d2, d3] => { results := [.lit (.bool false)], args := [d1, d2, d3] }
  | _ => none }
def CorrectRobustWrongFalsely : Prop := correctRobustRow.holds Tryz.pinned (OpenSpec.ofChange correctRobustWrong)

/-- 'reportescrowlaw07.CorrectMarks': WHATEVER THE INPUT: true; the input reads as it did. -/
def correctMarksSpec : ChangeSpec := { name := "correctMarks", fn := fun _ => fun
  | [d] => { results := [.lit (.bool true)], args := [d] }
  | _ => none }
def correctMarksRow : OpenClaim := { program := "ytjfphobfikadlaagreatdoor", sum := "b8e1f934e60b18379608db4e39bebff28ef4e3e1ed6dccdb428cb2f5bbc65dc0", func := "reportescrow/reportescrowlaw07.CorrectMarks", spec := "correctMarks", inPlace := ["internal/abi.NoEscape", "internal/bytealg.MakeNoZero"], unfollowed := true, recurses := true, named := ["reportescrow/field.bases"], apart := false, laid := [("reportescrow/field.bases", laid_reportescrow_field_bases)] }
def CorrectMarksSaid : Prop := correctMarksRow.holds Tryz.pinned (OpenSpec.ofChange correctMarksSpec)

/-- ITS FALSE NEIGHBOUR: 'it returns false'. Refute it at one input. -/
def correctMarksWrong : ChangeSpec := { name := "correctMarks", fn := fun _ => fun
  | [d] => { results := [.lit (.bool false)], args := [d] }
  | _ => none }
def CorrectMarksWrongFalsely : Prop := correctMarksRow.holds Tryz.pinned (OpenSpec.ofChange correctMarksWrong)

/- THE SECOND FORM. 'bulk': how many values and letters a reading holds, each counted each time it is reached (what is shared counts as often as it is met; a slice's spare places count too). A statement '..UptoSaid' is the law's where the arguments, and the package variables that the reading takes, are together of bulk at most 1048576: NARROWER than '..Said'. Prove '..Said' where nothing that the law and all that it calls make is longer than what came in: it says more and counts as full. Else prove '..UptoSaid'. A law counts once. -/
mutual
def uptoBulk {H : Type} : DataW H → Nat
  | .lit (.string bytes) => bytes.length + 1
  | .lit _ => 1
  | .nil => 1
  | .ptr d => uptoBulk d + 1
  | .slice elems spare => uptoBulkAll elems + uptoBulkAll spare + 1
  | .agg parts => uptoBulkAll parts + 1
  | .iface _ d => uptoBulk d + 1
  | .map entries => uptoBulkEntries entries + 1
  | .held _ => 1
def uptoBulkAll {H : Type} : List (DataW H) → Nat
  | [] => 0
  | d :: r => uptoBulk d + uptoBulkAll r
def uptoBulkEntries {H : Type} : List (Lit × DataW H) → Nat
  | [] => 0
  | x :: r => uptoBulkEntry x + uptoBulkEntries r
def uptoBulkEntry {H : Type} : Lit × DataW H → Nat
  | (.string bytes, d) => bytes.length + uptoBulk d + 1
  | (_, d) => uptoBulk d + 1
 end
def uptoSmall : (H : Type) → List (DataW H) → Bool := fun _ ds => decide (uptoBulkAll ds ≤ 1048576)
def OpenSpec.upto (s : _root_.Go.ChangeSpec) : _root_.Go.OpenSpec := { _root_.Go.OpenSpec.ofChange s with cond := some uptoSmall }

/-- 'reportescrowlaw33.FriendsStretch', WHERE WHAT IT READS IS OF BULK AT MOST 1048576: true; the input reads as it did. -/
def friendsStretchUptoRow : OpenClaim := { program := "ytjfphobfikadlaagreatdoor", sum := "b8e1f934e60b18379608db4e39bebff28ef4e3e1ed6dccdb428cb2f5bbc65dc0", func := "reportescrow/reportescrowlaw33.FriendsStretch", spec := "friendsStretch", inPlace := ["internal/abi.NoEscape", "internal/bytealg.MakeNoZero"], unfollowed := true, recurses := true, named := ["reportescrow/field.bases"], apart := false, laid := [("reportescrow/field.bases", laid_reportescrow_field_bases)], narrowed := true }
def FriendsStretchUptoSaid : Prop := friendsStretchUptoRow.holds Tryz.pinned (OpenSpec.upto friendsStretchSpec)

/-- 'reportescrowlaw33.FriendsRecover', WHERE WHAT IT READS IS OF BULK AT MOST 1048576: true; the input reads as it did. -/
def friendsRecoverUptoRow : OpenClaim := { program := "ytjfphobfikadlaagreatdoor", sum := "b8e1f934e60b18379608db4e39bebff28ef4e3e1ed6dccdb428cb2f5bbc65dc0", func := "reportescrow/reportescrowlaw33.FriendsRecover", spec := "friendsRecover", inPlace := ["internal/abi.NoEscape", "internal/bytealg.MakeNoZero"], unfollowed := true, recurses := true, named := ["reportescrow/field.bases"], apart := false, laid := [("reportescrow/field.bases", laid_reportescrow_field_bases)], narrowed := true }
def FriendsRecoverUptoSaid : Prop := friendsRecoverUptoRow.holds Tryz.pinned (OpenSpec.upto friendsRecoverSpec)

/-- 'reportescrowlaw33.FriendsLess', WHERE WHAT IT READS IS OF BULK AT MOST 1048576: true; the input reads as it did. -/
def friendsLessUptoRow : OpenClaim := { program := "ytjfphobfikadlaagreatdoor", sum := "b8e1f934e60b18379608db4e39bebff28ef4e3e1ed6dccdb428cb2f5bbc65dc0", func := "reportescrow/reportescrowlaw33.FriendsLess", spec := "friendsLess", inPlace := ["internal/abi.NoEscape", "internal/bytealg.MakeNoZero"], unfollowed := true, recurses := true, named := ["reportescrow/field.bases"], apart := false, laid := [("reportescrow/field.bases", laid_reportescrow_field_bases)], narrowed := true }
def FriendsLessUptoSaid : Prop := friendsLessUptoRow.holds Tryz.pinned (OpenSpec.upto friendsLessSpec)

/-- 'reportescrowlaw33.FriendsMade', WHERE WHAT IT READS IS OF BULK AT MOST 1048576: true; the input reads as it did. -/
def friendsMadeUptoRow : OpenClaim := { program := "ytjfphobfikadlaagreatdoor", sum := "b8e1f934e60b18379608db4e39bebff28ef4e3e1ed6dccdb428cb2f5bbc65dc0", func := "reportescrow/reportescrowlaw33.FriendsMade", spec := "friendsMade", inPlace := ["internal/abi.NoEscape", "internal/bytealg.MakeNoZero"], unfollowed := true, recurses := true, named := ["reportescrow/field.bases"], apart := false, laid := [("reportescrow/field.bases", laid_reportescrow_field_bases)], narrowed := true }
def FriendsMadeUptoSaid : Prop := friendsMadeUptoRow.holds Tryz.pinned (OpenSpec.upto friendsMadeSpec)

/-- 'reportescrowlaw33.FriendsReplaced', WHERE WHAT IT READS IS OF BULK AT MOST 1048576: true; the input reads as it did. -/
def friendsReplacedUptoRow : OpenClaim := { program := "ytjfphobfikadlaagreatdoor", sum := "b8e1f934e60b18379608db4e39bebff28ef4e3e1ed6dccdb428cb2f5bbc65dc0", func := "reportescrow/reportescrowlaw33.FriendsReplaced", spec := "friendsReplaced", inPlace := ["internal/abi.NoEscape", "internal/bytealg.MakeNoZero"], unfollowed := true, recurses := true, named := ["reportescrow/field.bases"], apart := false, laid := [("reportescrow/field.bases", laid_reportescrow_field_bases)], narrowed := true }
def FriendsReplacedUptoSaid : Prop := friendsReplacedUptoRow.holds Tryz.pinned (OpenSpec.upto friendsReplacedSpec)

/-- 'reportescrowlaw07.CorrectRobust', WHERE WHAT IT READS IS OF BULK AT MOST 1048576: true; the input reads as it did. -/
def correctRobustUptoRow : OpenClaim := { program := "ytjfphobfikadlaagreatdoor", sum := "b8e1f934e60b18379608db4e39bebff28ef4e3e1ed6dccdb428cb2f5bbc65dc0", func := "reportescrow/reportescrowlaw07.CorrectRobust", spec := "correctRobust", inPlace := ["internal/abi.NoEscape", "internal/bytealg.MakeNoZero"], unfollowed := true, recurses := true, named := ["reportescrow/field.bases"], apart := false, laid := [("reportescrow/field.bases", laid_reportescrow_field_bases)], narrowed := true }
def CorrectRobustUptoSaid : Prop := correctRobustUptoRow.holds Tryz.pinned (OpenSpec.upto correctRobustSpec)

/-- 'reportescrowlaw07.CorrectMarks', WHERE WHAT IT READS IS OF BULK AT MOST 1048576: true; the input reads as it did. -/
def correctMarksUptoRow : OpenClaim := { program := "ytjfphobfikadlaagreatdoor", sum := "b8e1f934e60b18379608db4e39bebff28ef4e3e1ed6dccdb428cb2f5bbc65dc0", func := "reportescrow/reportescrowlaw07.CorrectMarks", spec := "correctMarks", inPlace := ["internal/abi.NoEscape", "internal/bytealg.MakeNoZero"], unfollowed := true, recurses := true, named := ["reportescrow/field.bases"], apart := false, laid := [("reportescrow/field.bases", laid_reportescrow_field_bases)], narrowed := true }
def CorrectMarksUptoSaid : Prop := correctMarksUptoRow.holds Tryz.pinned (OpenSpec.upto correctMarksSpec)

end Rows
end Go.Proofs.YtjfphobfikadlaaGreatDoor
