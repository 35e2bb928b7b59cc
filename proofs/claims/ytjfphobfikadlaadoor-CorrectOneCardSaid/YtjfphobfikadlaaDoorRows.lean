/-
  NARROWER THAN 'FOR EVERY INPUT', by the rows' own cells (each row's printed sentence says how): CorrectBears: laid · CorrectRoom: laid · CorrectOne: laid · CorrectOnly: laid.
  DERIVED. THE GIVEN ROWS OF THIS SEAT. 4 by the template 'for every input the law returns true; each argument reads behind the call as it read before'; 0 by the template 'total and deterministic' (their statements: YtjfphobfikadlaaDoorTotals.lean).
  GIVEN WITH THE SEED: the statements are not yours to turn. If you find one false, say at which input.
  Laid BY PROGRAM, IN A SANDBOX (cutbox-rows.mjs): the forced cells as the released guide's own fill.sh prints them over the translation 15ecf743f6db0cc9… (all of the seat's roots in one cut). By AI agents, Wed Nov 11 2026. No macro, syntax, notation, axiom, sorry.
-/
import Derived.Test.YtjfphobfikadlaaDoorChecked
import GoSem.Claim
import GoSem.ClaimJoined
import GoSem.ClaimMapViews
import Derived.JoinedTies
import Derived.KernelRfl
namespace Go.Proofs.YtjfphobfikadlaaDoor
/- THE CELL 'sum', in the pinned program and in every row, IS THE sha256 OF THE DUMP (.gsa) THAT YtjfphobfikadlaaDoorProg.lean LOADS. Nothing in Lean hashes anything: it is a label: what it is worth is what the hold of that sum in a sandbox is worth. -/
noncomputable def Tryd.pinned : Pinned := { name := "ytjfphobfikadlaadoor", sum := "15ecf743f6db0cc9c6fdb7ec4daba5d00d170da6faba7785bac636dfeface43d", checked := Tryd.checked }
namespace Rows
def none {H : Type} : Left H := { results := [], args := [] }

/- WHAT THE LISTED PACKAGE-LEVEL VARIABLES READ AS WHEN THE CALL BEGINS. Each datum BY PROGRAM (the guide's laid-datum.mjs) off the statement by which the dump's own 'gosem.cut.vars' lays the variable. In a bare row this is a premise. The card (YtjfphobfikadlaaDoorCards.lean) ties it to the program's text. -/
def laid_reportescrow_field_bases {H : Type} : DataW H := .agg [.lit (.int .i64 2), .lit (.int .i64 3), .lit (.int .i64 5), .lit (.int .i64 7)]

/-- 'reportescrowlaw07.CorrectBears': WHATEVER THE INPUT: true; the input reads as it did. -/
def correctBearsSpec : ChangeSpec := { name := "correctBears", fn := fun _ => fun
  | [d] => { results := [.lit (.bool true)], args := [d] }
  | _ => none }
def correctBearsRow : OpenClaim := { program := "ytjfphobfikadlaadoor", sum := "15ecf743f6db0cc9c6fdb7ec4daba5d00d170da6faba7785bac636dfeface43d", func := "reportescrow/reportescrowlaw07.CorrectBears", spec := "correctBears", unfollowed := true, recurses := true, named := ["reportescrow/field.bases"], apart := false, laid := [("reportescrow/field.bases", laid_reportescrow_field_bases)] }
def CorrectBearsSaid : Prop := correctBearsRow.holds Tryd.pinned (OpenSpec.ofChange correctBearsSpec)

/-- ITS FALSE NEIGHBOUR: 'it returns false'. Refute it at one input. -/
def correctBearsWrong : ChangeSpec := { name := "correctBears", fn := fun _ => fun
  | [d] => { results := [.lit (.bool false)], args := [d] }
  | _ => none }
def CorrectBearsWrongFalsely : Prop := correctBearsRow.holds Tryd.pinned (OpenSpec.ofChange correctBearsWrong)

/-- 'reportescrowlaw07.CorrectRoom': WHATEVER THE INPUT: true; the input reads as it did. -/
def correctRoomSpec : ChangeSpec := { name := "correctRoom", fn := fun _ => fun
  | [d] => { results := [.lit (.bool true)], args := [d] }
  | _ => none }
def correctRoomRow : OpenClaim := { program := "ytjfphobfikadlaadoor", sum := "15ecf743f6db0cc9c6fdb7ec4daba5d00d170da6faba7785bac636dfeface43d", func := "reportescrow/reportescrowlaw07.CorrectRoom", spec := "correctRoom", unfollowed := true, recurses := true, named := ["reportescrow/field.bases"], apart := false, laid := [("reportescrow/field.bases", laid_reportescrow_field_bases)] }
def CorrectRoomSaid : Prop := correctRoomRow.holds Tryd.pinned (OpenSpec.ofChange correctRoomSpec)

/-- ITS FALSE NEIGHBOUR: 'it returns false'. Refute it at one input. -/
def correctRoomWrong : ChangeSpec := { name := "correctRoom", fn := fun _ => fun
  | [d] => { results := [.lit (.bool false)], args := [d] }
  | _ => none }
def CorrectRoomWrongFalsely : Prop := correctRoomRow.holds Tryd.pinned (OpenSpec.ofChange correctRoomWrong)

/-- 'reportescrowlaw07.CorrectOne': WHATEVER THE INPUT: true; the input reads as it did. -/
def correctOneSpec : ChangeSpec := { name := "correctOne", fn := fun _ => fun
  | [d1, d2, d3, d4, d5, d6] => { results := [.lit (.bool true)], args := [d1, d2, d3, d4, d5, d6] }
  | _ => none }
def correctOneRow : OpenClaim := { program := "ytjfphobfikadlaadoor", sum := "15ecf743f6db0cc9c6fdb7ec4daba5d00d170da6faba7785bac636dfeface43d", func := "reportescrow/reportescrowlaw07.CorrectOne", spec := "correctOne", unfollowed := true, recurses := true, named := ["reportescrow/field.bases"], apart := false, laid := [("reportescrow/field.bases", laid_reportescrow_field_bases)] }
def CorrectOneSaid : Prop := correctOneRow.holds Tryd.pinned (OpenSpec.ofChange correctOneSpec)

/-- ITS FALSE NEIGHBOUR: 'it returns false'. Refute it at one input. -/
def correctOneWrong : ChangeSpec := { name := "correctOne", fn := fun _ => fun
  | [d1, d2, d3, d4, d5, d6] => { results := [.lit (.bool false)], args := [d1, d2, d3, d4, d5, d6] }
  | _ => none }
def CorrectOneWrongFalsely : Prop := correctOneRow.holds Tryd.pinned (OpenSpec.ofChange correctOneWrong)

/-- 'reportescrowlaw07.CorrectOnly': WHATEVER THE INPUT: true; the input reads as it did. -/
def correctOnlySpec : ChangeSpec := { name := "correctOnly", fn := fun _ => fun
  | [d1, d2] => { results := [.lit (.bool true)], args := [d1, d2] }
  | _ => none }
def correctOnlyRow : OpenClaim := { program := "ytjfphobfikadlaadoor", sum := "15ecf743f6db0cc9c6fdb7ec4daba5d00d170da6faba7785bac636dfeface43d", func := "reportescrow/reportescrowlaw07.CorrectOnly", spec := "correctOnly", unfollowed := true, recurses := true, named := ["reportescrow/field.bases"], apart := false, laid := [("reportescrow/field.bases", laid_reportescrow_field_bases)] }
def CorrectOnlySaid : Prop := correctOnlyRow.holds Tryd.pinned (OpenSpec.ofChange correctOnlySpec)

/-- ITS FALSE NEIGHBOUR: 'it returns false'. Refute it at one input. -/
def correctOnlyWrong : ChangeSpec := { name := "correctOnly", fn := fun _ => fun
  | [d1, d2] => { results := [.lit (.bool false)], args := [d1, d2] }
  | _ => none }
def CorrectOnlyWrongFalsely : Prop := correctOnlyRow.holds Tryd.pinned (OpenSpec.ofChange correctOnlyWrong)

/- THE SECOND FORM. 'bulk': how many values and letters a reading holds, each counted each time it is reached (what is shared counts as often as it is met; a slice's spare places count too). A statement '..UptoSaid' is the law's where the arguments, and the package variables that the reading takes, are together of bulk at most 1048576: NARROWER than '..Said'. Prove '..Said' where nothing that the law and all that it calls make is longer than what came in: it says more and counts as full. Else prove '..UptoSaid'. A law counts once. -/
mutual
def uptoBulk {H : Type} : DataW H → Nat
  | .lit (.string bytes) => bytes.length + 1
  | .lit _ => 1
  | .nil => 1
  | .ptr d => uptoBulk d + 1
  | .slice elems spare => uptoBulkAll elems + uptoBulkAll spare + 1
  | .agg parts => uptoBulkAll parts + 1
  | .iface _ d => uptoBulk d + 1
  | .map entries => uptoBulkEntries entries + 1
  | .held _ => 1
def uptoBulkAll {H : Type} : List (DataW H) → Nat
  | [] => 0
  | d :: r => uptoBulk d + uptoBulkAll r
def uptoBulkEntries {H : Type} : List (Lit × DataW H) → Nat
  | [] => 0
  | x :: r => uptoBulkEntry x + uptoBulkEntries r
def uptoBulkEntry {H : Type} : Lit × DataW H → Nat
  | (.string bytes, d) => bytes.length + uptoBulk d + 1
  | (_, d) => uptoBulk d + 1
 end
def uptoSmall : (H : Type) → List (DataW H) → Bool := fun _ ds => decide (uptoBulkAll ds ≤ 1048576)
def OpenSpec.upto (s : _root_.Go.ChangeSpec) : _root_.Go.OpenSpec := { _root_.Go.OpenSpec.ofChange s with cond := some uptoSmall }

/-- 'reportescrowlaw07.CorrectBears', WHERE WHAT IT READS IS OF BULK AT MOST 1048576: true; the input reads as it did. -/
def correctBearsUptoRow : OpenClaim := { program := "ytjfphobfikadlaadoor", sum := "15ecf743f6db0cc9c6fdb7ec4daba5d00d170da6faba7785bac636dfeface43d", func := "reportescrow/reportescrowlaw07.CorrectBears", spec := "correctBears", unfollowed := true, recurses := true, named := ["reportescrow/field.bases"], apart := false, laid := [("reportescrow/field.bases", laid_reportescrow_field_bases)], narrowed := true }
def CorrectBearsUptoSaid : Prop := correctBearsUptoRow.holds Tryd.pinned (OpenSpec.upto correctBearsSpec)

/-- 'reportescrowlaw07.CorrectRoom', WHERE WHAT IT READS IS OF BULK AT MOST 1048576: true; the input reads as it did. -/
def correctRoomUptoRow : OpenClaim := { program := "ytjfphobfikadlaadoor", sum := "15ecf743f6db0cc9c6fdb7ec4daba5d00d170da6faba7785bac636dfeface43d", func := "reportescrow/reportescrowlaw07.CorrectRoom", spec := "correctRoom", unfollowed := true, recurses := true, named := ["reportescrow/field.bases"], apart := false, laid := [("reportescrow/field.bases", laid_reportescrow_field_bases)], narrowed := true }
def CorrectRoomUptoSaid : Prop := correctRoomUptoRow.holds Tryd.pinned (OpenSpec.upto correctRoomSpec)

/-- 'reportescrowlaw07.CorrectOne', WHERE WHAT IT READS IS OF BULK AT MOST 1048576: true; the input reads as it did. -/
def correctOneUptoRow : OpenClaim := { program := "ytjfphobfikadlaadoor", sum := "15ecf743f6db0cc9c6fdb7ec4daba5d00d170da6faba7785bac636dfeface43d", func := "reportescrow/reportescrowlaw07.CorrectOne", spec := "correctOne", unfollowed := true, recurses := true, named := ["reportescrow/field.bases"], apart := false, laid := [("reportescrow/field.bases", laid_reportescrow_field_bases)], narrowed := true }
def CorrectOneUptoSaid : Prop := correctOneUptoRow.holds Tryd.pinned (OpenSpec.upto correctOneSpec)

/-- 'reportescrowlaw07.CorrectOnly', WHERE WHAT IT READS IS OF BULK AT MOST 1048576: true; the input reads as it did. -/
def correctOnlyUptoRow : OpenClaim := { program := "ytjfphobfikadlaadoor", sum := "15ecf743f6db0cc9c6fdb7ec4daba5d00d170da6faba7785bac636dfeface43d", func := "reportescrow/reportescrowlaw07.CorrectOnly", spec := "correctOnly", unfollowed := true, recurses := true, named := ["reportescrow/field.bases"], apart := false, laid := [("reportescrow/field.bases", laid_reportescrow_field_bases)], narrowed := true }
def CorrectOnlyUptoSaid : Prop := correctOnlyUptoRow.holds Tryd.pinned (OpenSpec.upto correctOnlySpec)

end Rows
end Go.Proofs.YtjfphobfikadlaaDoor
