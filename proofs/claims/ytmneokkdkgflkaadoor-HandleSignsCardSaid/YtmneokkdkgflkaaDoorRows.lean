/-
  NARROWER THAN 'FOR EVERY INPUT', by the rows' own cells (each row's printed sentence says how): HandleAgrees: laid · HandleGroup: laid · HandlePowers: laid · HandleSigns: laid · HandleVerifies: laid · HandleBears: laid.
  DERIVED. THE GIVEN ROWS OF THIS SEAT. 6 by the template 'for every input the law returns true; each argument reads behind the call as it read before'; 0 by the template 'total and deterministic' (their statements: YtmneokkdkgflkaaDoorTotals.lean).
  GIVEN WITH THE SEED: the statements are not yours to turn. If you find one false, say at which input.
  Laid BY PROGRAM, IN A SANDBOX (cutbox-rows.mjs): the forced cells as the released guide's own fill.sh prints them over the translation 888592974b1cbf3d… (all of the seat's roots in one cut). By AI agents, Wed Nov 11 2026. No macro, syntax, notation, axiom, sorry.
-/
import Derived.Test.YtmneokkdkgflkaaDoorChecked
import GoSem.Claim
import GoSem.ClaimJoined
import GoSem.ClaimMapViews
import Derived.JoinedTies
import Derived.KernelRfl
namespace Go.Proofs.YtmneokkdkgflkaaDoor
/- THE CELL 'sum', in the pinned program and in every row, IS THE sha256 OF THE DUMP (.gsa) THAT YtmneokkdkgflkaaDoorProg.lean LOADS. Nothing in Lean hashes anything: it is a label: what it is worth is what the hold of that sum in a sandbox is worth. -/
noncomputable def Tryd.pinned : Pinned := { name := "ytmneokkdkgflkaadoor", sum := "888592974b1cbf3df7580fee7efd5e0758e4ebceb28ca1735f8a9681d7305b77", checked := Tryd.checked }
namespace Rows
def none {H : Type} : Left H := { results := [], args := [] }

/- WHAT THE LISTED PACKAGE-LEVEL VARIABLES READ AS WHEN THE CALL BEGINS. Each datum BY PROGRAM (the guide's laid-datum.mjs) off the statement by which the dump's own 'gosem.cut.vars' lays the variable. In a bare row this is a premise. The card (YtmneokkdkgflkaaDoorCards.lean) ties it to the program's text. -/
def laid_reportescrow_field_bases {H : Type} : DataW H := .agg [.lit (.int .i64 2), .lit (.int .i64 3), .lit (.int .i64 5), .lit (.int .i64 7)]

/-- 'reportescrowlaw15.HandleAgrees': WHATEVER THE INPUT: true; the input reads as it did. -/
def handleAgreesSpec : ChangeSpec := { name := "handleAgrees", fn := fun _ => fun
  | [d1, d2, d3] => { results := [.lit (.bool true)], args := [d1, d2, d3] }
  | _ => none }
def handleAgreesRow : OpenClaim := { program := "ytmneokkdkgflkaadoor", sum := "888592974b1cbf3df7580fee7efd5e0758e4ebceb28ca1735f8a9681d7305b77", func := "reportescrow/reportescrowlaw15.HandleAgrees", spec := "handleAgrees", inPlace := ["internal/abi.NoEscape", "internal/bytealg.MakeNoZero"], named := ["reportescrow/field.bases"], apart := false, laid := [("reportescrow/field.bases", laid_reportescrow_field_bases)] }
def HandleAgreesSaid : Prop := handleAgreesRow.holds Tryd.pinned (OpenSpec.ofChange handleAgreesSpec)

/-- ITS FALSE NEIGHBOUR: 'it returns false'. Refute it at one input. -/
def handleAgreesWrong : ChangeSpec := { name := "handleAgrees", fn := fun _ => fun
  | [d1, d2, d3] => { results := [.lit (.bool false)], args := [d1, d2, d3] }
  | _ => none }
def HandleAgreesWrongFalsely : Prop := handleAgreesRow.holds Tryd.pinned (OpenSpec.ofChange handleAgreesWrong)

/-- 'reportescrowlaw15.HandleGroup': WHATEVER THE INPUT: true; the input reads as it did. -/
def handleGroupSpec : ChangeSpec := { name := "handleGroup", fn := fun _ => fun
  | [d1, d2, d3, d4, d5] => { results := [.lit (.bool true)], args := [d1, d2, d3, d4, d5] }
  | _ => none }
def handleGroupRow : OpenClaim := { program := "ytmneokkdkgflkaadoor", sum := "888592974b1cbf3df7580fee7efd5e0758e4ebceb28ca1735f8a9681d7305b77", func := "reportescrow/reportescrowlaw15.HandleGroup", spec := "handleGroup", inPlace := ["internal/abi.NoEscape", "internal/bytealg.MakeNoZero"], named := ["reportescrow/field.bases"], apart := false, laid := [("reportescrow/field.bases", laid_reportescrow_field_bases)] }
def HandleGroupSaid : Prop := handleGroupRow.holds Tryd.pinned (OpenSpec.ofChange handleGroupSpec)

/-- ITS FALSE NEIGHBOUR: 'it returns false'. Refute it at one input. -/
def handleGroupWrong : ChangeSpec := { name := "handleGroup", fn := fun _ => fun
  | [d1, d2, d3, d4, d5] => { results := [.lit (.bool false)], args := [d1, d2, d3, d4, d5] }
  | _ => none }
def HandleGroupWrongFalsely : Prop := handleGroupRow.holds Tryd.pinned (OpenSpec.ofChange handleGroupWrong)

/-- 'reportescrowlaw15.HandlePowers': WHATEVER THE INPUT: true; the input reads as it did. -/
def handlePowersSpec : ChangeSpec := { name := "handlePowers", fn := fun _ => fun
  | [d1, d2, d3, d4] => { results := [.lit (.bool true)], args := [d1, d2, d3, d4] }
  | _ => none }
def handlePowersRow : OpenClaim := { program := "ytmneokkdkgflkaadoor", sum := "888592974b1cbf3df7580fee7efd5e0758e4ebceb28ca1735f8a9681d7305b77", func := "reportescrow/reportescrowlaw15.HandlePowers", spec := "handlePowers", inPlace := ["internal/abi.NoEscape", "internal/bytealg.MakeNoZero"], named := ["reportescrow/field.bases"], apart := false, laid := [("reportescrow/field.bases", laid_reportescrow_field_bases)] }
def HandlePowersSaid : Prop := handlePowersRow.holds Tryd.pinned (OpenSpec.ofChange handlePowersSpec)

/-- ITS FALSE NEIGHBOUR: 'it returns false'. Refute it at one input. -/
def handlePowersWrong : ChangeSpec := { name := "handlePowers", fn := fun _ => fun
  | [d1, d2, d3, d4] => { results := [.lit (.bool false)], args := [d1, d2, d3, d4] }
  | _ => none }
def HandlePowersWrongFalsely : Prop := handlePowersRow.holds Tryd.pinned (OpenSpec.ofChange handlePowersWrong)

/-- 'reportescrowlaw15.HandleSigns': WHATEVER THE INPUT: true; the input reads as it did. -/
def handleSignsSpec : ChangeSpec := { name := "handleSigns", fn := fun _ => fun
  | [d1, d2, d3, d4, d5, d6] => { results := [.lit (.bool true)], args := [d1, d2, d3, d4, d5, d6] }
  | _ => none }
def handleSignsRow : OpenClaim := { program := "ytmneokkdkgflkaadoor", sum := "888592974b1cbf3df7580fee7efd5e0758e4ebceb28ca1735f8a9681d7305b77", func := "reportescrow/reportescrowlaw15.HandleSigns", spec := "handleSigns", inPlace := ["internal/abi.NoEscape", "internal/bytealg.MakeNoZero"], named := ["reportescrow/field.bases"], apart := false, laid := [("reportescrow/field.bases", laid_reportescrow_field_bases)] }
def HandleSignsSaid : Prop := handleSignsRow.holds Tryd.pinned (OpenSpec.ofChange handleSignsSpec)

/-- ITS FALSE NEIGHBOUR: 'it returns false'. Refute it at one input. -/
def handleSignsWrong : ChangeSpec := { name := "handleSigns", fn := fun _ => fun
  | [d1, d2, d3, d4, d5, d6] => { results := [.lit (.bool false)], args := [d1, d2, d3, d4, d5, d6] }
  | _ => none }
def HandleSignsWrongFalsely : Prop := handleSignsRow.holds Tryd.pinned (OpenSpec.ofChange handleSignsWrong)

/-- 'reportescrowlaw15.HandleVerifies': WHATEVER THE INPUT: true; the input reads as it did. -/
def handleVerifiesSpec : ChangeSpec := { name := "handleVerifies", fn := fun _ => fun
  | [d1, d2, d3] => { results := [.lit (.bool true)], args := [d1, d2, d3] }
  | _ => none }
def handleVerifiesRow : OpenClaim := { program := "ytmneokkdkgflkaadoor", sum := "888592974b1cbf3df7580fee7efd5e0758e4ebceb28ca1735f8a9681d7305b77", func := "reportescrow/reportescrowlaw15.HandleVerifies", spec := "handleVerifies", inPlace := ["internal/abi.NoEscape", "internal/bytealg.MakeNoZero"], named := ["reportescrow/field.bases"], apart := false, laid := [("reportescrow/field.bases", laid_reportescrow_field_bases)] }
def HandleVerifiesSaid : Prop := handleVerifiesRow.holds Tryd.pinned (OpenSpec.ofChange handleVerifiesSpec)

/-- ITS FALSE NEIGHBOUR: 'it returns false'. Refute it at one input. -/
def handleVerifiesWrong : ChangeSpec := { name := "handleVerifies", fn := fun _ => fun
  | [d1, d2, d3] => { results := [.lit (.bool false)], args := [d1, d2, d3] }
  | _ => none }
def HandleVerifiesWrongFalsely : Prop := handleVerifiesRow.holds Tryd.pinned (OpenSpec.ofChange handleVerifiesWrong)

/-- 'reportescrowlaw15.HandleBears': WHATEVER THE INPUT: true; the input reads as it did. -/
def handleBearsSpec : ChangeSpec := { name := "handleBears", fn := fun _ => fun
  | [d] => { results := [.lit (.bool true)], args := [d] }
  | _ => none }
def handleBearsRow : OpenClaim := { program := "ytmneokkdkgflkaadoor", sum := "888592974b1cbf3df7580fee7efd5e0758e4ebceb28ca1735f8a9681d7305b77", func := "reportescrow/reportescrowlaw15.HandleBears", spec := "handleBears", inPlace := ["internal/abi.NoEscape", "internal/bytealg.MakeNoZero"], unfollowed := true, recurses := true, named := ["reportescrow/field.bases"], apart := false, laid := [("reportescrow/field.bases", laid_reportescrow_field_bases)] }
def HandleBearsSaid : Prop := handleBearsRow.holds Tryd.pinned (OpenSpec.ofChange handleBearsSpec)

/-- ITS FALSE NEIGHBOUR: 'it returns false'. Refute it at one input. -/
def handleBearsWrong : ChangeSpec := { name := "handleBears", fn := fun _ => fun
  | [d] => { results := [.lit (.bool false)], args := [d] }
  | _ => none }
def HandleBearsWrongFalsely : Prop := handleBearsRow.holds Tryd.pinned (OpenSpec.ofChange handleBearsWrong)

/- THE SECOND FORM. 'bulk': how many values and letters a reading holds, each counted each time it is reached (what is shared counts as often as it is met; a slice's spare places count too). A statement '..UptoSaid' is the law's where the arguments, and the package variables that the reading takes, are together of bulk at most 1048576: NARROWER than '..Said'. Prove '..Said' where nothing that the law and all that it calls make is longer than what came in: it says more and counts as full. Else prove '..UptoSaid'. A law counts once. -/
mutual
def uptoBulk {H : Type} : DataW H → Nat
  | .lit (.string bytes) => bytes.length + 1
  | .lit _ => 1
  | .nil => 1
  | .ptr d => uptoBulk d + 1
  | .slice elems spare => uptoBulkAll elems + uptoBulkAll spare + 1
  | .agg parts => uptoBulkAll parts + 1
  | .iface _ d => uptoBulk d + 1
  | .map entries => uptoBulkEntries entries + 1
  | .held _ => 1
def uptoBulkAll {H : Type} : List (DataW H) → Nat
  | [] => 0
  | d :: r => uptoBulk d + uptoBulkAll r
def uptoBulkEntries {H : Type} : List (Lit × DataW H) → Nat
  | [] => 0
  | x :: r => uptoBulkEntry x + uptoBulkEntries r
def uptoBulkEntry {H : Type} : Lit × DataW H → Nat
  | (.string bytes, d) => bytes.length + uptoBulk d + 1
  | (_, d) => uptoBulk d + 1
 end
def uptoSmall : (H : Type) → List (DataW H) → Bool := fun _ ds => decide (uptoBulkAll ds ≤ 1048576)
def OpenSpec.upto (s : _root_.Go.ChangeSpec) : _root_.Go.OpenSpec := { _root_.Go.OpenSpec.ofChange s with cond := some uptoSmall }

/-- 'reportescrowlaw15.HandleAgrees', WHERE WHAT IT READS IS OF BULK AT MOST 1048576: true; the input reads as it did. -/
def handleAgreesUptoRow : OpenClaim := { program := "ytmneokkdkgflkaadoor", sum := "888592974b1cbf3df7580fee7efd5e0758e4ebceb28ca1735f8a9681d7305b77", func := "reportescrow/reportescrowlaw15.HandleAgrees", spec := "handleAgrees", inPlace := ["internal/abi.NoEscape", "internal/bytealg.MakeNoZero"], named := ["reportescrow/field.bases"], apart := false, laid := [("reportescrow/field.bases", laid_reportescrow_field_bases)], narrowed := true }
def HandleAgreesUptoSaid : Prop := handleAgreesUptoRow.holds Tryd.pinned (OpenSpec.upto handleAgreesSpec)

/-- 'reportescrowlaw15.HandleGroup', WHERE WHAT IT READS IS OF BULK AT MOST 1048576: true; the input reads as it did. -/
def handleGroupUptoRow : OpenClaim := { program := "ytmneokkdkgflkaadoor", sum := "888592974b1cbf3df7580fee7efd5e0758e4ebceb28ca1735f8a9681d7305b77", func := "reportescrow/reportescrowlaw15.HandleGroup", spec := "handleGroup", inPlace := ["internal/abi.NoEscape", "internal/bytealg.MakeNoZero"], named := ["reportescrow/field.bases"], apart := false, laid := [("reportescrow/field.bases", laid_reportescrow_field_bases)], narrowed := true }
def HandleGroupUptoSaid : Prop := handleGroupUptoRow.holds Tryd.pinned (OpenSpec.upto handleGroupSpec)

/-- 'reportescrowlaw15.HandlePowers', WHERE WHAT IT READS IS OF BULK AT MOST 1048576: true; the input reads as it did. -/
def handlePowersUptoRow : OpenClaim := { program := "ytmneokkdkgflkaadoor", sum := "888592974b1cbf3df7580fee7efd5e0758e4ebceb28ca1735f8a9681d7305b77", func := "reportescrow/reportescrowlaw15.HandlePowers", spec := "handlePowers", inPlace := ["internal/abi.NoEscape", "internal/bytealg.MakeNoZero"], named := ["reportescrow/field.bases"], apart := false, laid := [("reportescrow/field.bases", laid_reportescrow_field_bases)], narrowed := true }
def HandlePowersUptoSaid : Prop := handlePowersUptoRow.holds Tryd.pinned (OpenSpec.upto handlePowersSpec)

/-- 'reportescrowlaw15.HandleSigns', WHERE WHAT IT READS IS OF BULK AT MOST 1048576: true; the input reads as it did. -/
def handleSignsUptoRow : OpenClaim := { program := "ytmneokkdkgflkaadoor", sum := "888592974b1cbf3df7580fee7efd5e0758e4ebceb28ca1735f8a9681d7305b77", func := "reportescrow/reportescrowlaw15.HandleSigns", spec := "handleSigns", inPlace := ["internal/abi.NoEscape", "internal/bytealg.MakeNoZero"], named := ["reportescrow/field.bases"], apart := false, laid := [("reportescrow/field.bases", laid_reportescrow_field_bases)], narrowed := true }
def HandleSignsUptoSaid : Prop := handleSignsUptoRow.holds Tryd.pinned (OpenSpec.upto handleSignsSpec)

/-- 'reportescrowlaw15.HandleVerifies', WHERE WHAT IT READS IS OF BULK AT MOST 1048576: true; the input reads as it did. -/
def handleVerifiesUptoRow : OpenClaim := { program := "ytmneokkdkgflkaadoor", sum := "888592974b1cbf3df7580fee7efd5e0758e4ebceb28ca1735f8a9681d7305b77", func := "reportescrow/reportescrowlaw15.HandleVerifies", spec := "handleVerifies", inPlace := ["internal/abi.NoEscape", "internal/bytealg.MakeNoZero"], named := ["reportescrow/field.bases"], apart := false, laid := [("reportescrow/field.bases", laid_reportescrow_field_bases)], narrowed := true }
def HandleVerifiesUptoSaid : Prop := handleVerifiesUptoRow.holds Tryd.pinned (OpenSpec.upto handleVerifiesSpec)

/-- 'reportescrowlaw15.HandleBears', WHERE WHAT IT READS IS OF BULK AT MOST 1048576: true; the input reads as it did. -/
def handleBearsUptoRow : OpenClaim := { program := "ytmneokkdkgflkaadoor", sum := "888592974b1cbf3df7580fee7efd5e0758e4ebceb28ca1735f8a9681d7305b77", func := "reportescrow/reportescrowlaw15.HandleBears", spec := "handleBears", inPlace := ["internal/abi.NoEscape", "internal/bytealg.MakeNoZero"], unfollowed := true, recurses := true, named := ["reportescrow/field.bases"], apart := false, laid := [("reportescrow/field.bases", laid_reportescrow_field_bases)], narrowed := true }
def HandleBearsUptoSaid : Prop := handleBearsUptoRow.holds Tryd.pinned (OpenSpec.upto handleBearsSpec)

end Rows
end Go.Proofs.YtmneokkdkgflkaaDoor
