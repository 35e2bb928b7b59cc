/-
  No cell of these rows narrows 'for every input' (looked for: loops, veiled, ifaces, maps, wideKeys, modest, calm, conditions, laid).
  DERIVED. THE GIVEN ROWS OF THIS SEAT. 3 by the template 'for every input the law returns true; each argument reads behind the call as it read before'; 0 by the template 'total and deterministic' (their statements: YtbgodionpdemeaaTotals.lean).
  GIVEN WITH THE SEED: the statements are not yours to turn. If you find one false, say at which input.
  Laid BY PROGRAM, IN A SANDBOX (cutbox-rows.mjs): the forced cells as the released guide's own fill.sh prints them over the translation db799de824a19784… (all of the seat's roots in one cut). By AI agents, Wed Nov 11 2026. No macro, syntax, notation, axiom, sorry.
-/
import Derived.Test.YtbgodionpdemeaaChecked
import GoSem.Claim
import GoSem.ClaimJoined
import GoSem.ClaimMapViews
import Derived.JoinedTies
import Derived.KernelRfl
namespace Go.Proofs.Ytbgodionpdemeaa
/- THE CELL 'sum', in the pinned program and in every row, IS THE sha256 OF THE DUMP (.gsa) THAT YtbgodionpdemeaaProg.lean LOADS. Nothing in Lean hashes anything: it is a label: what it is worth is what the hold of that sum in a sandbox is worth. -/
noncomputable def Try.pinned : Pinned := { name := "ytbgodionpdemeaa", sum := "db799de824a1978416ea92e219ee11571dcaa0d21e269ddd39b621f5deb08da9", checked := Try.checked }
namespace Rows
def none {H : Type} : Left H := { results := [], args := [] }

/-- 'reportescrowlaw10.CalendarDays': WHATEVER THE INPUT: true; the input reads as it did. -/
def calendarDaysSpec : ChangeSpec := { name := "calendarDays", fn := fun _ => fun
  | [d1, d2, d3, d4] => { results := [.lit (.bool true)], args := [d1, d2, d3, d4] }
  | _ => none }
def calendarDaysRow : OpenClaim := { program := "ytbgodionpdemeaa", sum := "db799de824a1978416ea92e219ee11571dcaa0d21e269ddd39b621f5deb08da9", func := "reportescrow/reportescrowlaw10.CalendarDays", spec := "calendarDays", apart := false }
def CalendarDaysSaid : Prop := calendarDaysRow.holds Try.pinned (OpenSpec.ofChange calendarDaysSpec)

/-- ITS FALSE NEIGHBOUR: 'it returns false'. Refute it at one input. -/
def calendarDaysWrong : ChangeSpec := { name := "calendarDays", fn := fun _ => fun
  | [d1, d2, d3, d4] => { results := [.lit (.bool false)], args := [d1, d2, d3, d4] }
  | _ => none }
def CalendarDaysWrongFalsely : Prop := calendarDaysRow.holds Try.pinned (OpenSpec.ofChange calendarDaysWrong)

/-- 'reportescrowlaw10.CalendarYears': WHATEVER THE INPUT: true; the input reads as it did. -/
def calendarYearsSpec : ChangeSpec := { name := "calendarYears", fn := fun _ => fun
  | [d1, d2, d3] => { results := [.lit (.bool true)], args := [d1, d2, d3] }
  | _ => none }
def calendarYearsRow : OpenClaim := { program := "ytbgodionpdemeaa", sum := "db799de824a1978416ea92e219ee11571dcaa0d21e269ddd39b621f5deb08da9", func := "reportescrow/reportescrowlaw10.CalendarYears", spec := "calendarYears", apart := false }
def CalendarYearsSaid : Prop := calendarYearsRow.holds Try.pinned (OpenSpec.ofChange calendarYearsSpec)

/-- ITS FALSE NEIGHBOUR: 'it returns false'. Refute it at one input. -/
def calendarYearsWrong : ChangeSpec := { name := "calendarYears", fn := fun _ => fun
  | [d1, d2, d3] => { results := [.lit (.bool false)], args := [d1, d2, d3] }
  | _ => none }
def CalendarYearsWrongFalsely : Prop := calendarYearsRow.holds Try.pinned (OpenSpec.ofChange calendarYearsWrong)

/-- 'reportescrowlaw10.CalendarWithin': WHATEVER THE INPUT: true; the input reads as it did. -/
def calendarWithinSpec : ChangeSpec := { name := "calendarWithin", fn := fun _ => fun
  | [d1, d2, d3, d4] => { results := [.lit (.bool true)], args := [d1, d2, d3, d4] }
  | _ => none }
def calendarWithinRow : OpenClaim := { program := "ytbgodionpdemeaa", sum := "db799de824a1978416ea92e219ee11571dcaa0d21e269ddd39b621f5deb08da9", func := "reportescrow/reportescrowlaw10.CalendarWithin", spec := "calendarWithin", apart := false }
def CalendarWithinSaid : Prop := calendarWithinRow.holds Try.pinned (OpenSpec.ofChange calendarWithinSpec)

/-- ITS FALSE NEIGHBOUR: 'it returns false'. Refute it at one input. -/
def calendarWithinWrong : ChangeSpec := { name := "calendarWithin", fn := fun _ => fun
  | [d1, d2, d3, d4] => { results := [.lit (.bool false)], args := [d1, d2, d3, d4] }
  | _ => none }
def CalendarWithinWrongFalsely : Prop := calendarWithinRow.holds Try.pinned (OpenSpec.ofChange calendarWithinWrong)

/- THE SECOND FORM. 'bulk': how many values and letters a reading holds, each counted each time it is reached (what is shared counts as often as it is met; a slice's spare places count too). A statement '..UptoSaid' is the law's where the arguments, and the package variables that the reading takes, are together of bulk at most 1048576: NARROWER than '..Said'. Prove '..Said' where nothing that the law and all that it calls make is longer than what came in: it says more and counts as full. Else prove '..UptoSaid'. A law counts once. -/
mutual
def uptoBulk {H : Type} : DataW H → Nat
  | .lit (.string bytes) => bytes.length + 1
  | .lit _ => 1
  | .nil => 1
  | .ptr d => uptoBulk d + 1
  | .slice elems spare => uptoBulkAll elems + uptoBulkAll spare + 1
  | .agg parts => uptoBulkAll parts + 1
  | .iface _ d => uptoBulk d + 1
  | .map entries => uptoBulkEntries entries + 1
  | .held _ => 1
def uptoBulkAll {H : Type} : List (DataW H) → Nat
  | [] => 0
  | d :: r => uptoBulk d + uptoBulkAll r
def uptoBulkEntries {H : Type} : List (Lit × DataW H) → Nat
  | [] => 0
  | x :: r => uptoBulkEntry x + uptoBulkEntries r
def uptoBulkEntry {H : Type} : Lit × DataW H → Nat
  | (.string bytes, d) => bytes.length + uptoBulk d + 1
  | (_, d) => uptoBulk d + 1
 end
def uptoSmall : (H : Type) → List (DataW H) → Bool := fun _ ds => decide (uptoBulkAll ds ≤ 1048576)
def OpenSpec.upto (s : _root_.Go.ChangeSpec) : _root_.Go.OpenSpec := { _root_.Go.OpenSpec.ofChange s with cond := some uptoSmall }

/-- 'reportescrowlaw10.CalendarDays', WHERE WHAT IT READS IS OF BULK AT MOST 1048576: true; the input reads as it did. -/
def calendarDaysUptoRow : OpenClaim := { program := "ytbgodionpdemeaa", sum := "db799de824a1978416ea92e219ee11571dcaa0d21e269ddd39b621f5deb08da9", func := "reportescrow/reportescrowlaw10.CalendarDays", spec := "calendarDays", apart := false, narrowed := true }
def CalendarDaysUptoSaid : Prop := calendarDaysUptoRow.holds Try.pinned (OpenSpec.upto calendarDaysSpec)

/-- 'reportescrowlaw10.CalendarYears', WHERE WHAT IT READS IS OF BULK AT MOST 1048576: true; the input reads as it did. -/
def calendarYearsUptoRow : OpenClaim := { program := "ytbgodionpdemeaa", sum := "db799de824a1978416ea92e219ee11571dcaa0d21e269ddd39b621f5deb08da9", func := "reportescrow/reportescrowlaw10.CalendarYears", spec := "calendarYears", apart := false, narrowed := true }
def CalendarYearsUptoSaid : Prop := calendarYearsUptoRow.holds Try.pinned (OpenSpec.upto calendarYearsSpec)

/-- 'reportescrowlaw10.CalendarWithin', WHERE WHAT IT READS IS OF BULK AT MOST 1048576: true; the input reads as it did. -/
def calendarWithinUptoRow : OpenClaim := { program := "ytbgodionpdemeaa", sum := "db799de824a1978416ea92e219ee11571dcaa0d21e269ddd39b621f5deb08da9", func := "reportescrow/reportescrowlaw10.CalendarWithin", spec := "calendarWithin", apart := false, narrowed := true }
def CalendarWithinUptoSaid : Prop := calendarWithinUptoRow.holds Try.pinned (OpenSpec.upto calendarWithinSpec)

end Rows
end Go.Proofs.Ytbgodionpdemeaa
