/-
  DERIVED. GIVEN WITH THE SEED: THE CARDS: each row of YthfmmememdlekaaDoorRows.lean that lists a variable, with what it lists TIED to the program's text (the seventh form; the later family's looks); each row that meets fmt, with fmt's text TOLD by the authors' own Lean function (tested against real Go, not proved from fmt's source: count such statements apart). THE CARD IS WHAT COUNTS. Prove the row's statement (the work); the ties are given (YthfmmememdlekaaDoorTie.lean); close each card by the builder's one call (the guide's Derived/Test/ToyasCard.lean, 'card_holds'). Laid BY PROGRAM, IN A SANDBOX (cutbox-door.mjs). By AI agents, Wed Nov 11 2026. No macro, syntax, notation, axiom, sorry.
-/
import Derived.Test.YthfmmememdlekaaDoorRows
import GoSem.ClaimSeven
namespace Go.Proofs.YthfmmememdlekaaDoor
namespace Rows

/-- THE TIED CARD OF 'reportescrowlaw16.FormsDeep'. -/
def formsDeepCard : Claim7 := { stood := { row := formsDeepRow, standIns := [], harness := (true, "33d2b218c4ef3e7ce57e28954eaaa7849c3f54b198e8406df33476c02b5011ff"), looks := true }, kinds := [], alts := [], laidByText := true, laidKinds := [.data, .data, .data, .sentinel, .sentinel], laidTests := true, laidLooks := .later }
def FormsDeepCardSaid : Prop := Claim7.holds Tryd.pinned (.plain (OpenSpec.ofChange formsDeepSpec)) formsDeepCard

/-- THE TIED CARD OF 'reportescrowlaw16.FormsNames'. -/
def formsNamesCard : Claim7 := { stood := { row := formsNamesRow, standIns := [], harness := (true, "33d2b218c4ef3e7ce57e28954eaaa7849c3f54b198e8406df33476c02b5011ff"), looks := true }, kinds := [], alts := [], laidByText := true, laidKinds := [.data, .data, .data, .sentinel, .sentinel], laidTests := true, laidLooks := .later }
def FormsNamesCardSaid : Prop := Claim7.holds Tryd.pinned (.plain (OpenSpec.ofChange formsNamesSpec)) formsNamesCard

/-- THE TIED CARD OF 'reportescrowlaw31.OrderSlots'. -/
def orderSlotsCard : Claim7 := { stood := { row := orderSlotsRow, standIns := [], harness := (true, "33d2b218c4ef3e7ce57e28954eaaa7849c3f54b198e8406df33476c02b5011ff"), looks := true }, kinds := [], alts := [], laidByText := true, laidKinds := [.data, .data, .data], laidTests := true, laidLooks := .later }
def OrderSlotsCardSaid : Prop := Claim7.holds Tryd.pinned (.plain (OpenSpec.ofChange orderSlotsSpec)) orderSlotsCard

/-- THE TIED CARD OF 'reportescrowlaw31.OrderBatches'. -/
def orderBatchesCard : Claim7 := { stood := { row := orderBatchesRow, standIns := [], harness := (true, "33d2b218c4ef3e7ce57e28954eaaa7849c3f54b198e8406df33476c02b5011ff"), looks := true }, kinds := [], alts := [], laidByText := true, laidKinds := [.data, .data, .data], laidTests := true, laidLooks := .later }
def OrderBatchesCardSaid : Prop := Claim7.holds Tryd.pinned (.plain (OpenSpec.ofChange orderBatchesSpec)) orderBatchesCard

/-- THE TIED CARD OF 'reportescrowlaw16.FormsBack'. -/
def formsBackCard : Claim7 := { stood := { row := formsBackRow, standIns := [], harness := (true, "33d2b218c4ef3e7ce57e28954eaaa7849c3f54b198e8406df33476c02b5011ff"), looks := true }, kinds := [], alts := [], laidByText := true, laidKinds := [.data, .data, .data, .sentinel, .sentinel], laidTests := true, laidLooks := .later }
def FormsBackCardSaid : Prop := Claim7.holds Tryd.pinned (.plain (OpenSpec.ofChange formsBackSpec)) formsBackCard

/-- THE SECOND FORM's CARD OF 'reportescrowlaw16.FormsDeep'. -/
def formsDeepUptoCard : Claim7 := { stood := { row := formsDeepUptoRow, standIns := [], harness := (true, "33d2b218c4ef3e7ce57e28954eaaa7849c3f54b198e8406df33476c02b5011ff"), looks := true }, kinds := [], alts := [], laidByText := true, laidKinds := [.data, .data, .data, .sentinel, .sentinel], laidTests := true, laidLooks := .later }
def FormsDeepUptoCardSaid : Prop := Claim7.holds Tryd.pinned (.plain (OpenSpec.upto formsDeepSpec)) formsDeepUptoCard

/-- THE SECOND FORM's CARD OF 'reportescrowlaw16.FormsNames'. -/
def formsNamesUptoCard : Claim7 := { stood := { row := formsNamesUptoRow, standIns := [], harness := (true, "33d2b218c4ef3e7ce57e28954eaaa7849c3f54b198e8406df33476c02b5011ff"), looks := true }, kinds := [], alts := [], laidByText := true, laidKinds := [.data, .data, .data, .sentinel, .sentinel], laidTests := true, laidLooks := .later }
def FormsNamesUptoCardSaid : Prop := Claim7.holds Tryd.pinned (.plain (OpenSpec.upto formsNamesSpec)) formsNamesUptoCard

/-- THE SECOND FORM's CARD OF 'reportescrowlaw31.OrderSlots'. -/
def orderSlotsUptoCard : Claim7 := { stood := { row := orderSlotsUptoRow, standIns := [], harness := (true, "33d2b218c4ef3e7ce57e28954eaaa7849c3f54b198e8406df33476c02b5011ff"), looks := true }, kinds := [], alts := [], laidByText := true, laidKinds := [.data, .data, .data], laidTests := true, laidLooks := .later }
def OrderSlotsUptoCardSaid : Prop := Claim7.holds Tryd.pinned (.plain (OpenSpec.upto orderSlotsSpec)) orderSlotsUptoCard

/-- THE SECOND FORM's CARD OF 'reportescrowlaw31.OrderBatches'. -/
def orderBatchesUptoCard : Claim7 := { stood := { row := orderBatchesUptoRow, standIns := [], harness := (true, "33d2b218c4ef3e7ce57e28954eaaa7849c3f54b198e8406df33476c02b5011ff"), looks := true }, kinds := [], alts := [], laidByText := true, laidKinds := [.data, .data, .data], laidTests := true, laidLooks := .later }
def OrderBatchesUptoCardSaid : Prop := Claim7.holds Tryd.pinned (.plain (OpenSpec.upto orderBatchesSpec)) orderBatchesUptoCard

/-- THE SECOND FORM's CARD OF 'reportescrowlaw16.FormsBack'. -/
def formsBackUptoCard : Claim7 := { stood := { row := formsBackUptoRow, standIns := [], harness := (true, "33d2b218c4ef3e7ce57e28954eaaa7849c3f54b198e8406df33476c02b5011ff"), looks := true }, kinds := [], alts := [], laidByText := true, laidKinds := [.data, .data, .data, .sentinel, .sentinel], laidTests := true, laidLooks := .later }
def FormsBackUptoCardSaid : Prop := Claim7.holds Tryd.pinned (.plain (OpenSpec.upto formsBackSpec)) formsBackUptoCard
end Rows
end Go.Proofs.YthfmmememdlekaaDoor
