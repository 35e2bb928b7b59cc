/-
  DERIVED. GIVEN WITH THE SEED: THE CARDS: each row of YtbgodionpdemeaaDoorRows.lean that lists a variable, with what it lists TIED to the program's text (the seventh form; the later family's looks); each row that meets fmt, with fmt's text TOLD by the authors' own Lean function (tested against real Go, not proved from fmt's source: count such statements apart). THE CARD IS WHAT COUNTS. Prove the row's statement (the work); the ties are given (YtbgodionpdemeaaDoorTie.lean); close each card by the builder's one call (the guide's Derived/Test/ToyasCard.lean, 'card_holds'). Laid BY PROGRAM, IN A SANDBOX (cutbox-door.mjs). By AI agents, Wed Nov 11 2026. No macro, syntax, notation, axiom, sorry.
-/
import Derived.Test.YtbgodionpdemeaaDoorRows
import GoSem.ClaimSeven
namespace Go.Proofs.YtbgodionpdemeaaDoor
namespace Rows

/-- THE TIED CARD OF 'reportescrowlaw10.CalendarOrder'. -/
def calendarOrderCard : Claim7 := { stood := { row := calendarOrderRow, standIns := [], harness := (true, "02de06eeed97021c39eb76bdf1a10748bb98d26caec33431b731f96c0f92184f"), looks := true }, kinds := [], alts := [], laidByText := true, laidKinds := [.data, .data, .data], laidTests := true, laidLooks := .later }
def CalendarOrderCardSaid : Prop := Claim7.holds Tryd.pinned (.plain (OpenSpec.ofChange calendarOrderSpec)) calendarOrderCard

/-- THE TIED CARD OF 'reportescrowlaw10.CalendarTexts'. -/
def calendarTextsCard : Claim7 := { stood := { row := calendarTextsRow, standIns := [], harness := (true, "02de06eeed97021c39eb76bdf1a10748bb98d26caec33431b731f96c0f92184f"), looks := true }, kinds := [], alts := [], laidByText := true, laidKinds := [.data, .data, .data, .data, .sentinel, .sentinel, .pinned], laidTests := true, laidLooks := .later }
def CalendarTextsCardSaid : Prop := Claim7.holds Tryd.pinned (.plain (OpenSpec.ofChange calendarTextsSpec)) calendarTextsCard

/-- THE TIED CARD OF 'reportescrowlaw10.CalendarBack'. -/
def calendarBackCard : Claim7 := { stood := { row := calendarBackRow, standIns := [], harness := (true, "02de06eeed97021c39eb76bdf1a10748bb98d26caec33431b731f96c0f92184f"), looks := true }, kinds := [], alts := [], laidByText := true, laidKinds := [.data, .data, .data, .data, .sentinel, .sentinel, .pinned], laidTests := true, laidLooks := .later }
def CalendarBackCardSaid : Prop := Claim7.holds Tryd.pinned (.plain (OpenSpec.ofChange calendarBackSpec)) calendarBackCard

/-- THE SECOND FORM's CARD OF 'reportescrowlaw10.CalendarOrder'. -/
def calendarOrderUptoCard : Claim7 := { stood := { row := calendarOrderUptoRow, standIns := [], harness := (true, "02de06eeed97021c39eb76bdf1a10748bb98d26caec33431b731f96c0f92184f"), looks := true }, kinds := [], alts := [], laidByText := true, laidKinds := [.data, .data, .data], laidTests := true, laidLooks := .later }
def CalendarOrderUptoCardSaid : Prop := Claim7.holds Tryd.pinned (.plain (OpenSpec.upto calendarOrderSpec)) calendarOrderUptoCard

/-- THE SECOND FORM's CARD OF 'reportescrowlaw10.CalendarTexts'. -/
def calendarTextsUptoCard : Claim7 := { stood := { row := calendarTextsUptoRow, standIns := [], harness := (true, "02de06eeed97021c39eb76bdf1a10748bb98d26caec33431b731f96c0f92184f"), looks := true }, kinds := [], alts := [], laidByText := true, laidKinds := [.data, .data, .data, .data, .sentinel, .sentinel, .pinned], laidTests := true, laidLooks := .later }
def CalendarTextsUptoCardSaid : Prop := Claim7.holds Tryd.pinned (.plain (OpenSpec.upto calendarTextsSpec)) calendarTextsUptoCard

/-- THE SECOND FORM's CARD OF 'reportescrowlaw10.CalendarBack'. -/
def calendarBackUptoCard : Claim7 := { stood := { row := calendarBackUptoRow, standIns := [], harness := (true, "02de06eeed97021c39eb76bdf1a10748bb98d26caec33431b731f96c0f92184f"), looks := true }, kinds := [], alts := [], laidByText := true, laidKinds := [.data, .data, .data, .data, .sentinel, .sentinel, .pinned], laidTests := true, laidLooks := .later }
def CalendarBackUptoCardSaid : Prop := Claim7.holds Tryd.pinned (.plain (OpenSpec.upto calendarBackSpec)) calendarBackUptoCard
end Rows
end Go.Proofs.YtbgodionpdemeaaDoor
