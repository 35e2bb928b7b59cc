/- The contract of the kit's turn of shares. -/
import Derived.Test.YtgeahbmaeaoeeaaGreatDoorKitTurn
set_option linter.unusedVariables false
set_option linter.unusedSimpArgs false
namespace Go.Proofs.YtgeahbmaeaoeeaaGreatDoor
open Go.RowKit Num

theorem blk_some {w : World} {g j : Nat} {t : TypeId} {cs : Array Value} (h : Blk w g t cs) (hj : j < cs.size) : ∃ y, w.cell? ⟨g, j, none⟩ = some y := ⟨cs[j], by rw [h.cell, Array.getElem?_eq_getElem hj]⟩
end Go.Proofs.YtgeahbmaeaoeeaaGreatDoor
