/- Values in a row of cells. -/
import Derived.Test.YtgeahbmaeaoeeaaGreatDoorHanSha
set_option linter.unusedVariables false
set_option linter.unusedSimpArgs false
namespace Go.Proofs.YtgeahbmaeaoeeaaGreatDoor
open Go.RowKit Num

/-- Values in a row of cells. -/
structure ArrV (w : World) (B n : Nat) (f : Nat → Value) : Prop where
  cell : ∀ i, i < n → w.cell? ⟨B, i, none⟩ = some (f i)
  live : ∀ i, i < n → w.frozen? ⟨B, i, none⟩ = false
def updV (f : Nat → Value) (i : Nat) (v : Value) : Nat → Value := fun j => if j = i then v else f j
theorem ArrV.upd {w : World} {B n : Nat} {f : Nat → Value} (h : ArrV w B n f) {i : Nat} (v : Value) (hi : i < n) : ArrV (w.setCell ⟨B, i, none⟩ v) B n (updV f i v) := by
  refine ⟨fun j hj => ?_, fun j hj => ?_⟩
  · by_cases hji : j = i
    · subst hji; rw [World.cell?_setCell_same _ _ _ (h.cell j hj)]; unfold updV; rw [if_pos rfl]
    · rw [World.cell?_setCell_other _ _ _ _ (by intro e; injection e with e1 e2; exact hji e2.symm), h.cell j hj]; unfold updV; rw [if_neg hji]
  · rw [World.frozen?_setCell]; exact h.live j hj
theorem ArrV.congr {w : World} {B n : Nat} {f g : Nat → Value} (h : ArrV w B n f) (e : ∀ i, i < n → f i = g i) : ArrV w B n g :=
  ⟨fun i hi => by rw [h.cell i hi, e i hi], h.live⟩
theorem ArrV.drew {w : World} {B n : Nat} {f : Nat → Value} (h : ArrV w B n f) : ArrV w.drew B n f := ⟨h.cell, h.live⟩
end Go.Proofs.YtgeahbmaeaoeeaaGreatDoor
