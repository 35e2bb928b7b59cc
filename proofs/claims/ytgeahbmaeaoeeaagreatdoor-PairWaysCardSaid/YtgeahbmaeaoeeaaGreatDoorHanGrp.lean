/- Contracts: the group of a safe prime. -/
import Derived.Test.YtgeahbmaeaoeeaaGreatDoorHanVal
set_option linter.unusedVariables false
set_option linter.unusedSimpArgs false
namespace Go.Proofs.YtgeahbmaeaoeeaaGreatDoor
open Go.RowKit Num

theorem cellOf {B : Nat} {w w' : World} (h : Below B w w') {a : Addr} {v : Value} (hc : w.cell? a = some v) (hB : w.heap.size ≤ B) : w'.cell? a = some v := by
  rw [h.cell (Nat.lt_of_lt_of_le (World.block_lt_of_cell? w a hc) hB)]
  exact hc
theorem BasesOk.below {w w' : World} (h : BasesOk w) (hb : Below w.heap.size w w') : BasesOk w' :=
  ⟨cellOf hb h.1 (Nat.le_refl _), cellOf hb h.2.1 (Nat.le_refl _), cellOf hb h.2.2.1 (Nat.le_refl _), cellOf hb h.2.2.2 (Nat.le_refl _)⟩
theorem BasesOk.alloc {w : World} (h : BasesOk w) (o : Obj) : BasesOk (w.alloc o) := h.below ((Below.refl _ _).alloc (Nat.le_refl _) _)
/-- A safe prime: it and twice it plus one are prime. -/
def SPrm (p : Nat) : Prop := Prm p ∧ Prm (2 * p + 1) ∧ 3 ≤ p ∧ p ≤ 1073741823
theorem safe_sprm {p : Nat} (h : Num.Safe p) : SPrm p := ⟨safe_prm h, safe_prm2 h, (safe_bd h).1, by have := (safe_bd h).2; omega⟩

end Go.Proofs.YtgeahbmaeaoeeaaGreatDoor
