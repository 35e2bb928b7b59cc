/- Contracts: ranges.In, order.Slot. -/
import Derived.Test.YtgeahbmaeaoeeaaGreatDoorHanNum
import Derived.Test.YtgeahbmaeaoeeaaGreatDoorHanFld
set_option linter.unusedVariables false
set_option linter.unusedSimpArgs false
namespace Go.Proofs.YtgeahbmaeaoeeaaGreatDoor
open Go.RowKit Num

set_option maxHeartbeats 400000 in
theorem o_In (n a b : Int) (w : World) : Calls Tryz.prog 46 #[.int .i64 n, .int .i64 a, .int .i64 b] w fun e w' => e = .returned (.bool (decide (a ≤ n ∧ n ≤ b))) ∧ w = w' := by
  by_cases h1 : a ≤ n
  · by_cases h2 : n ≤ b
    · have y1 : n ≥ a := h1
      go_enter Tryz.func46, Tryz.ntmps46
      go_wp2_with fail
      go_ret
      exact ⟨by simp [h1, h2], rfl⟩
    · have y1 : n ≥ a := h1
      go_enter Tryz.func46, Tryz.ntmps46
      go_wp2_with fail
      go_ret
      exact ⟨by simp [h1, h2], rfl⟩
  · have y1 : ¬ n ≥ a := h1
    go_enter Tryz.func46, Tryz.ntmps46
    go_wp2_with fail
    go_ret
    exact ⟨by first | rfl | (simp; done) | (simp [h1]; omega), rfl⟩
theorem o_InT (n a b : Int) (w : World) (h : a ≤ n ∧ n ≤ b) : Calls Tryz.prog 46 #[.int .i64 n, .int .i64 a, .int .i64 b] w fun e w' => e = .returned (.bool true) ∧ w = w' := by
  have := o_In n a b w
  rwa [decide_eq_true h] at this
/-- The first multiple that is not earlier. -/
def slotN (t p : Nat) : Nat := (t + p - 1) / p * p
theorem slot_ge (t p : Nat) (hp : 1 ≤ p) : t ≤ slotN t p ∧ slotN t p < t + p ∧ slotN t p % p = 0 := by
  unfold slotN
  have h1 := Nat.div_add_mod (t + p - 1) p
  have h2 := Nat.mod_lt (t + p - 1) (show 0 < p by omega)
  have h3 : p * ((t + p - 1) / p) = (t + p - 1) / p * p := Nat.mul_comm _ _
  refine ⟨by omega, by omega, Nat.mul_mod_left _ _⟩
theorem slot_mul (m p : Nat) (hp : 1 ≤ p) (r : Nat) (hr : r < p) (h0 : r < m * p + 1) : slotN (m * p - r) p = m * p := by
  have h1 : (m * p - r + p - 1) / p = m := by
    rw [show m * p - r + p - 1 = (p - 1 - r) + m * p by omega, Nat.add_mul_div_right _ _ (by omega : 0 < p), Nat.div_eq_of_lt (by omega)]; omega
  unfold slotN
  rw [h1]
theorem slot_again (t p : Nat) (hp : 1 ≤ p) : slotN (slotN t p) p = slotN t p := by
  have := slot_mul ((t + p - 1) / p) p hp 0 (by omega) (by omega)
  exact this
theorem slot_first (t p : Nat) (hp : 1 ≤ p) : slotN (slotN t p + 1 - p) p = slotN t p := by
  rcases Nat.eq_zero_or_pos ((t + p - 1) / p) with h | h
  · have e : slotN t p = 0 := by unfold slotN; rw [h]; omega
    rw [e, show 0 + 1 - p = 0 by omega]
    have := slot_mul 0 p hp 0 (by omega) (by omega)
    simpa using this
  · have h2 : p ≤ (t + p - 1) / p * p := Nat.le_mul_of_pos_left p h
    have := slot_mul ((t + p - 1) / p) p hp (p - 1) (by omega) (by omega)
    rw [show (t + p - 1) / p * p - (p - 1) = slotN t p + 1 - p by unfold slotN; omega] at this
    exact this
def SlotE (s : Nat) (w : World) (e : Ending) (w' : World) : Prop := e = .returned (.tuple #[.int .i64 (s : Int), .int .i64 0]) ∧ w = w'
end Go.Proofs.YtgeahbmaeaoeeaaGreatDoor
