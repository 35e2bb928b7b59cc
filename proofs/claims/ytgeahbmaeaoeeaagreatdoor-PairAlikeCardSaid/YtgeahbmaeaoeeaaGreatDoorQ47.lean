/- Contracts: how many bytes one element holds. -/
import Derived.Test.YtgeahbmaeaoeeaaGreatDoorQ37
set_option linter.unusedVariables false
set_option linter.unusedSimpArgs false
namespace Go.Proofs.YtgeahbmaeaoeeaaGreatDoor
open Go.RowKit Num

/-- How many bytes one element holds. -/
def widP (p : Nat) : Nat := if p < 256 then 0 else if p < 65536 then 1 else if p < 16777216 then 2 else 3
theorem widP_le (p : Nat) : widP p ≤ 3 := by
  unfold widP; repeat' split
  all_goals omega
/-- How many elements sixteen bytes are. -/
def cntP (p : Nat) : Nat := if widP p = 0 then 128 else if widP p = 1 then 16 else if widP p = 2 then 8 else 6
theorem cntP_le (p : Nat) : cntP p ≤ 128 := by
  unfold cntP; repeat' split
  all_goals omega
set_option maxHeartbeats 1000000 in
theorem p_Width (p : Nat) (w : World) (h2 : p ≤ 1073741824) :
    Calls Tryz.prog 52 #[.int .i64 (p : Int)] w fun e w' => e = .returned (.int .i64 ((widP p : Nat) : Int)) ∧ w = w' := by
  obtain ⟨v, hv⟩ : ∃ v, widP p = v := ⟨_, rfl⟩
  have hc : (v = 0 ∧ p < 256) ∨ (v = 1 ∧ 256 ≤ p ∧ p < 65536) ∨ (v = 2 ∧ 65536 ≤ p ∧ p < 16777216) ∨ (v = 3 ∧ 16777216 ≤ p) := by
    unfold widP at hv; repeat' split at hv
    all_goals omega
  rw [hv]
  clear hv
  go_enter Tryz.func52, Tryz.ntmps52
  go_wp2_with fail
  go_loopw [3, 4] (fun x t wr => ∃ k : Nat, k ≤ v ∧ x = .int .i64 (k : Int) ∧ t = .int .i64 ((256 ^ (k + 1) : Nat) : Int) ∧ w = wr) (fun x _ _ => 3 - (intOf x).toNat)
  case atStart => exact ⟨0, by omega, rfl, rfl, rfl⟩
  case round =>
    obtain ⟨k, hk, rfl, rfl, rfl⟩ := hrel
    rcases (show (k = 0 ∧ v = 0) ∨ (k = 0 ∧ 0 < v) ∨ (k = 1 ∧ v = 1) ∨ (k = 1 ∧ 1 < v) ∨ (k = 2 ∧ v = 2) ∨ (k = 2 ∧ 2 < v) ∨ (k = 3 ∧ v = 3) by omega) with ⟨rfl, rfl⟩ | ⟨rfl, hv⟩ | ⟨rfl, rfl⟩ | ⟨rfl, hv⟩ | ⟨rfl, rfl⟩ | ⟨rfl, hv⟩ | ⟨rfl, rfl⟩
    · have t : decide ((256 : Int) ≤ (p : Int)) = false := decide_eq_false (by omega)
      go_wp2_with fail
      go_ret
      exact ⟨rfl, rfl⟩
    · have t : decide ((256 : Int) ≤ (p : Int)) = true := decide_eq_true (by omega)
      go_wp2_with fail
      go_roundw
      case measure => simp [intOf]
      case rel => exact ⟨1, by omega, rfl, rfl, trivial⟩
    · have t : decide ((65536 : Int) ≤ (p : Int)) = false := decide_eq_false (by omega)
      go_wp2_with fail
      go_ret
      exact ⟨rfl, rfl⟩
    · have t : decide ((65536 : Int) ≤ (p : Int)) = true := decide_eq_true (by omega)
      go_wp2_with fail
      go_roundw
      case measure => simp [intOf]
      case rel => exact ⟨2, by omega, rfl, rfl, trivial⟩
    · have t : decide ((16777216 : Int) ≤ (p : Int)) = false := decide_eq_false (by omega)
      go_wp2_with fail
      go_ret
      exact ⟨rfl, rfl⟩
    · have t : decide ((16777216 : Int) ≤ (p : Int)) = true := decide_eq_true (by omega)
      go_wp2_with fail
      go_roundw
      case measure => simp [intOf]
      case rel => exact ⟨3, by omega, rfl, rfl, trivial⟩
    · go_wp2_with fail
      go_ret
      exact ⟨rfl, rfl⟩
def IntBelowM (n : Int) (w : World) (e : Ending) (w' : World) : Prop := e = .returned (.int .i64 n) ∧ Below w.heap.size w w'
set_option maxHeartbeats 1000000 in
theorem p_Count (p : Nat) (w : World) (h2 : p ≤ 1073741824) :
    Calls Tryz.prog 28 #[.int .i64 (p : Int), .int .i64 16] w (IntBelowM ((cntP p : Nat) : Int) w) := by
  have hw := fun W => p_Width p W h2
  have hle := widP_le p
  unfold cntP
  obtain ⟨v, hv⟩ : ∃ v, widP p = v := ⟨_, rfl⟩
  rw [hv] at hw hle ⊢
  have HW := Lib.hid hw
  clear hw hv
  rcases (show v = 0 ∨ v = 1 ∨ v = 2 ∨ v = 3 by omega) with rfl | rfl | rfl | rfl
  · go_enter Tryz.func28, Tryz.ntmps28
    go_wp2_with fail
    refine (HW.out _).mono ?_
    rintro e w' ⟨rfl, rfl⟩
    go_wp2_with fail
    go_ret
    exact ⟨rfl, Below.refl _ _⟩
  all_goals
    go_enter Tryz.func28, Tryz.ntmps28
    go_wp2_with fail
    refine (HW.out _).mono ?_
    rintro e w' ⟨rfl, rfl⟩
    go_wp2_with fail
    go_region
    all_goals
      go_wp2_with fail
      go_ret
      exact ⟨rfl, (Below.refl _ _).drew⟩
end Go.Proofs.YtgeahbmaeaoeeaaGreatDoor
