/- Contracts: whether a number stands in a list; whether numbers differ (at any numbers). -/
import Derived.Test.YtgeahbmaeaoeeaaGreatDoorPolW
import Derived.Test.YtgeahbmaeaoeeaaGreatDoorPlyNum
import Derived.RangeFuncNested
import Derived.RangeFuncBound
import Derived.RangeFuncCalls
import Derived.RangeFuncLeaves
import Derived.RangeFuncWrites
import Derived.RangeFuncBox
import Derived.Shelf.Abstract
import Derived.Shelf.RegionOpen
import Derived.WalkKit
import Derived.OwnWalkIn
import Derived.TacticsInMore
import Derived.LoopNIn
import Derived.LoopIn
import Derived.Test.YtgeahbmaeaoeeaaGreatDoorHanNum
import Derived.Deep.RegionHeld3
import Derived.OrdersIn
import Derived.TacticsIn
import Derived.Test.YtgeahbmaeaoeeaaGreatDoorPolV
import Derived.Lib.SliceRun
import Derived.BigRegion
set_option linter.unusedVariables false
set_option linter.unusedSimpArgs false
namespace Go.Proofs.YtgeahbmaeaoeeaaGreatDoor
open Go.RowKit Num

set_option maxRecDepth 100000 in
set_option maxHeartbeats 1000000 in
theorem c_Index (v : Value) (xs : List Int) (y : Int) (S : Nat → Prop) (w : World) (hv : IntsAt w S v xs) (hl : xs.length ≤ 1000000) :
    Calls Tryz.prog 88 #[v, .int .i64 y] w fun e w' => ∃ r : Int, e = .returned (.int .i64 r) ∧ ((r = -1 ∧ ∀ j, j < xs.length → xs.getD j 0 ≠ y) ∨ ∃ j : Nat, j < xs.length ∧ r = (j : Int) ∧ xs.getD j 0 = y) ∧ w = w' := by
  obtain ⟨A, n, ca, rfl, hn, hnc, hcc⟩ := id hv
  rw [← hn] at hl ⊢
  have HCC := Lib.hid hcc
  clear hv hn hcc
  go_enter Tryz.func88, Tryz.ntmps88
  go_wp2_with fail
  go_loopw [8] (fun t wr => ∃ i : Nat, i ≤ n ∧ t = .int .i64 i ∧ (∀ j, j < i → xs.getD j 0 ≠ y) ∧ w = wr) (fun t _ => n - (intOf t).toNat)
  case atStart => exact ⟨0, by omega, rfl, fun j hj => absurd hj (Nat.not_lt_zero j), rfl⟩
  case round =>
    obtain ⟨i, hin, rfl, hz, rfl⟩ := hrel
    have HZ := Lib.hid hz
    clear hz
    by_cases hlt : i < n
    · obtain ⟨b, off, rfl, _, hc⟩ := HCC.out (by omega)
      have cx := hc i hlt
      obtain ⟨x, hx⟩ : ∃ x, xs.getD i 0 = x := ⟨_, rfl⟩
      rw [hx] at cx
      have HX := Lib.hid hx
      have qi : (i : Int) < (n : Int) := by omega
      have qi0 : (0 : Int) ≤ (i : Int) := by omega
      clear hx hc
      by_cases hxy : y = x
      · have t0 : (y == x) = true := by simpa using hxy
        have HE := Lib.hid hxy
        clear hxy
        go_wp2_with fail
        go_ret
        exact ⟨_, rfl, .inr ⟨i, hlt, rfl, by rw [HX.out]; exact HE.out.symm⟩, rfl⟩
      · have t0 : (y == x) = false := by simpa using hxy
        have HE := Lib.hid hxy
        clear hxy
        go_wp2_with fail
        go_roundw
        case measure => simp [intOf]; omega
        case rel => exact ⟨i + 1, by omega, by go_num, fun j hj => by
          rcases Nat.lt_or_ge j i with h | h
          · exact HZ.out j h
          · rw [show j = i by omega, HX.out]; exact fun e => HE.out e.symm, by first | rfl | trivial⟩
    · have hi' : i = n := by omega
      subst hi'
      go_wp2_with fail
      go_ret
      exact ⟨_, rfl, .inl ⟨rfl, HZ.out⟩, rfl⟩
set_option maxHeartbeats 1000000 in
theorem c_Contains (v : Value) (xs : List Int) (y : Int) (S : Nat → Prop) (w : World) (hv : IntsAt w S v xs) (hl : xs.length ≤ 1000000) :
    Calls Tryz.prog 68 #[v, .int .i64 y] w fun e w' => ∃ b : Bool, e = .returned (.bool b) ∧ (b = true ↔ ∃ j, j < xs.length ∧ xs.getD j 0 = y) ∧ w = w' := by
  have h := c_Index v xs y S w hv hl
  have H := Lib.hid h
  clear h
  go_enter Tryz.func68, Tryz.ntmps68
  go_wp2_with fail
  refine H.out.mono ?_
  rintro e w' ⟨r, rfl, hr, rfl⟩
  have hb : (decide ((0 : Int) ≤ r) = true ↔ ∃ j, j < xs.length ∧ xs.getD j 0 = y) := by
    rw [decide_eq_true_iff]
    rcases hr with ⟨rfl, hn⟩ | ⟨j, h1, rfl, h3⟩
    · exact ⟨fun h => by omega, fun ⟨j, h1, h3⟩ => absurd h3 (hn j h1)⟩
    · exact ⟨fun _ => ⟨j, h1, h3⟩, fun _ => by omega⟩
  have HB := Lib.hid hb
  clear hr hb
  go_wp2_with fail
  go_ret
  exact ⟨_, rfl, HB.out, rfl⟩
end Go.Proofs.YtgeahbmaeaoeeaaGreatDoor
