/- Contracts: whether numbers are a field's elements (at any numbers). -/
import Derived.Test.YtgeahbmaeaoeeaaGreatDoorCoDif
set_option linter.unusedVariables false
set_option linter.unusedSimpArgs false
namespace Go.Proofs.YtgeahbmaeaoeeaaGreatDoor
open Go.RowKit Num

set_option maxRecDepth 100000 in
set_option maxHeartbeats 1000000 in
/-- val: what field.Valid says. -/
theorem c_Elements (p : Int) (val : Bool) (v : Value) (xs : List Int) (S : Nat → Prop) (w : World) (hv : IntsAt w S v xs) (hl : xs.length ≤ 1000000)
    (hval : Calls Tryz.prog 63 #[.int .i64 p] w fun e w' => e = .returned (.bool val) ∧ w = w') :
    Calls Tryz.prog 118 #[.int .i64 p, v] w fun e w' => ∃ b : Bool, e = .returned (.bool b) ∧ (b = true ↔ (∀ i, i < xs.length → 0 ≤ xs.getD i 0 ∧ xs.getD i 0 < p) ∧ val = true) ∧ w = w' := by
  obtain ⟨A, n, ca, rfl, hn, hnc, hcc⟩ := id hv
  rw [← hn] at hl ⊢
  have HCC := Lib.hid hcc
  have HV := Lib.hid hval
  clear hv hn hcc hval
  go_enter Tryz.func118, Tryz.ntmps118
  go_wp2_with fail
  go_loopw [9] (fun t wr => ∃ i : Nat, i ≤ n ∧ t = .int .i64 i ∧ (∀ j, j < i → 0 ≤ xs.getD j 0 ∧ xs.getD j 0 < p) ∧ w = wr) (fun t _ => n - (intOf t).toNat)
  case atStart => exact ⟨0, by omega, rfl, fun j hj => absurd hj (Nat.not_lt_zero j), rfl⟩
  case round =>
    obtain ⟨i, hin, rfl, hz, rfl⟩ := hrel
    have HZ := Lib.hid hz
    clear hz
    by_cases hlt : i < n
    · obtain ⟨b, off, rfl, _, hc⟩ := HCC.out (by omega)
      have cx := hc i hlt
      obtain ⟨x, hx⟩ : ∃ x, xs.getD i 0 = x := ⟨_, rfl⟩
      rw [hx] at cx
      have HX := Lib.hid hx
      have qi : (i : Int) < (n : Int) := by omega
      have qi0 : (0 : Int) ≤ (i : Int) := by omega
      clear hx hc
      by_cases h0 : x < 0
      · have HE := Lib.hid h0
        have t1 : decide (x < 0) = true := decide_eq_true h0
        clear h0
        go_wp2_with fail
        go_ret
        exact ⟨false, rfl, ⟨fun h => by simp at h, fun h => absurd (h.1 i hlt).1 (by rw [HX.out]; have := HE.out; omega)⟩, rfl⟩
      · have t1 : decide (x < 0) = false := decide_eq_false h0
        by_cases h1 : p ≤ x
        · have HE := Lib.hid h1
          have t2 : decide (p ≤ x) = true := decide_eq_true h1
          clear h1 h0
          go_wp2_with fail
          go_ret
          exact ⟨false, rfl, ⟨fun h => by simp at h, fun h => absurd (h.1 i hlt).2 (by rw [HX.out]; have := HE.out; omega)⟩, rfl⟩
        · have HE := Lib.hid h1
          have HE0 := Lib.hid h0
          have t2 : decide (p ≤ x) = false := decide_eq_false h1
          clear h1 h0
          go_wp2_with fail
          go_roundw
          case measure => simp [intOf]; omega
          case rel => exact ⟨i + 1, by omega, by go_num, (fun j hj => by
            rcases Nat.lt_or_ge j i with h | h
            · exact HZ.out j h
            · rw [show j = i by omega, HX.out]
              have := HE.out
              have := HE0.out
              omega), by first | rfl | trivial⟩
    · have hi' : i = n := by omega
      subst hi'
      go_wp2_with fail
      refine HV.out.mono ?_
      rintro e w' ⟨rfl, rfl⟩
      go_wp2_with fail
      go_ret
      exact ⟨val, rfl, ⟨fun h => ⟨HZ.out, h⟩, fun h => h.2⟩, rfl⟩
end Go.Proofs.YtgeahbmaeaoeeaaGreatDoor
