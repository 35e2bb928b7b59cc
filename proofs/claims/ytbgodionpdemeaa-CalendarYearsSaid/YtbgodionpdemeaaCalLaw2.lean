/- The walk of CalendarYears: the law returns true at every input. -/
import Derived.Test.YtbgodionpdemeaaCalLaw1
set_option linter.unusedVariables false
set_option linter.unusedSimpArgs false
namespace Go.Proofs.Ytbgodionpdemeaa
open Go.RowKit Cal

set_option maxRecDepth 100000 in
set_option maxHeartbeats 2000000 in
theorem law_years (a0 a1 a2 : Int) (w : World) :
    Calls Try.prog 4 #[.int .i64 a0, .int .i64 a1, .int .i64 a2] w fun e w' => e = .returned (.bool true) ∧ Below w.heap.size w w' := by
  have m1 := kmod_bd a0 (m := 3652059) (by omega)
  have m2 := kmod_bd a0 (m := 100) (by omega)
  have m3 := kmod_bd a2 (m := 110) (by omega)
  have m4 := kmod_bd a2 (m := 10003) (by omega)
  have m5 := kmod_bd a1 (m := 3652059) (by omega)
  have m6 := kmod_bd a2 (m := 50) (by omega)
  have m7 := kmod_bd a1 (m := 3) (by omega)
  go_enter Try.func4, Try.ntmps4
  go_wp2_with (go_at_call 6; refine (kit_Mod _ _ _ (by omega) (by omega)).mono ?_; rintro e w' ⟨rfl, rfl⟩)
  go_loopw [26] (fun i wr => ∃ k : Nat, k ≤ 3 ∧ i = .int .i64 k ∧ Below (w.heap.size + 1) (w.alloc (.cells #[.int .i64 a0, .int .i64 (kmod a0 3652059), .int .i64 (59 + 365 * kmod a0 100)] 3)) wr) (fun i _ => 3 - (intOf i).toNat)
  case atStart => exact ⟨0, by omega, rfl, Below.refl _ _⟩
  case round =>
    obtain ⟨k, hk, rfl, hb⟩ := hrel
    by_cases hlt : k < 3
    · have hcell := cell3_at hb hlt
      obtain ⟨y, hy⟩ : ∃ y, pick3 a0 (kmod a0 3652059) (59 + 365 * kmod a0 100) k = y := ⟨_, rfl⟩
      rw [hy] at hcell
      clear hy
      obtain ⟨wo, rfl⟩ : ∃ wo : World, wo = wr := ⟨_, rfl⟩
      have HB := Lib.hid hb
      clear hb
      go_wp2_with (go_at_call 6; refine (kit_Mod _ _ _ (by omega) (by omega)).mono ?_; rintro e w' ⟨rfl, rfl⟩)
      go_loopw [39] (fun i wr => ∃ k : Nat, k ≤ 3 ∧ i = .int .i64 k ∧ Below (wo.heap.size + 1) (wo.alloc (.cells #[.int .i64 a2, .int .i64 (kmod a2 110 - 4), .int .i64 (-kmod a2 10003)] 3)) wr) (fun i _ => 3 - (intOf i).toNat)
      case atStart => exact ⟨0, by omega, rfl, Below.refl _ _⟩
      case round =>
        obtain ⟨k2, hk2, rfl, hb2⟩ := hrel
        by_cases hlt2 : k2 < 3
        · have hcell2 := cell3_at hb2 hlt2
          obtain ⟨m, hm⟩ : ∃ m, pick3 a2 (kmod a2 110 - 4) (-kmod a2 10003) k2 = m := ⟨_, rfl⟩
          rw [hm] at hcell2
          clear hm
          obtain ⟨wp, rfl⟩ : ∃ wp : World, wp = wr := ⟨_, rfl⟩
          have HB2 := Lib.hid hb2
          clear hb2
          have m8 := kmod_bd y (m := 3652059) (by omega)
          have m9 := addN_bd (kmod y 3652059) (kmod a2 50)
          go_wp2_with fail
          refine (cal_Add _ _ _).mono ?_
          rintro e w1 ⟨rfl, hc1⟩
          go_wp2_with fail
          refine (ref_Add _ _ _).mono ?_
          rintro e w' ⟨rfl, rfl⟩
          go_wp2_with fail
          refine (cal_Within _ _ _ _).mono ?_
          rintro e w2 ⟨rfl, hc2⟩
          go_wp2_with fail
          refine (ref_Within _ _ _ _).mono ?_
          rintro e w' ⟨rfl, rfl⟩
          go_wp2_with fail
          refine (kit_Mod _ _ _ (by omega) (by omega)).mono ?_
          rintro e w' ⟨rfl, rfl⟩
          go_wp2_with fail
          refine (cal_Within _ _ _ _).mono ?_
          rintro e w3 ⟨rfl, hc3⟩
          go_wp2_with fail
          refine (kit_Mod _ _ _ (by omega) (by omega)).mono ?_
          rintro e w' ⟨rfl, rfl⟩
          go_wp2_with fail
          refine (ref_Within _ _ _ _).mono ?_
          rintro e w' ⟨rfl, rfl⟩
          go_wp2_with fail
          refine (kit_Mod _ _ _ (by omega) (by omega)).mono ?_
          rintro e w' ⟨rfl, rfl⟩
          go_wp2_with fail
          refine (kit_Mod _ _ _ (by omega) (by omega)).mono ?_
          rintro e w' ⟨rfl, rfl⟩
          go_wp2_with fail
          refine (ref_Add _ _ _).mono ?_
          rintro e w' ⟨rfl, rfl⟩
          go_wp2_with fail
          refine (kit_Mod _ _ _ (by omega) (by omega)).mono ?_
          rintro e w' ⟨rfl, rfl⟩
          go_wp2_with fail
          refine (kit_Mod _ _ _ (by omega) (by omega)).mono ?_
          rintro e w' ⟨rfl, rfl⟩
          go_wp2_with fail
          refine (cal_Within _ _ _ _).mono ?_
          rintro e w4 ⟨rfl, hc4⟩
          go_wp2_with fail
          refine (kit_Mod _ _ _ (by omega) (by omega)).mono ?_
          rintro e w' ⟨rfl, rfl⟩
          go_wp2_with fail
          refine (kit_Mod _ _ _ (by omega) (by omega)).mono ?_
          rintro e w' ⟨rfl, rfl⟩
          go_wp2_with fail
          refine (ref_Within _ _ _ _).mono ?_
          rintro e w' ⟨rfl, rfl⟩
          go_wp2_with fail
          go_roundw
          case rel => exact ⟨k2 + 1, by omega, by go_num, below_call (below_call (below_call (below_call HB2.out hc1) hc2) hc3) hc4⟩
          case measure => simp [intOf]; omega
        · have hk2' : k2 = 3 := by omega
          subst hk2'
          go_wp2_with fail
          go_roundw
          case rel => exact ⟨k + 1, by omega, by go_num, below_nest HB.out hb2⟩
          case measure => simp [intOf]; omega
    · have hk' : k = 3 := by omega
      subst hk'
      have HB := Lib.hid (below_out hb)
      clear hb
      go_wp2_with fail
      refine (law_awake _).mono ?_
      rintro e w3 ⟨rfl, hb5⟩
      go_wp2_with fail
      go_ret
      exact ⟨rfl, HB.out.trans (hb5.mono HB.out.size)⟩
end Go.Proofs.Ytbgodionpdemeaa
