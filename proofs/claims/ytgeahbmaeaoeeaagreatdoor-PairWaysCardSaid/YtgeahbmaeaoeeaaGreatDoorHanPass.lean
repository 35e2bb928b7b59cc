/- Contracts of the tests of Miller and Rabin. -/
import Derived.Test.YtgeahbmaeaoeeaaGreatDoorHanFld
import Derived.Test.YtgeahbmaeaoeeaaGreatDoorHanMr
set_option linter.unusedVariables false
set_option linter.unusedSimpArgs false
namespace Go.Proofs.YtgeahbmaeaoeeaaGreatDoor
open Go.RowKit Num

theorem two_lt {o t m : Nat} (h : o * 2 ^ t = m - 1) (hm : 3 ≤ m) : 1 ≤ o ∧ o < m ∧ t < m := by
  have o0 : o ≠ 0 := by rintro rfl; rw [Nat.zero_mul] at h; omega
  have h1 := Nat.lt_two_pow_self (n := t)
  have h2 := Nat.mul_le_mul (show 1 ≤ o by omega) (Nat.le_refl (2 ^ t))
  have h3 := Nat.mul_le_mul (Nat.le_refl o) (show 1 ≤ 2 ^ t by omega)
  omega
theorem pw_sq (m b o i : Nat) : pw m b (o * 2 ^ i) * pw m b (o * 2 ^ i) % m = pw m b (o * 2 ^ (i + 1)) := by
  rw [pw_add, show o * 2 ^ i + o * 2 ^ i = o * 2 ^ (i + 1) by rw [Nat.pow_succ, ← Nat.mul_assoc]; omega]

theorem wraps_u64_63 (n : Int) (h₀ : 0 ≤ n) (h₁ : n < 2 ^ 63) : IntKind.u64.wrap n = n := by rw [IntKind.wrap_u64]; omega
theorem and_1u (t : Nat) (ht : t < 9223372036854775808) : bits .and .u64 (t : Int) 1 = ((t % 2 : Nat) : Int) := by
  have h := bits_mask .u64 63 (by decide) wraps_u64_63 1 (by decide) (t : Int) (by omega) (by omega)
  have e : ((2 : Int) ^ 1 - 1) = 1 := by decide
  have e2 : ((2 : Int) ^ 1) = 2 := by decide
  rw [e, e2] at h
  rw [h]; omega

set_option maxHeartbeats 400000 in
theorem f_power (m x e : Nat) (w : World) (h1 : 2 ≤ m) (h2 : m ≤ 2147483648) (hx : x < 2147483648) (he : e < 9223372036854775808) :
    Calls Tryz.prog 107 #[.int .i64 (m : Int), .int .i64 (x : Int), .int .u64 (e : Int)] w fun r w' => r = .returned (.int .i64 (pw m x e : Int)) ∧ w = w' := by
  go_enter Tryz.func107, Tryz.ntmps107
  go_wp2_with (go_at_call 110; refine (f_modulo _ _ _ (by omega) (by omega)).mono ?_; rintro e w' ⟨rfl, rfl⟩)
  go_loop [7, 1, 2] (fun o y t => ∃ o' x' t' : Nat, o = .int .i64 o' ∧ y = .int .i64 x' ∧ t = .int .u64 t' ∧ o' < m ∧ x' < 2147483648 ∧ t' < 9223372036854775808 ∧ o' * x' ^ t' % m = pw m x e) (fun _ _ t => (intOf t).toNat)
  case atStart => exact ⟨1 % m, x, e, int_eq (by rw [Int.natCast_emod]; rfl), rfl, rfl, Nat.mod_lt _ (by omega), hx, he, by rw [Nat.mod_eq_of_lt (show 1 < m by omega), Nat.one_mul]; rfl⟩
  case round =>
    obtain ⟨o', x', t', rfl, rfl, rfl, ho', hx', ht', hr⟩ := hrel
    have hR := Lib.hid hr
    clear hr
    have ha := Lib.hid (and_1u t' ht')
    have hs := Nat.mod_lt (x' * x') (show 0 < m by omega)
    have hs2 := Nat.mod_lt (o' * x') (show 0 < m by omega)
    by_cases h0 : 0 < t'
    · rcases Nat.mod_two_eq_zero_or_one t' with hp | hp
      · have c : (bits .and .u64 (t' : Int) 1 == 1) = false := by rw [ha.out, hp]; rfl
        go_wp2_with (go_at_call 94; refine (f_Mul _ _ _ _ (by omega) h2 (by omega) (by omega)).mono ?_; rintro e w' ⟨rfl, rfl⟩)
        go_round
        case rel => exact ⟨o', x' * x' % m, t' / 2, by go_num, by go_num, by go_num, ho', by omega, by omega, by rw [step_even m o' x' t' hp]; exact hR.out⟩
        case measure => simp [intOf]; omega
      · have c : (bits .and .u64 (t' : Int) 1 == 1) = true := by rw [ha.out, hp]; rfl
        go_wp2_with (go_at_call 94; refine (f_Mul _ _ _ _ (by omega) h2 (by omega) (by omega)).mono ?_; rintro e w' ⟨rfl, rfl⟩)
        go_round
        case rel => exact ⟨o' * x' % m, x' * x' % m, t' / 2, by go_num, by go_num, by go_num, by omega, by omega, by omega, by rw [step_odd m o' x' t' hp]; exact hR.out⟩
        case measure => simp [intOf]; omega
    · have h0' : t' = 0 := by omega
      subst h0'
      go_wp2
      go_ret
      exact ⟨ret_int (by have := hR.out; rw [Nat.pow_zero, Nat.mul_one, Nat.mod_eq_of_lt ho'] at this; rw [← this]), rfl⟩

theorem f_powerII (m : Nat) (x e : Int) (w : World) (h1 : 2 ≤ m) (h2 : m ≤ 2147483648) (hx0 : 0 ≤ x) (hx : x < 2147483648) (h0 : 0 ≤ e) (he : e < 9223372036854775808) :
    Calls Tryz.prog 107 #[.int .i64 (m : Int), .int .i64 x, .int .u64 e] w fun r w' => r = .returned (.int .i64 (pw m x.toNat e.toNat : Int)) ∧ w = w' := by
  obtain ⟨n, rfl⟩ := Int.eq_ofNat_of_zero_le h0
  obtain ⟨k, rfl⟩ := Int.eq_ofNat_of_zero_le hx0
  exact f_power m k n w h1 h2 (by omega) (by omega)

set_option maxHeartbeats 400000 in
theorem f_passes (m b : Nat) (w : World) (h1 : 3 ≤ m) (h2 : m ≤ 2147483648) (ho : m % 2 = 1) (hz : ∀ o, pw m b o ≠ 0) :
    Calls Tryz.prog 84 #[.int .i64 (m : Int), .int .i64 (b : Int)] w fun r w' => r = .returned (.bool (mrB m b)) ∧ w = w' := by
  go_enter Tryz.func84, Tryz.ntmps84
  go_wp2
  go_loop [5, 6] (fun a c => ∃ o t : Nat, a = .int .i64 o ∧ c = .int .i64 t ∧ o * 2 ^ t = m - 1) (fun a _ => (intOf a).toNat)
  case atStart => exact ⟨m - 1, 0, int_eq (by omega), rfl, by rw [Nat.pow_zero, Nat.mul_one]⟩
  case round =>
    obtain ⟨o, t, rfl, rfl, he⟩ := hrel
    obtain ⟨o1, o2, t2⟩ := two_lt he h1
    have HE := Lib.hid he
    clear he
    by_cases hp : o % 2 = 0
    · go_wp2
      go_round
      case rel => exact ⟨o / 2, t + 1, by go_num, by go_num, by rw [← HE.out, Nat.pow_succ, Nat.mul_comm (2 ^ t), ← Nat.mul_assoc, show o / 2 * 2 = o by omega]⟩
      case measure => simp [intOf]; omega
    · have hp' : o % 2 = 1 := by omega
      have t1 : 1 ≤ t := by
        refine Nat.pos_of_ne_zero ?_
        rintro rfl
        have := HE.out; rw [Nat.pow_zero, Nat.mul_one] at this; omega
      have q0 : 0 ≤ (b : Int).tmod (m : Int) := by rw [cast_mod]; omega
      have q1 : (b : Int).tmod (m : Int) < m := Int.tmod_lt_of_pos _ (by omega)
      have hx : pw m ((b : Int).tmod (m : Int)).toNat (o : Int).toNat = pw m b o := by
        rw [cast_mod, Int.toNat_natCast, Int.toNat_natCast, pw_mod_base]
      have HX := Lib.hid hx
      clear hx
      go_wp2_with fail
      refine (f_powerII _ _ _ _ (by omega) h2 q0 (by omega) (by omega) (by omega)).mono ?_
      rintro e' w' ⟨rfl, rfl⟩
      rw [HX.out]
      have HZ := Lib.hid (hz o)
      have c0 : (((pw m b o : Nat) : Int) == 0) = false := by rw [beq_eq_false_iff_ne]; have := HZ.out; omega
      by_cases hx1 : pw m b o = 1
      · have hT := (mrB_at HE.out hp').2 (.inl hx1)
        have cT : (((pw m b o : Nat) : Int) == 1) = true := by rw [hx1]; rfl
        clear hx1 hz
        go_wp2
        go_ret
        exact ⟨ret_bool hT.symm, rfl⟩
      · have HX1 := Lib.hid hx1
        have c1 : (((pw m b o : Nat) : Int) == 1) = false := by rw [beq_eq_false_iff_ne]; omega
        clear hx1
        by_cases hx2 : pw m b o = m - 1
        · have hT := (mrB_at HE.out hp').2 (.inr ⟨0, by omega, by rw [Nat.pow_zero, Nat.mul_one]; exact hx2⟩)
          have cT : (((pw m b o : Nat) : Int) == (m : Int) - 1) = true := by rw [beq_iff_eq]; omega
          clear hx2 hz
          go_wp2
          go_ret
          exact ⟨ret_bool hT.symm, rfl⟩
        · have HX2 := Lib.hid hx2
          have c2 : (((pw m b o : Nat) : Int) == (m : Int) - 1) = false := by rw [beq_eq_false_iff_ne]; omega
          clear hx2 hz
          go_wp2
          go_loop [7, 38] (fun x c => ∃ i : Nat, i + 1 ≤ t ∧ c = .int .i64 i ∧ x = .int .i64 (pw m b (o * 2 ^ i) : Nat) ∧ ∀ j, j ≤ i → pw m b (o * 2 ^ j) ≠ m - 1) (fun _ c => t - (intOf c).toNat)
          case atStart => exact ⟨0, t1, rfl, int_eq (by rw [Nat.pow_zero, Nat.mul_one]), fun j hj => by rw [show j = 0 by omega, Nat.pow_zero, Nat.mul_one]; exact HX2.out⟩
          case round =>
            obtain ⟨i, hi, rfl, rfl, hj⟩ := hrel
            have HJ := Lib.hid hj
            clear hj
            have hlt := pw_lt (m := m) (by omega) b (o * 2 ^ i)
            by_cases hl : i + 1 < t
            · have hs := Nat.mod_lt (pw m b (o * 2 ^ i) * pw m b (o * 2 ^ i)) (show 0 < m by omega)
              have HS := Lib.hid (pw_sq m b o i)
              by_cases hm : pw m b (o * 2 ^ (i + 1)) = m - 1
              · have hT := (mrB_at HE.out hp').2 (.inr ⟨i + 1, hl, hm⟩)
                have cm : (((pw m b (o * 2 ^ (i + 1)) : Nat) : Int) == (m : Int) - 1) = true := by rw [beq_iff_eq]; omega
                clear hm
                go_wp2_with fail
                refine (f_Mul _ _ _ _ (by omega) h2 (by omega) (by omega)).mono ?_
                rintro e' w' ⟨rfl, rfl⟩
                rw [HS.out]
                go_wp2
                go_ret
                exact ⟨ret_bool hT.symm, rfl⟩
              · have cm : (((pw m b (o * 2 ^ (i + 1)) : Nat) : Int) == (m : Int) - 1) = false := by rw [beq_eq_false_iff_ne]; omega
                have HM := Lib.hid hm
                clear hm
                go_wp2_with fail
                refine (f_Mul _ _ _ _ (by omega) h2 (by omega) (by omega)).mono ?_
                rintro e' w' ⟨rfl, rfl⟩
                rw [HS.out]
                go_wp2
                go_round
                case rel =>
                  refine ⟨i + 1, by omega, by go_num, rfl, fun j hj => ?_⟩
                  by_cases hji : j = i + 1
                  · subst hji; exact HM.out
                  · exact HJ.out j (by omega)
                case measure => simp [intOf]; omega
            · have hF : mrB m b = false := mrB_f HE.out hp' (by
                rintro (h | ⟨j, hj, h⟩)
                · exact HX1.out h
                · exact HJ.out j (by omega) h)
              go_wp2
              go_ret
              exact ⟨rfl, rfl⟩
end Go.Proofs.YtgeahbmaeaoeeaaGreatDoor
