/- Contracts of the tests of Miller and Rabin. Contracts: which numbers are permitted primes and moduli, at primes. Contracts: the group of a safe prime. Contracts of the sum. -/
import Derived.Test.YtgeahbmaeaoeeaaGreatDoorQ02
import Derived.BigRegion
set_option linter.unusedVariables false
set_option linter.unusedSimpArgs false
namespace Go.Proofs.YtgeahbmaeaoeeaaGreatDoor
open Go.RowKit Num

theorem two_lt {o t m : Nat} (h : o * 2 ^ t = m - 1) (hm : 3 ≤ m) : 1 ≤ o ∧ o < m ∧ t < m := by
  have o0 : o ≠ 0 := by rintro rfl; rw [Nat.zero_mul] at h; omega
  have h1 := Nat.lt_two_pow_self (n := t)
  have h2 := Nat.mul_le_mul (show 1 ≤ o by omega) (Nat.le_refl (2 ^ t))
  have h3 := Nat.mul_le_mul (Nat.le_refl o) (show 1 ≤ 2 ^ t by omega)
  omega
theorem pw_sq (m b o i : Nat) : pw m b (o * 2 ^ i) * pw m b (o * 2 ^ i) % m = pw m b (o * 2 ^ (i + 1)) := by
  rw [pw_add, show o * 2 ^ i + o * 2 ^ i = o * 2 ^ (i + 1) by rw [Nat.pow_succ, ← Nat.mul_assoc]; omega]

theorem wraps_u64_63 (n : Int) (h₀ : 0 ≤ n) (h₁ : n < 2 ^ 63) : IntKind.u64.wrap n = n := by rw [IntKind.wrap_u64]; omega
theorem and_1u (t : Nat) (ht : t < 9223372036854775808) : bits .and .u64 (t : Int) 1 = ((t % 2 : Nat) : Int) := by
  have h := bits_mask .u64 63 (by decide) wraps_u64_63 1 (by decide) (t : Int) (by omega) (by omega)
  have e : ((2 : Int) ^ 1 - 1) = 1 := by decide
  have e2 : ((2 : Int) ^ 1) = 2 := by decide
  rw [e, e2] at h
  rw [h]; omega

set_option maxHeartbeats 400000 in
theorem f_power (m x e : Nat) (w : World) (h1 : 2 ≤ m) (h2 : m ≤ 2147483648) (hx : x < 2147483648) (he : e < 9223372036854775808) :
    Calls Tryz.prog 107 #[.int .i64 (m : Int), .int .i64 (x : Int), .int .u64 (e : Int)] w fun r w' => r = .returned (.int .i64 (pw m x e : Int)) ∧ w = w' := by
  go_enter Tryz.func107, Tryz.ntmps107
  go_wp2_with (go_at_call 110; refine (f_modulo _ _ _ (by omega) (by omega)).mono ?_; rintro e w' ⟨rfl, rfl⟩)
  go_loop [7, 1, 2] (fun o y t => ∃ o' x' t' : Nat, o = .int .i64 o' ∧ y = .int .i64 x' ∧ t = .int .u64 t' ∧ o' < m ∧ x' < 2147483648 ∧ t' < 9223372036854775808 ∧ o' * x' ^ t' % m = pw m x e) (fun _ _ t => (intOf t).toNat)
  case atStart => exact ⟨1 % m, x, e, int_eq (by rw [Int.natCast_emod]; rfl), rfl, rfl, Nat.mod_lt _ (by omega), hx, he, by rw [Nat.mod_eq_of_lt (show 1 < m by omega), Nat.one_mul]; rfl⟩
  case round =>
    obtain ⟨o', x', t', rfl, rfl, rfl, ho', hx', ht', hr⟩ := hrel
    have hR := Lib.hid hr
    clear hr
    have ha := Lib.hid (and_1u t' ht')
    have hs := Nat.mod_lt (x' * x') (show 0 < m by omega)
    have hs2 := Nat.mod_lt (o' * x') (show 0 < m by omega)
    by_cases h0 : 0 < t'
    · rcases Nat.mod_two_eq_zero_or_one t' with hp | hp
      · have c : (bits .and .u64 (t' : Int) 1 == 1) = false := by rw [ha.out, hp]; rfl
        go_wp2_with (go_at_call 94; refine (f_Mul _ _ _ _ (by omega) h2 (by omega) (by omega)).mono ?_; rintro e w' ⟨rfl, rfl⟩)
        go_round
        case rel => exact ⟨o', x' * x' % m, t' / 2, by go_num, by go_num, by go_num, ho', by omega, by omega, by rw [step_even m o' x' t' hp]; exact hR.out⟩
        case measure => simp [intOf]; omega
      · have c : (bits .and .u64 (t' : Int) 1 == 1) = true := by rw [ha.out, hp]; rfl
        go_wp2_with (go_at_call 94; refine (f_Mul _ _ _ _ (by omega) h2 (by omega) (by omega)).mono ?_; rintro e w' ⟨rfl, rfl⟩)
        go_round
        case rel => exact ⟨o' * x' % m, x' * x' % m, t' / 2, by go_num, by go_num, by go_num, by omega, by omega, by omega, by rw [step_odd m o' x' t' hp]; exact hR.out⟩
        case measure => simp [intOf]; omega
    · have h0' : t' = 0 := by omega
      subst h0'
      go_wp2
      go_ret
      exact ⟨ret_int (by have := hR.out; rw [Nat.pow_zero, Nat.mul_one, Nat.mod_eq_of_lt ho'] at this; rw [← this]), rfl⟩

theorem f_powerII (m : Nat) (x e : Int) (w : World) (h1 : 2 ≤ m) (h2 : m ≤ 2147483648) (hx0 : 0 ≤ x) (hx : x < 2147483648) (h0 : 0 ≤ e) (he : e < 9223372036854775808) :
    Calls Tryz.prog 107 #[.int .i64 (m : Int), .int .i64 x, .int .u64 e] w fun r w' => r = .returned (.int .i64 (pw m x.toNat e.toNat : Int)) ∧ w = w' := by
  obtain ⟨n, rfl⟩ := Int.eq_ofNat_of_zero_le h0
  obtain ⟨k, rfl⟩ := Int.eq_ofNat_of_zero_le hx0
  exact f_power m k n w h1 h2 (by omega) (by omega)

set_option maxHeartbeats 400000 in
theorem f_passes (m b : Nat) (w : World) (h1 : 3 ≤ m) (h2 : m ≤ 2147483648) (ho : m % 2 = 1) (hz : ∀ o, pw m b o ≠ 0) :
    Calls Tryz.prog 84 #[.int .i64 (m : Int), .int .i64 (b : Int)] w fun r w' => r = .returned (.bool (mrB m b)) ∧ w = w' := by
  go_enter Tryz.func84, Tryz.ntmps84
  go_wp2
  go_loop [5, 6] (fun a c => ∃ o t : Nat, a = .int .i64 o ∧ c = .int .i64 t ∧ o * 2 ^ t = m - 1) (fun a _ => (intOf a).toNat)
  case atStart => exact ⟨m - 1, 0, int_eq (by omega), rfl, by rw [Nat.pow_zero, Nat.mul_one]⟩
  case round =>
    obtain ⟨o, t, rfl, rfl, he⟩ := hrel
    obtain ⟨o1, o2, t2⟩ := two_lt he h1
    have HE := Lib.hid he
    clear he
    by_cases hp : o % 2 = 0
    · go_wp2
      go_round
      case rel => exact ⟨o / 2, t + 1, by go_num, by go_num, by rw [← HE.out, Nat.pow_succ, Nat.mul_comm (2 ^ t), ← Nat.mul_assoc, show o / 2 * 2 = o by omega]⟩
      case measure => simp [intOf]; omega
    · have hp' : o % 2 = 1 := by omega
      have t1 : 1 ≤ t := by
        refine Nat.pos_of_ne_zero ?_
        rintro rfl
        have := HE.out; rw [Nat.pow_zero, Nat.mul_one] at this; omega
      have q0 : 0 ≤ (b : Int).tmod (m : Int) := by rw [cast_mod]; omega
      have q1 : (b : Int).tmod (m : Int) < m := Int.tmod_lt_of_pos _ (by omega)
      have hx : pw m ((b : Int).tmod (m : Int)).toNat (o : Int).toNat = pw m b o := by
        rw [cast_mod, Int.toNat_natCast, Int.toNat_natCast, pw_mod_base]
      have HX := Lib.hid hx
      clear hx
      go_wp2_with fail
      refine (f_powerII _ _ _ _ (by omega) h2 q0 (by omega) (by omega) (by omega)).mono ?_
      rintro e' w' ⟨rfl, rfl⟩
      rw [HX.out]
      have HZ := Lib.hid (hz o)
      have c0 : (((pw m b o : Nat) : Int) == 0) = false := by rw [beq_eq_false_iff_ne]; have := HZ.out; omega
      by_cases hx1 : pw m b o = 1
      · have hT := (mrB_at HE.out hp').2 (.inl hx1)
        have cT : (((pw m b o : Nat) : Int) == 1) = true := by rw [hx1]; rfl
        clear hx1 hz
        go_wp2
        go_ret
        exact ⟨ret_bool hT.symm, rfl⟩
      · have HX1 := Lib.hid hx1
        have c1 : (((pw m b o : Nat) : Int) == 1) = false := by rw [beq_eq_false_iff_ne]; omega
        clear hx1
        by_cases hx2 : pw m b o = m - 1
        · have hT := (mrB_at HE.out hp').2 (.inr ⟨0, by omega, by rw [Nat.pow_zero, Nat.mul_one]; exact hx2⟩)
          have cT : (((pw m b o : Nat) : Int) == (m : Int) - 1) = true := by rw [beq_iff_eq]; omega
          clear hx2 hz
          go_wp2
          go_ret
          exact ⟨ret_bool hT.symm, rfl⟩
        · have HX2 := Lib.hid hx2
          have c2 : (((pw m b o : Nat) : Int) == (m : Int) - 1) = false := by rw [beq_eq_false_iff_ne]; omega
          clear hx2 hz
          go_wp2
          go_loop [7, 38] (fun x c => ∃ i : Nat, i + 1 ≤ t ∧ c = .int .i64 i ∧ x = .int .i64 (pw m b (o * 2 ^ i) : Nat) ∧ ∀ j, j ≤ i → pw m b (o * 2 ^ j) ≠ m - 1) (fun _ c => t - (intOf c).toNat)
          case atStart => exact ⟨0, t1, rfl, int_eq (by rw [Nat.pow_zero, Nat.mul_one]), fun j hj => by rw [show j = 0 by omega, Nat.pow_zero, Nat.mul_one]; exact HX2.out⟩
          case round =>
            obtain ⟨i, hi, rfl, rfl, hj⟩ := hrel
            have HJ := Lib.hid hj
            clear hj
            have hlt := pw_lt (m := m) (by omega) b (o * 2 ^ i)
            by_cases hl : i + 1 < t
            · have hs := Nat.mod_lt (pw m b (o * 2 ^ i) * pw m b (o * 2 ^ i)) (show 0 < m by omega)
              have HS := Lib.hid (pw_sq m b o i)
              by_cases hm : pw m b (o * 2 ^ (i + 1)) = m - 1
              · have hT := (mrB_at HE.out hp').2 (.inr ⟨i + 1, hl, hm⟩)
                have cm : (((pw m b (o * 2 ^ (i + 1)) : Nat) : Int) == (m : Int) - 1) = true := by rw [beq_iff_eq]; omega
                clear hm
                go_wp2_with fail
                refine (f_Mul _ _ _ _ (by omega) h2 (by omega) (by omega)).mono ?_
                rintro e' w' ⟨rfl, rfl⟩
                rw [HS.out]
                go_wp2
                go_ret
                exact ⟨ret_bool hT.symm, rfl⟩
              · have cm : (((pw m b (o * 2 ^ (i + 1)) : Nat) : Int) == (m : Int) - 1) = false := by rw [beq_eq_false_iff_ne]; omega
                have HM := Lib.hid hm
                clear hm
                go_wp2_with fail
                refine (f_Mul _ _ _ _ (by omega) h2 (by omega) (by omega)).mono ?_
                rintro e' w' ⟨rfl, rfl⟩
                rw [HS.out]
                go_wp2
                go_round
                case rel =>
                  refine ⟨i + 1, by omega, by go_num, rfl, fun j hj => ?_⟩
                  by_cases hji : j = i + 1
                  · subst hji; exact HM.out
                  · exact HJ.out j (by omega)
                case measure => simp [intOf]; omega
            · have hF : mrB m b = false := mrB_f HE.out hp' (by
                rintro (h | ⟨j, hj, h⟩)
                · exact HX1.out h
                · exact HJ.out j (by omega) h)
              go_wp2
              go_ret
              exact ⟨rfl, rfl⟩
end Go.Proofs.YtgeahbmaeaoeeaaGreatDoor
namespace Go.Proofs.YtgeahbmaeaoeeaaGreatDoor
open Go.RowKit Num

/-- The variable of the bases holds what the text lays in it. -/
def BasesOk (w : World) : Prop := w.cell? ⟨0, 0, none⟩ = some (.int .i64 2) ∧ w.cell? ⟨0, 1, none⟩ = some (.int .i64 3) ∧ w.cell? ⟨0, 2, none⟩ = some (.int .i64 5) ∧ w.cell? ⟨0, 3, none⟩ = some (.int .i64 7)

theorem prm_mod {p b : Nat} (hp : Prm p) (hb : Prm b) (h : p ≠ b) : p % b ≠ 0 := by
  intro h0
  rcases hp.2 b (Nat.dvd_of_mod_eq_zero h0) with e | e
  · have := hb.1; omega
  · exact h e.symm
theorem prm_pw {p b : Nat} (hp : Prm p) (hb : Prm b) (h : p ≠ b) (o : Nat) : pw p b o ≠ 0 := by
  have hnd : ¬ p ∣ b := fun hd => by
    rcases hb.2 p hd with e | e
    · have := hp.1; omega
    · exact h e
  induction o with
  | zero => rw [pw_zero, Nat.mod_eq_of_lt (by have := hp.1; omega)]; decide
  | succ o ih =>
    intro h0
    have hd : p ∣ b ^ (o + 1) := Nat.dvd_of_mod_eq_zero h0
    rw [Nat.pow_succ] at hd
    rcases prm_dvd hp hd with d | d
    · exact ih (Nat.mod_eq_zero_of_dvd d)
    · exact hnd d
theorem prm_2 : Prm 2 := prm_of (f := 0) (by decide) (by kernel_rfl) (by decide)
theorem prm_3 : Prm 3 := prm_of (f := 1) (by decide) (by kernel_rfl) (by decide)
theorem prm_5 : Prm 5 := prm_of (f := 1) (by decide) (by kernel_rfl) (by decide)
theorem prm_7 : Prm 7 := prm_of (f := 1) (by decide) (by kernel_rfl) (by decide)
theorem prm_nd {p b : Nat} (hp : Prm p) (hb : Prm b) (h : p ≠ b) : ¬ p ∣ b := fun hd => by
  rcases hb.2 p hd with e | e
  · have := hp.1; omega
  · exact h e
theorem prm_odd {p : Nat} (hp : Prm p) (h : 3 ≤ p) : p % 2 = 1 := by
  have := prm_mod hp prm_2 (by omega); omega

set_option maxHeartbeats 1000000 in
theorem f_Valid (p : Nat) (w : World) (hw : BasesOk w) (hp : Prm p) (h2 : p ≤ 1073741824) :
    Calls Tryz.prog 63 #[.int .i64 (p : Int)] w fun r w' => r = .returned (.bool true) ∧ w = w' := by
  obtain ⟨b0, b1, b2, b3⟩ := hw
  have h1 := hp.1
  have i0 : ∀ w, (Instr.index 139 (.agg #[.int .i64 2, .int .i64 3, .int .i64 5, .int .i64 7]) (.int .i64 0)).run Tryz.prog w = .ok (.int .i64 2) w := fun _ => by kernel_rfl
  have i1 : ∀ w, (Instr.index 139 (.agg #[.int .i64 2, .int .i64 3, .int .i64 5, .int .i64 7]) (.int .i64 1)).run Tryz.prog w = .ok (.int .i64 3) w := fun _ => by kernel_rfl
  have i2 : ∀ w, (Instr.index 139 (.agg #[.int .i64 2, .int .i64 3, .int .i64 5, .int .i64 7]) (.int .i64 2)).run Tryz.prog w = .ok (.int .i64 5) w := fun _ => by kernel_rfl
  have i3 : ∀ w, (Instr.index 139 (.agg #[.int .i64 2, .int .i64 3, .int .i64 5, .int .i64 7]) (.int .i64 3)).run Tryz.prog w = .ok (.int .i64 7) w := fun _ => by kernel_rfl
  by_cases e2 : p = 2
  · subst e2
    go_enter Tryz.func63, Tryz.ntmps63
    go_wp2
    refine wp_loop_rounds 4 ?_
    rw [rounds_succ]
    go_wp2
    go_ret
    exact ⟨rfl, rfl⟩
  have ho := prm_odd hp (by omega)
  have c2 : ((p : Int) == 2) = false := by rw [beq_eq_false_iff_ne]; omega
  have d2 : ((p : Int) % 2 == 0) = false := by rw [beq_eq_false_iff_ne]; omega
  have m2 := mr_prime hp (by omega) (prm_nd hp prm_2 e2)
  have z2 := prm_pw hp prm_2 e2
  by_cases e3 : p = 3
  · subst e3
    go_enter Tryz.func63, Tryz.ntmps63
    go_wp2
    refine wp_loop_rounds 4 ?_
    rw [rounds_succ]
    go_wp2_with fail
    refine (f_passes 3 2 _ (by omega) (by omega) (by decide) z2).mono ?_
    rintro e w' ⟨rfl, rfl⟩
    rw [m2]
    go_wp2
    rw [rounds_succ]
    go_wp2
    go_ret
    exact ⟨rfl, rfl⟩
  have c3 : ((p : Int) == 3) = false := by rw [beq_eq_false_iff_ne]; omega
  have d3 : ((p : Int) % 3 == 0) = false := by rw [beq_eq_false_iff_ne]; have := prm_mod hp prm_3 e3; omega
  have m3 := mr_prime hp (by omega) (prm_nd hp prm_3 e3)
  have z3 := prm_pw hp prm_3 e3
  by_cases e5 : p = 5
  · subst e5
    go_enter Tryz.func63, Tryz.ntmps63
    go_wp2
    refine wp_loop_rounds 4 ?_
    rw [rounds_succ]
    go_wp2_with fail
    refine (f_passes 5 2 _ (by omega) (by omega) (by decide) z2).mono ?_
    rintro e w' ⟨rfl, rfl⟩
    rw [m2]
    go_wp2
    rw [rounds_succ]
    go_wp2_with fail
    refine (f_passes 5 3 _ (by omega) (by omega) (by decide) z3).mono ?_
    rintro e w' ⟨rfl, rfl⟩
    rw [m3]
    go_wp2
    rw [rounds_succ]
    go_wp2
    go_ret
    exact ⟨rfl, rfl⟩
  have c5 : ((p : Int) == 5) = false := by rw [beq_eq_false_iff_ne]; omega
  have d5 : ((p : Int) % 5 == 0) = false := by rw [beq_eq_false_iff_ne]; have := prm_mod hp prm_5 e5; omega
  have m5 := mr_prime hp (by omega) (prm_nd hp prm_5 e5)
  have z5 := prm_pw hp prm_5 e5
  by_cases e7 : p = 7
  · subst e7
    go_enter Tryz.func63, Tryz.ntmps63
    go_wp2
    refine wp_loop_rounds 4 ?_
    rw [rounds_succ]
    go_wp2_with fail
    refine (f_passes 7 2 _ (by omega) (by omega) (by decide) z2).mono ?_
    rintro e w' ⟨rfl, rfl⟩
    rw [m2]
    go_wp2
    rw [rounds_succ]
    go_wp2_with fail
    refine (f_passes 7 3 _ (by omega) (by omega) (by decide) z3).mono ?_
    rintro e w' ⟨rfl, rfl⟩
    rw [m3]
    go_wp2
    rw [rounds_succ]
    go_wp2_with fail
    refine (f_passes 7 5 _ (by omega) (by omega) (by decide) z5).mono ?_
    rintro e w' ⟨rfl, rfl⟩
    rw [m5]
    go_wp2
    rw [rounds_succ]
    go_wp2
    go_ret
    exact ⟨rfl, rfl⟩
  have c7 : ((p : Int) == 7) = false := by rw [beq_eq_false_iff_ne]; omega
  have d7 : ((p : Int) % 7 == 0) = false := by rw [beq_eq_false_iff_ne]; have := prm_mod hp prm_7 e7; omega
  have m7 := mr_prime hp (by omega) (prm_nd hp prm_7 e7)
  have z7 := prm_pw hp prm_7 e7
  go_enter Tryz.func63, Tryz.ntmps63
  go_wp2
  refine wp_loop_rounds 5 ?_
  rw [rounds_succ]
  go_wp2_with fail
  refine (f_passes p 2 _ (by omega) (by omega) ho z2).mono ?_
  rintro e w' ⟨rfl, rfl⟩
  rw [m2]
  go_wp2
  rw [rounds_succ]
  go_wp2_with fail
  refine (f_passes p 3 _ (by omega) (by omega) ho z3).mono ?_
  rintro e w' ⟨rfl, rfl⟩
  rw [m3]
  go_wp2
  rw [rounds_succ]
  go_wp2_with fail
  refine (f_passes p 5 _ (by omega) (by omega) ho z5).mono ?_
  rintro e w' ⟨rfl, rfl⟩
  rw [m5]
  go_wp2
  rw [rounds_succ]
  go_wp2_with fail
  refine (f_passes p 7 _ (by omega) (by omega) ho z7).mono ?_
  rintro e w' ⟨rfl, rfl⟩
  rw [m7]
  go_wp2
  rw [rounds_succ]
  go_wp2
  go_ret
  exact ⟨rfl, rfl⟩

end Go.Proofs.YtgeahbmaeaoeeaaGreatDoor
namespace Go.Proofs.YtgeahbmaeaoeeaaGreatDoor
open Go.RowKit Num

theorem cellOf {B : Nat} {w w' : World} (h : Below B w w') {a : Addr} {v : Value} (hc : w.cell? a = some v) (hB : w.heap.size ≤ B) : w'.cell? a = some v := by
  rw [h.cell (Nat.lt_of_lt_of_le (World.block_lt_of_cell? w a hc) hB)]
  exact hc
theorem BasesOk.below {w w' : World} (h : BasesOk w) (hb : Below w.heap.size w w') : BasesOk w' :=
  ⟨cellOf hb h.1 (Nat.le_refl _), cellOf hb h.2.1 (Nat.le_refl _), cellOf hb h.2.2.1 (Nat.le_refl _), cellOf hb h.2.2.2 (Nat.le_refl _)⟩
theorem BasesOk.alloc {w : World} (h : BasesOk w) (o : Obj) : BasesOk (w.alloc o) := h.below ((Below.refl _ _).alloc (Nat.le_refl _) _)
/-- A safe prime: it and twice it plus one are prime. -/
def SPrm (p : Nat) : Prop := Prm p ∧ Prm (2 * p + 1) ∧ 3 ≤ p ∧ p ≤ 1073741823
theorem safe_sprm {p : Nat} (h : Num.Safe p) : SPrm p := ⟨safe_prm h, safe_prm2 h, (safe_bd h).1, by have := (safe_bd h).2; omega⟩

end Go.Proofs.YtgeahbmaeaoeeaaGreatDoor
namespace Go.Proofs.YtgeahbmaeaoeeaaGreatDoor
open Go.RowKit Num

theorem only_of_below {a w : World} (h : Below a.heap.size a w) (row : Option Nat) : a.grownBy w row := ⟨h.os, h.tape, h.output, h.size, fun i hi _ => h.block i hi⟩
theorem only_drewN {a w : World} {row : Option Nat} (h : a.grownBy w row) (n : Nat) : a.grownBy (w.drewN n) row := ⟨h.os, h.tape, h.output, h.size, h.block⟩
theorem only_drew {a w : World} {row : Option Nat} (h : a.grownBy w row) : a.grownBy w.drew row := ⟨h.os, h.tape, h.output, h.size, h.block⟩
theorem only_alloc {a w : World} {row : Option Nat} (h : a.grownBy w row) (o : Obj) : a.grownBy (w.alloc o) row :=
  ⟨h.os, h.tape, h.output, Nat.le_trans h.size (by simp), fun i hi hne => (Below.heap_alloc w o i (Nat.lt_of_lt_of_le hi h.size)).trans (h.block i hi hne)⟩
theorem only_setCell {a w : World} {g : Nat} (h : a.grownBy w (some g)) {p : Addr} (hp : p.block = g ∨ a.heap.size ≤ p.block) (u : Value) : a.grownBy (w.setCell p u) (some g) :=
  ⟨h.os, h.tape, h.output, by simpa [World.setCell] using h.size, fun i hi hne => (Below.heap_setCell w p u i (by
    rintro rfl
    rcases hp with hp | hp
    · exact hne (by rw [hp])
    · omega)).trans (h.block i hi hne)⟩
/-- A rotation to the right. -/
def rot (x : Int) (n : Nat) : Int := bits .or .u32 (x * ((2 ^ (32 - n) : Nat) : Int) % 4294967296) (x / ((2 ^ n : Nat) : Int))
def rots : List Nat := [2, 6, 7, 11, 13, 17, 18, 19, 22, 25]

/-- A byte of a string. -/
def byteAt (b : ByteArray) (i : Nat) : Int := ((b.data[i]?).getD 0).toNat
theorem byteAt_bd (b : ByteArray) (i : Nat) : 0 ≤ byteAt b i ∧ byteAt b i < 256 := by
  have := ((b.data[i]?).getD 0).toNat_lt
  unfold byteAt; omega
theorem index_byte (b : ByteArray) (i : Nat) (h : i < b.size) (w : World) : (Instr.index 9 (.string b) (.int .i64 (i : Int))).run Tryz.prog w = .ok (.int .u8 (byteAt b i)) w := by
  rw [run_index_string w 9 b .i64 i Tryz.underlying9, dif_pos ⟨by omega, by omega⟩]
  have e : b.data[i]? = some (b[i]'h) := Array.getElem?_eq_getElem h
  unfold byteAt
  rw [e]
  rfl
/-- A word of four bytes. -/
def word4 (a b c d : Int) : Int := bits .or .u32 (bits .or .u32 (bits .or .u32 (a * 16777216) (b * 65536)) (c * 256)) d
def wordAt (b : ByteArray) (t : Nat) : Int := word4 (byteAt b (4 * t)) (byteAt b (4 * t + 1)) (byteAt b (4 * t + 2)) (byteAt b (4 * t + 3))

/-- Words in a row of cells. -/
structure Arr (w : World) (B n : Nat) (f : Nat → Int) : Prop where
  cell : ∀ i, i < n → w.cell? ⟨B, i, none⟩ = some (.int .u32 (f i))
  live : ∀ i, i < n → w.frozen? ⟨B, i, none⟩ = false
theorem Arr.set {w : World} {B n : Nat} {f g : Nat → Int} (h : Arr w B n f) {i : Nat} {v : Int} (hi : i < n) (hv : v = g i) (hg : ∀ j, j < n → j ≠ i → g j = f j) : Arr (w.setCell ⟨B, i, none⟩ (.int .u32 v)) B n g := by
  refine ⟨fun j hj => ?_, fun j hj => ?_⟩
  · by_cases hji : j = i
    · subst hji; rw [World.cell?_setCell_same _ _ _ (h.cell j hj), hv]
    · rw [World.cell?_setCell_other _ _ _ _ (by intro e; injection e with e1 e2; exact hji e2.symm), h.cell j hj, hg j hj hji]
  · rw [World.frozen?_setCell]; exact h.live j hj
theorem Arr.far {w : World} {B n : Nat} {f : Nat → Int} (h : Arr w B n f) {a : Addr} {v : Value} (ha : a.block ≠ B) : Arr (w.setCell a v) B n f := by
  refine ⟨fun j hj => ?_, fun j hj => ?_⟩
  · rw [World.cell?_setCell_other _ _ _ _ (by intro e; exact ha (by rw [e])), h.cell j hj]
  · rw [World.frozen?_setCell]; exact h.live j hj
theorem Arr.drew {w : World} {B n : Nat} {f : Nat → Int} (h : Arr w B n f) : Arr w.drew B n f := ⟨h.cell, h.live⟩
theorem Arr.drewN {w : World} {B n : Nat} {f : Nat → Int} (h : Arr w B n f) (k : Nat) : Arr (w.drewN k) B n f := ⟨h.cell, h.live⟩
theorem Arr.below {w w' : World} {B n m : Nat} {f : Nat → Int} (h : Arr w B n f) (hb : Below m w w') (hB : B < m) : Arr w' B n f :=
  ⟨fun j hj => by rw [hb.cell (by exact hB)]; exact h.cell j hj, fun j hj => by rw [hb.frozen (by exact hB)]; exact h.live j hj⟩
theorem Arr.alloc {w : World} {B n : Nat} {f : Nat → Int} (h : Arr w B n f) (hB : B < w.heap.size) (o : Obj) : Arr (w.alloc o) B n f :=
  h.below ((Below.refl _ _).alloc (Nat.le_refl _) _) hB

/-- The words of a block, so many of them laid. -/
def wds (b : ByteArray) (t : Nat) : Nat → Int := fun i => if i < t then wordAt b i else 0

/-- The next word of a schedule. -/
def stp (f : Nat → Int) (t : Nat) : Int :=
  (bits .xor .u32 (bits .xor .u32 (rot (f (t - 2)) 17) (rot (f (t - 2)) 19)) (f (t - 2) / 1024) + f (t - 7) + bits .xor .u32 (bits .xor .u32 (rot (f (t - 15)) 7) (rot (f (t - 15)) 18)) (f (t - 15) / 8) + f (t - 16)) % 4294967296
/-- The schedule, t words of it laid. -/
def sched (b : ByteArray) : Nat → Nat → Int
  | 0 => wds b 16
  | k + 1 => fun i => if i = 16 + k then stp (sched b k) (16 + k) else sched b k i

/-- One round: what is added, and the state behind it. -/
def rT1 (f : Nat → Int) (k w : Int) : Int := (f 7 + bits .xor .u32 (bits .xor .u32 (rot (f 4) 6) (rot (f 4) 11)) (rot (f 4) 25) + bits .xor .u32 (bits .and .u32 (f 4) (f 5)) (bits .and .u32 (bits .xor .u32 IntKind.u32.max (f 4)) (f 6)) + k + w) % 4294967296
def rT2 (f : Nat → Int) : Int := (bits .xor .u32 (bits .xor .u32 (rot (f 0) 2) (rot (f 0) 13)) (rot (f 0) 22) + bits .xor .u32 (bits .xor .u32 (bits .and .u32 (f 0) (f 1)) (bits .and .u32 (f 0) (f 2))) (bits .and .u32 (f 1) (f 2))) % 4294967296
def rndF (f : Nat → Int) (k w : Int) : Nat → Int
  | 0 => (rT1 f k w + rT2 f) % 4294967296
  | 1 => f 0
  | 2 => f 1
  | 3 => f 2
  | 4 => (f 3 + rT1 f k w) % 4294967296
  | 5 => f 4
  | 6 => f 5
  | _ => f 6

/-- The state behind so many rounds. -/
def rst (K W v : Nat → Int) : Nat → Nat → Int
  | 0 => v
  | t + 1 => rndF (rst K W v t) (K t) (W t)
/-- The old state and what was reckoned, added place by place, so many of them. -/
def fin (v r : Nat → Int) (t : Nat) : Nat → Int := fun i => if i < t then (v i + r i) % 4294967296 else v i
def compress (K v : Nat → Int) (b : ByteArray) : Nat → Int := fin v (rst K (sched b 48) v 64) 8

theorem Arr.congr {w : World} {B n : Nat} {f g : Nat → Int} (h : Arr w B n f) (e : ∀ i, i < n → f i = g i) : Arr w B n g :=
  ⟨fun i hi => by rw [h.cell i hi, e i hi], h.live⟩
def upd (f : Nat → Int) (i : Nat) (v : Int) : Nat → Int := fun j => if j = i then v else f j
theorem Arr.upd {w : World} {B n : Nat} {f : Nat → Int} (h : Arr w B n f) {i : Nat} (v : Int) (hi : i < n) : Arr (w.setCell ⟨B, i, none⟩ (.int .u32 v)) B n (upd f i v) :=
  h.set hi (if_pos rfl).symm fun j _ hj => if_neg hj
theorem set8_arr {w : World} {B : Nat} {f g : Nat → Int} (h : Arr w B 8 f) {a0 a1 a2 a3 a4 a5 a6 a7 : Int} (e0 : a0 = g 0) (e1 : a1 = g 1) (e2 : a2 = g 2) (e3 : a3 = g 3) (e4 : a4 = g 4) (e5 : a5 = g 5) (e6 : a6 = g 6) (e7 : a7 = g 7) :
    Arr ((((((((w.setCell ⟨B, 0, none⟩ (.int .u32 a0)).setCell ⟨B, 1, none⟩ (.int .u32 a1)).setCell ⟨B, 2, none⟩ (.int .u32 a2)).setCell ⟨B, 3, none⟩ (.int .u32 a3)).setCell ⟨B, 4, none⟩ (.int .u32 a4)).setCell ⟨B, 5, none⟩ (.int .u32 a5)).setCell ⟨B, 6, none⟩ (.int .u32 a6)).setCell ⟨B, 7, none⟩ (.int .u32 a7)) B 8 g := by
  subst e0 e1 e2 e3 e4 e5 e6 e7
  refine ((((((((h.upd _ (by omega)).upd _ (by omega)).upd _ (by omega)).upd _ (by omega)).upd _ (by omega)).upd _ (by omega)).upd _ (by omega)).upd _ (by omega)).congr fun i hi => ?_
  have : i = 0 ∨ i = 1 ∨ i = 2 ∨ i = 3 ∨ i = 4 ∨ i = 5 ∨ i = 6 ∨ i = 7 := by omega
  rcases this with rfl | rfl | rfl | rfl | rfl | rfl | rfl | rfl <;> rfl
theorem set8_far {w : World} {B C n : Nat} {f : Nat → Int} (h : Arr w C n f) (hne : B ≠ C) {a0 a1 a2 a3 a4 a5 a6 a7 : Value} :
    Arr ((((((((w.setCell ⟨B, 0, none⟩ a0).setCell ⟨B, 1, none⟩ a1).setCell ⟨B, 2, none⟩ a2).setCell ⟨B, 3, none⟩ a3).setCell ⟨B, 4, none⟩ a4).setCell ⟨B, 5, none⟩ a5).setCell ⟨B, 6, none⟩ a6).setCell ⟨B, 7, none⟩ a7) C n f :=
  (((((((h.far hne).far hne).far hne).far hne).far hne).far hne).far hne).far hne
theorem set8_below {w W : World} {B m : Nat} (h : Below m W w) (hB : m ≤ B) {a0 a1 a2 a3 a4 a5 a6 a7 : Value} :
    Below m W ((((((((w.setCell ⟨B, 0, none⟩ a0).setCell ⟨B, 1, none⟩ a1).setCell ⟨B, 2, none⟩ a2).setCell ⟨B, 3, none⟩ a3).setCell ⟨B, 4, none⟩ a4).setCell ⟨B, 5, none⟩ a5).setCell ⟨B, 6, none⟩ a6).setCell ⟨B, 7, none⟩ a7) :=
  (((((((h.setCell (p := ⟨B, 0, none⟩) hB _).setCell (p := ⟨B, 1, none⟩) hB _).setCell (p := ⟨B, 2, none⟩) hB _).setCell (p := ⟨B, 3, none⟩) hB _).setCell (p := ⟨B, 4, none⟩) hB _).setCell (p := ⟨B, 5, none⟩) hB _).setCell (p := ⟨B, 6, none⟩) hB _).setCell (p := ⟨B, 7, none⟩) hB _
theorem alloc8_arr (w : World) (v : Nat → Int) (T : TypeId) : Arr (w.alloc (.cells #[.int .u32 (v 0), .int .u32 (v 1), .int .u32 (v 2), .int .u32 (v 3), .int .u32 (v 4), .int .u32 (v 5), .int .u32 (v 6), .int .u32 (v 7)] T)) w.heap.size 8 v := by
  refine ⟨fun i hi => ?_, fun i hi => World.frozen?_alloc_new _ _ _ _⟩
  rw [World.cell?_alloc_new]
  have : i = 0 ∨ i = 1 ∨ i = 2 ∨ i = 3 ∨ i = 4 ∨ i = 5 ∨ i = 6 ∨ i = 7 := by omega
  rcases this with rfl | rfl | rfl | rfl | rfl | rfl | rfl | rfl <;> rfl
end Go.Proofs.YtgeahbmaeaoeeaaGreatDoor
