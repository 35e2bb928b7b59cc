/- The test of Miller and Rabin: a prime passes it. No program stands in it. Contracts of the tests of Miller and Rabin. Contracts: which numbers are permitted primes and moduli, at primes. Contracts: the group of a safe prime. -/
import Derived.Test.YtjfphobfikadlaaGreatDoorX01
set_option linter.unusedVariables false
set_option linter.unusedSimpArgs false
namespace Go.Proofs.YtjfphobfikadlaaGreatDoor.Num
open Classical

theorem sqrt_one {p y : Nat} (h : Prm p) (hy : y < p) (h1 : y * y % p = 1) : y = 1 ∨ y = p - 1 := by
  have h2 := h.1
  have y1 : 1 ≤ y := by
    cases y with
    | zero => rw [Nat.zero_mul, Nat.zero_mod] at h1; omega
    | succ y => omega
  have y2 : 1 ≤ y * y := Nat.mul_pos (by omega) (by omega)
  have d : p ∣ (y - 1) * (y + 1) := by
    have e : (y - 1) * (y + 1) = y * y - 1 := by
      obtain ⟨z, rfl⟩ : ∃ z, y = z + 1 := ⟨y - 1, by omega⟩
      have a : (z + 1) * (z + 1) = z * (z + 1) + (z + 1) := Nat.succ_mul _ _
      have b : z * (z + 1 + 1) = z * (z + 1) + z := Nat.mul_succ _ _
      rw [Nat.add_sub_cancel, b, a]; omega
    rw [e]
    apply Nat.dvd_of_mod_eq_zero
    apply Nat.sub_mod_eq_zero_of_mod_eq
    rw [h1]; exact (Nat.mod_eq_of_lt (by omega)).symm
  rcases prm_dvd h d with d | d
  · by_cases h0 : y = 1
    · exact .inl h0
    · have := Nat.le_of_dvd (by omega) d; omega
  · have := Nat.le_of_dvd (by omega) d; omega

/-- What the test asks, of the odd part o and of t twos. -/
def MRat (m b o t : Nat) : Prop := pw m b o = 1 ∨ ∃ i, i < t ∧ pw m b (o * 2 ^ i) = m - 1
def MRp (m b : Nat) : Prop := ∃ o t, o * 2 ^ t = m - 1 ∧ o % 2 = 1 ∧ MRat m b o t
noncomputable def mrB (m b : Nat) : Bool := decide (MRp m b)

theorem odd_uniq {o t o' t' : Nat} (h : o % 2 = 1) (h' : o' % 2 = 1) (he : o * 2 ^ t = o' * 2 ^ t') : o = o' ∧ t = t' := by
  have key : ∀ {o t o' t' : Nat}, o % 2 = 1 → o * 2 ^ t = o' * 2 ^ t' → ¬ t < t' := by
    intro o t o' t' ho he hlt
    have e : 2 ^ t' = 2 ^ (t' - t - 1) * 2 * 2 ^ t := by
      rw [← Nat.pow_succ, ← Nat.pow_add]; congr 1; omega
    rw [e, ← Nat.mul_assoc] at he
    have := Nat.eq_of_mul_eq_mul_right (Nat.two_pow_pos t) he
    rw [this, ← Nat.mul_assoc] at ho
    omega
  have ht : t = t' := by
    rcases Nat.lt_trichotomy t t' with hl | hl | hl
    · exact (key h he hl).elim
    · exact hl
    · exact (key h' he.symm hl).elim
  subst ht
  exact ⟨Nat.eq_of_mul_eq_mul_right (Nat.two_pow_pos t) he, rfl⟩
theorem mrB_at {m b o t : Nat} (he : o * 2 ^ t = m - 1) (ho : o % 2 = 1) : mrB m b = true ↔ MRat m b o t := by
  unfold mrB
  rw [decide_eq_true_eq]
  constructor
  · rintro ⟨o', t', he', ho', h⟩
    obtain ⟨rfl, rfl⟩ := odd_uniq ho ho' (he.trans he'.symm)
    exact h
  · intro h; exact ⟨o, t, he, ho, h⟩
theorem mrB_f {m b o t : Nat} (he : o * 2 ^ t = m - 1) (ho : o % 2 = 1) (h : ¬ MRat m b o t) : mrB m b = false := by
  cases hb : mrB m b with
  | false => rfl
  | true => exact absurd ((mrB_at he ho).1 hb) h

theorem odd_part : ∀ n : Nat, 0 < n → ∃ o t, o * 2 ^ t = n ∧ o % 2 = 1 := by
  intro n
  induction n using Nat.strongRecOn with
  | _ n ih =>
    intro hn
    rcases Nat.mod_two_eq_zero_or_one n with h | h
    · obtain ⟨o, t, he, ho⟩ := ih (n / 2) (by omega) (by omega)
      exact ⟨o, t + 1, by rw [Nat.pow_succ, ← Nat.mul_assoc, he]; omega, ho⟩
    · exact ⟨n, 0, by simp, h⟩

theorem mr_prime {p b : Nat} (h : Prm p) (h3 : 3 ≤ p) (hb : ¬ p ∣ b) : mrB p b = true := by
  have h2 := h.1
  obtain ⟨o, t, he, ho⟩ := odd_part (p - 1) (by omega)
  rw [mrB_at he ho]
  have hf : pw p b (o * 2 ^ t) = 1 := by rw [he]; exact fermat1 h hb
  clear he
  induction t with
  | zero => left; rwa [Nat.pow_zero, Nat.mul_one] at hf
  | succ t ih =>
    have e : o * 2 ^ (t + 1) = o * 2 ^ t + o * 2 ^ t := by rw [Nat.pow_succ, ← Nat.mul_assoc]; omega
    rw [e, ← pw_add] at hf
    rcases sqrt_one h (pw_lt (by omega) _ _) hf with h1 | h1
    · rcases ih h1 with h4 | ⟨i, hi, h4⟩
      · exact .inl h4
      · exact .inr ⟨i, by omega, h4⟩
    · exact .inr ⟨t, by omega, h1⟩
end Go.Proofs.YtjfphobfikadlaaGreatDoor.Num
namespace Go.Proofs.YtjfphobfikadlaaGreatDoor
open Go.RowKit Num

theorem two_lt {o t m : Nat} (h : o * 2 ^ t = m - 1) (hm : 3 ≤ m) : 1 ≤ o ∧ o < m ∧ t < m := by
  have o0 : o ≠ 0 := by rintro rfl; rw [Nat.zero_mul] at h; omega
  have h1 := Nat.lt_two_pow_self (n := t)
  have h2 := Nat.mul_le_mul (show 1 ≤ o by omega) (Nat.le_refl (2 ^ t))
  have h3 := Nat.mul_le_mul (Nat.le_refl o) (show 1 ≤ 2 ^ t by omega)
  omega
theorem pw_sq (m b o i : Nat) : pw m b (o * 2 ^ i) * pw m b (o * 2 ^ i) % m = pw m b (o * 2 ^ (i + 1)) := by
  rw [pw_add, show o * 2 ^ i + o * 2 ^ i = o * 2 ^ (i + 1) by rw [Nat.pow_succ, ← Nat.mul_assoc]; omega]

theorem wraps_u64_63 (n : Int) (h₀ : 0 ≤ n) (h₁ : n < 2 ^ 63) : IntKind.u64.wrap n = n := by rw [IntKind.wrap_u64]; omega
theorem and_1u (t : Nat) (ht : t < 9223372036854775808) : bits .and .u64 (t : Int) 1 = ((t % 2 : Nat) : Int) := by
  have h := bits_mask .u64 63 (by decide) wraps_u64_63 1 (by decide) (t : Int) (by omega) (by omega)
  have e : ((2 : Int) ^ 1 - 1) = 1 := by decide
  have e2 : ((2 : Int) ^ 1) = 2 := by decide
  rw [e, e2] at h
  rw [h]; omega

set_option maxHeartbeats 400000 in
theorem f_power (m x e : Nat) (w : World) (h1 : 2 ≤ m) (h2 : m ≤ 2147483648) (hx : x < 2147483648) (he : e < 9223372036854775808) :
    Calls Tryz.prog 192 #[.int .i64 (m : Int), .int .i64 (x : Int), .int .u64 (e : Int)] w fun r w' => r = .returned (.int .i64 (pw m x e : Int)) ∧ w = w' := by
  go_enter Tryz.func192, Tryz.ntmps192
  go_wp2_with (go_at_call 173; refine (f_modulo _ _ _ (by omega) (by omega)).mono ?_; rintro e w' ⟨rfl, rfl⟩)
  go_loop [7, 1, 2] (fun o y t => ∃ o' x' t' : Nat, o = .int .i64 o' ∧ y = .int .i64 x' ∧ t = .int .u64 t' ∧ o' < m ∧ x' < 2147483648 ∧ t' < 9223372036854775808 ∧ o' * x' ^ t' % m = pw m x e) (fun _ _ t => (intOf t).toNat)
  case atStart => exact ⟨1 % m, x, e, int_eq (by rw [Int.natCast_emod]; rfl), rfl, rfl, Nat.mod_lt _ (by omega), hx, he, by rw [Nat.mod_eq_of_lt (show 1 < m by omega), Nat.one_mul]; rfl⟩
  case round =>
    obtain ⟨o', x', t', rfl, rfl, rfl, ho', hx', ht', hr⟩ := hrel
    have hR := Lib.hid hr
    clear hr
    have ha := Lib.hid (and_1u t' ht')
    have hs := Nat.mod_lt (x' * x') (show 0 < m by omega)
    have hs2 := Nat.mod_lt (o' * x') (show 0 < m by omega)
    by_cases h0 : 0 < t'
    · rcases Nat.mod_two_eq_zero_or_one t' with hp | hp
      · have c : (bits .and .u64 (t' : Int) 1 == 1) = false := by rw [ha.out, hp]; rfl
        go_wp2_with (go_at_call 138; refine (f_Mul _ _ _ _ (by omega) h2 (by omega) (by omega)).mono ?_; rintro e w' ⟨rfl, rfl⟩)
        go_round
        case rel => exact ⟨o', x' * x' % m, t' / 2, by go_num, by go_num, by go_num, ho', by omega, by omega, by rw [step_even m o' x' t' hp]; exact hR.out⟩
        case measure => simp [intOf]; omega
      · have c : (bits .and .u64 (t' : Int) 1 == 1) = true := by rw [ha.out, hp]; rfl
        go_wp2_with (go_at_call 138; refine (f_Mul _ _ _ _ (by omega) h2 (by omega) (by omega)).mono ?_; rintro e w' ⟨rfl, rfl⟩)
        go_round
        case rel => exact ⟨o' * x' % m, x' * x' % m, t' / 2, by go_num, by go_num, by go_num, by omega, by omega, by omega, by rw [step_odd m o' x' t' hp]; exact hR.out⟩
        case measure => simp [intOf]; omega
    · have h0' : t' = 0 := by omega
      subst h0'
      go_wp2
      go_ret
      exact ⟨ret_int (by have := hR.out; rw [Nat.pow_zero, Nat.mul_one, Nat.mod_eq_of_lt ho'] at this; rw [← this]), rfl⟩

theorem f_powerII (m : Nat) (x e : Int) (w : World) (h1 : 2 ≤ m) (h2 : m ≤ 2147483648) (hx0 : 0 ≤ x) (hx : x < 2147483648) (h0 : 0 ≤ e) (he : e < 9223372036854775808) :
    Calls Tryz.prog 192 #[.int .i64 (m : Int), .int .i64 x, .int .u64 e] w fun r w' => r = .returned (.int .i64 (pw m x.toNat e.toNat : Int)) ∧ w = w' := by
  obtain ⟨n, rfl⟩ := Int.eq_ofNat_of_zero_le h0
  obtain ⟨k, rfl⟩ := Int.eq_ofNat_of_zero_le hx0
  exact f_power m k n w h1 h2 (by omega) (by omega)

set_option maxHeartbeats 400000 in
theorem f_passes (m b : Nat) (w : World) (h1 : 3 ≤ m) (h2 : m ≤ 2147483648) (ho : m % 2 = 1) (hz : ∀ o, pw m b o ≠ 0) :
    Calls Tryz.prog 156 #[.int .i64 (m : Int), .int .i64 (b : Int)] w fun r w' => r = .returned (.bool (mrB m b)) ∧ w = w' := by
  go_enter Tryz.func156, Tryz.ntmps156
  go_wp2
  go_loop [5, 6] (fun a c => ∃ o t : Nat, a = .int .i64 o ∧ c = .int .i64 t ∧ o * 2 ^ t = m - 1) (fun a _ => (intOf a).toNat)
  case atStart => exact ⟨m - 1, 0, int_eq (by omega), rfl, by rw [Nat.pow_zero, Nat.mul_one]⟩
  case round =>
    obtain ⟨o, t, rfl, rfl, he⟩ := hrel
    obtain ⟨o1, o2, t2⟩ := two_lt he h1
    have HE := Lib.hid he
    clear he
    by_cases hp : o % 2 = 0
    · go_wp2
      go_round
      case rel => exact ⟨o / 2, t + 1, by go_num, by go_num, by rw [← HE.out, Nat.pow_succ, Nat.mul_comm (2 ^ t), ← Nat.mul_assoc, show o / 2 * 2 = o by omega]⟩
      case measure => simp [intOf]; omega
    · have hp' : o % 2 = 1 := by omega
      have t1 : 1 ≤ t := by
        refine Nat.pos_of_ne_zero ?_
        rintro rfl
        have := HE.out; rw [Nat.pow_zero, Nat.mul_one] at this; omega
      have q0 : 0 ≤ (b : Int).tmod (m : Int) := by rw [cast_mod]; omega
      have q1 : (b : Int).tmod (m : Int) < m := Int.tmod_lt_of_pos _ (by omega)
      have hx : pw m ((b : Int).tmod (m : Int)).toNat (o : Int).toNat = pw m b o := by
        rw [cast_mod, Int.toNat_natCast, Int.toNat_natCast, pw_mod_base]
      have HX := Lib.hid hx
      clear hx
      go_wp2_with fail
      refine (f_powerII _ _ _ _ (by omega) h2 q0 (by omega) (by omega) (by omega)).mono ?_
      rintro e' w' ⟨rfl, rfl⟩
      rw [HX.out]
      have HZ := Lib.hid (hz o)
      have c0 : (((pw m b o : Nat) : Int) == 0) = false := by rw [beq_eq_false_iff_ne]; have := HZ.out; omega
      by_cases hx1 : pw m b o = 1
      · have hT := (mrB_at HE.out hp').2 (.inl hx1)
        have cT : (((pw m b o : Nat) : Int) == 1) = true := by rw [hx1]; rfl
        clear hx1 hz
        go_wp2
        go_ret
        exact ⟨ret_bool hT.symm, rfl⟩
      · have HX1 := Lib.hid hx1
        have c1 : (((pw m b o : Nat) : Int) == 1) = false := by rw [beq_eq_false_iff_ne]; omega
        clear hx1
        by_cases hx2 : pw m b o = m - 1
        · have hT := (mrB_at HE.out hp').2 (.inr ⟨0, by omega, by rw [Nat.pow_zero, Nat.mul_one]; exact hx2⟩)
          have cT : (((pw m b o : Nat) : Int) == (m : Int) - 1) = true := by rw [beq_iff_eq]; omega
          clear hx2 hz
          go_wp2
          go_ret
          exact ⟨ret_bool hT.symm, rfl⟩
        · have HX2 := Lib.hid hx2
          have c2 : (((pw m b o : Nat) : Int) == (m : Int) - 1) = false := by rw [beq_eq_false_iff_ne]; omega
          clear hx2 hz
          go_wp2
          go_loop [7, 38] (fun x c => ∃ i : Nat, i + 1 ≤ t ∧ c = .int .i64 i ∧ x = .int .i64 (pw m b (o * 2 ^ i) : Nat) ∧ ∀ j, j ≤ i → pw m b (o * 2 ^ j) ≠ m - 1) (fun _ c => t - (intOf c).toNat)
          case atStart => exact ⟨0, t1, rfl, int_eq (by rw [Nat.pow_zero, Nat.mul_one]), fun j hj => by rw [show j = 0 by omega, Nat.pow_zero, Nat.mul_one]; exact HX2.out⟩
          case round =>
            obtain ⟨i, hi, rfl, rfl, hj⟩ := hrel
            have HJ := Lib.hid hj
            clear hj
            have hlt := pw_lt (m := m) (by omega) b (o * 2 ^ i)
            by_cases hl : i + 1 < t
            · have hs := Nat.mod_lt (pw m b (o * 2 ^ i) * pw m b (o * 2 ^ i)) (show 0 < m by omega)
              have HS := Lib.hid (pw_sq m b o i)
              by_cases hm : pw m b (o * 2 ^ (i + 1)) = m - 1
              · have hT := (mrB_at HE.out hp').2 (.inr ⟨i + 1, hl, hm⟩)
                have cm : (((pw m b (o * 2 ^ (i + 1)) : Nat) : Int) == (m : Int) - 1) = true := by rw [beq_iff_eq]; omega
                clear hm
                go_wp2_with fail
                refine (f_Mul _ _ _ _ (by omega) h2 (by omega) (by omega)).mono ?_
                rintro e' w' ⟨rfl, rfl⟩
                rw [HS.out]
                go_wp2
                go_ret
                exact ⟨ret_bool hT.symm, rfl⟩
              · have cm : (((pw m b (o * 2 ^ (i + 1)) : Nat) : Int) == (m : Int) - 1) = false := by rw [beq_eq_false_iff_ne]; omega
                have HM := Lib.hid hm
                clear hm
                go_wp2_with fail
                refine (f_Mul _ _ _ _ (by omega) h2 (by omega) (by omega)).mono ?_
                rintro e' w' ⟨rfl, rfl⟩
                rw [HS.out]
                go_wp2
                go_round
                case rel =>
                  refine ⟨i + 1, by omega, by go_num, rfl, fun j hj => ?_⟩
                  by_cases hji : j = i + 1
                  · subst hji; exact HM.out
                  · exact HJ.out j (by omega)
                case measure => simp [intOf]; omega
            · have hF : mrB m b = false := mrB_f HE.out hp' (by
                rintro (h | ⟨j, hj, h⟩)
                · exact HX1.out h
                · exact HJ.out j (by omega) h)
              go_wp2
              go_ret
              exact ⟨rfl, rfl⟩
end Go.Proofs.YtjfphobfikadlaaGreatDoor
namespace Go.Proofs.YtjfphobfikadlaaGreatDoor
open Go.RowKit Num

/-- The variable of the bases holds what the text lays in it. -/
def BasesOk (w : World) : Prop := w.cell? ⟨0, 0, none⟩ = some (.int .i64 2) ∧ w.cell? ⟨0, 1, none⟩ = some (.int .i64 3) ∧ w.cell? ⟨0, 2, none⟩ = some (.int .i64 5) ∧ w.cell? ⟨0, 3, none⟩ = some (.int .i64 7)

theorem prm_mod {p b : Nat} (hp : Prm p) (hb : Prm b) (h : p ≠ b) : p % b ≠ 0 := by
  intro h0
  rcases hp.2 b (Nat.dvd_of_mod_eq_zero h0) with e | e
  · have := hb.1; omega
  · exact h e.symm
theorem prm_pw {p b : Nat} (hp : Prm p) (hb : Prm b) (h : p ≠ b) (o : Nat) : pw p b o ≠ 0 := by
  have hnd : ¬ p ∣ b := fun hd => by
    rcases hb.2 p hd with e | e
    · have := hp.1; omega
    · exact h e
  induction o with
  | zero => rw [pw_zero, Nat.mod_eq_of_lt (by have := hp.1; omega)]; decide
  | succ o ih =>
    intro h0
    have hd : p ∣ b ^ (o + 1) := Nat.dvd_of_mod_eq_zero h0
    rw [Nat.pow_succ] at hd
    rcases prm_dvd hp hd with d | d
    · exact ih (Nat.mod_eq_zero_of_dvd d)
    · exact hnd d
theorem prm_2 : Prm 2 := prm_of (f := 0) (by decide) (by kernel_rfl) (by decide)
theorem prm_3 : Prm 3 := prm_of (f := 1) (by decide) (by kernel_rfl) (by decide)
theorem prm_5 : Prm 5 := prm_of (f := 1) (by decide) (by kernel_rfl) (by decide)
theorem prm_7 : Prm 7 := prm_of (f := 1) (by decide) (by kernel_rfl) (by decide)
theorem prm_nd {p b : Nat} (hp : Prm p) (hb : Prm b) (h : p ≠ b) : ¬ p ∣ b := fun hd => by
  rcases hb.2 p hd with e | e
  · have := hp.1; omega
  · exact h e
theorem prm_odd {p : Nat} (hp : Prm p) (h : 3 ≤ p) : p % 2 = 1 := by
  have := prm_mod hp prm_2 (by omega); omega

set_option maxHeartbeats 1000000 in
theorem f_Valid (p : Nat) (w : World) (hw : BasesOk w) (hp : Prm p) (h2 : p ≤ 1073741824) :
    Calls Tryz.prog 118 #[.int .i64 (p : Int)] w fun r w' => r = .returned (.bool true) ∧ w = w' := by
  obtain ⟨b0, b1, b2, b3⟩ := hw
  have h1 := hp.1
  have i0 : ∀ w, (Instr.index 175 (.agg #[.int .i64 2, .int .i64 3, .int .i64 5, .int .i64 7]) (.int .i64 0)).run Tryz.prog w = .ok (.int .i64 2) w := fun _ => by kernel_rfl
  have i1 : ∀ w, (Instr.index 175 (.agg #[.int .i64 2, .int .i64 3, .int .i64 5, .int .i64 7]) (.int .i64 1)).run Tryz.prog w = .ok (.int .i64 3) w := fun _ => by kernel_rfl
  have i2 : ∀ w, (Instr.index 175 (.agg #[.int .i64 2, .int .i64 3, .int .i64 5, .int .i64 7]) (.int .i64 2)).run Tryz.prog w = .ok (.int .i64 5) w := fun _ => by kernel_rfl
  have i3 : ∀ w, (Instr.index 175 (.agg #[.int .i64 2, .int .i64 3, .int .i64 5, .int .i64 7]) (.int .i64 3)).run Tryz.prog w = .ok (.int .i64 7) w := fun _ => by kernel_rfl
  by_cases e2 : p = 2
  · subst e2
    go_enter Tryz.func118, Tryz.ntmps118
    go_wp2
    refine wp_loop_rounds 4 ?_
    rw [rounds_succ]
    go_wp2
    go_ret
    exact ⟨rfl, rfl⟩
  have ho := prm_odd hp (by omega)
  have c2 : ((p : Int) == 2) = false := by rw [beq_eq_false_iff_ne]; omega
  have d2 : ((p : Int) % 2 == 0) = false := by rw [beq_eq_false_iff_ne]; omega
  have m2 := mr_prime hp (by omega) (prm_nd hp prm_2 e2)
  have z2 := prm_pw hp prm_2 e2
  by_cases e3 : p = 3
  · subst e3
    go_enter Tryz.func118, Tryz.ntmps118
    go_wp2
    refine wp_loop_rounds 4 ?_
    rw [rounds_succ]
    go_wp2_with fail
    refine (f_passes 3 2 _ (by omega) (by omega) (by decide) z2).mono ?_
    rintro e w' ⟨rfl, rfl⟩
    rw [m2]
    go_wp2
    rw [rounds_succ]
    go_wp2
    go_ret
    exact ⟨rfl, rfl⟩
  have c3 : ((p : Int) == 3) = false := by rw [beq_eq_false_iff_ne]; omega
  have d3 : ((p : Int) % 3 == 0) = false := by rw [beq_eq_false_iff_ne]; have := prm_mod hp prm_3 e3; omega
  have m3 := mr_prime hp (by omega) (prm_nd hp prm_3 e3)
  have z3 := prm_pw hp prm_3 e3
  by_cases e5 : p = 5
  · subst e5
    go_enter Tryz.func118, Tryz.ntmps118
    go_wp2
    refine wp_loop_rounds 4 ?_
    rw [rounds_succ]
    go_wp2_with fail
    refine (f_passes 5 2 _ (by omega) (by omega) (by decide) z2).mono ?_
    rintro e w' ⟨rfl, rfl⟩
    rw [m2]
    go_wp2
    rw [rounds_succ]
    go_wp2_with fail
    refine (f_passes 5 3 _ (by omega) (by omega) (by decide) z3).mono ?_
    rintro e w' ⟨rfl, rfl⟩
    rw [m3]
    go_wp2
    rw [rounds_succ]
    go_wp2
    go_ret
    exact ⟨rfl, rfl⟩
  have c5 : ((p : Int) == 5) = false := by rw [beq_eq_false_iff_ne]; omega
  have d5 : ((p : Int) % 5 == 0) = false := by rw [beq_eq_false_iff_ne]; have := prm_mod hp prm_5 e5; omega
  have m5 := mr_prime hp (by omega) (prm_nd hp prm_5 e5)
  have z5 := prm_pw hp prm_5 e5
  by_cases e7 : p = 7
  · subst e7
    go_enter Tryz.func118, Tryz.ntmps118
    go_wp2
    refine wp_loop_rounds 4 ?_
    rw [rounds_succ]
    go_wp2_with fail
    refine (f_passes 7 2 _ (by omega) (by omega) (by decide) z2).mono ?_
    rintro e w' ⟨rfl, rfl⟩
    rw [m2]
    go_wp2
    rw [rounds_succ]
    go_wp2_with fail
    refine (f_passes 7 3 _ (by omega) (by omega) (by decide) z3).mono ?_
    rintro e w' ⟨rfl, rfl⟩
    rw [m3]
    go_wp2
    rw [rounds_succ]
    go_wp2_with fail
    refine (f_passes 7 5 _ (by omega) (by omega) (by decide) z5).mono ?_
    rintro e w' ⟨rfl, rfl⟩
    rw [m5]
    go_wp2
    rw [rounds_succ]
    go_wp2
    go_ret
    exact ⟨rfl, rfl⟩
  have c7 : ((p : Int) == 7) = false := by rw [beq_eq_false_iff_ne]; omega
  have d7 : ((p : Int) % 7 == 0) = false := by rw [beq_eq_false_iff_ne]; have := prm_mod hp prm_7 e7; omega
  have m7 := mr_prime hp (by omega) (prm_nd hp prm_7 e7)
  have z7 := prm_pw hp prm_7 e7
  go_enter Tryz.func118, Tryz.ntmps118
  go_wp2
  refine wp_loop_rounds 5 ?_
  rw [rounds_succ]
  go_wp2_with fail
  refine (f_passes p 2 _ (by omega) (by omega) ho z2).mono ?_
  rintro e w' ⟨rfl, rfl⟩
  rw [m2]
  go_wp2
  rw [rounds_succ]
  go_wp2_with fail
  refine (f_passes p 3 _ (by omega) (by omega) ho z3).mono ?_
  rintro e w' ⟨rfl, rfl⟩
  rw [m3]
  go_wp2
  rw [rounds_succ]
  go_wp2_with fail
  refine (f_passes p 5 _ (by omega) (by omega) ho z5).mono ?_
  rintro e w' ⟨rfl, rfl⟩
  rw [m5]
  go_wp2
  rw [rounds_succ]
  go_wp2_with fail
  refine (f_passes p 7 _ (by omega) (by omega) ho z7).mono ?_
  rintro e w' ⟨rfl, rfl⟩
  rw [m7]
  go_wp2
  rw [rounds_succ]
  go_wp2
  go_ret
  exact ⟨rfl, rfl⟩

end Go.Proofs.YtjfphobfikadlaaGreatDoor
namespace Go.Proofs.YtjfphobfikadlaaGreatDoor
open Go.RowKit Num

theorem cellOf {B : Nat} {w w' : World} (h : Below B w w') {a : Addr} {v : Value} (hc : w.cell? a = some v) (hB : w.heap.size ≤ B) : w'.cell? a = some v := by
  rw [h.cell (Nat.lt_of_lt_of_le (World.block_lt_of_cell? w a hc) hB)]
  exact hc
theorem BasesOk.below {w w' : World} (h : BasesOk w) (hb : Below w.heap.size w w') : BasesOk w' :=
  ⟨cellOf hb h.1 (Nat.le_refl _), cellOf hb h.2.1 (Nat.le_refl _), cellOf hb h.2.2.1 (Nat.le_refl _), cellOf hb h.2.2.2 (Nat.le_refl _)⟩
theorem BasesOk.alloc {w : World} (h : BasesOk w) (o : Obj) : BasesOk (w.alloc o) := h.below ((Below.refl _ _).alloc (Nat.le_refl _) _)
/-- A safe prime: it and twice it plus one are prime. -/
def SPrm (p : Nat) : Prop := Prm p ∧ Prm (2 * p + 1) ∧ 3 ≤ p ∧ p ≤ 1073741823
theorem safe_sprm {p : Nat} (h : Num.Safe p) : SPrm p := ⟨safe_prm h, safe_prm2 h, (safe_bd h).1, by have := (safe_bd h).2; omega⟩

end Go.Proofs.YtjfphobfikadlaaGreatDoor
