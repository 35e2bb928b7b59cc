/- Contracts of field and handle: numbers modulo a number. -/
import Derived.Test.YtmneokkdkgflkaaDoorRows
import Derived.Test.YtmneokkdkgflkaaDoorHanNum
import Derived.WalkKit
import Derived.WalkSpells
import Derived.WalkLawsBesides
import Derived.Deep.QuietTactic
import Derived.BigQuiet
import Derived.Lib.Hide
import Derived.Laws.BitsLemmas
set_option linter.unusedVariables false
set_option linter.unusedSimpArgs false
namespace Go.Proofs.YtmneokkdkgflkaaDoor
open Go.RowKit Num

theorem wraps_i64_63 (n : Int) (h₀ : 0 ≤ n) (h₁ : n < 2 ^ 63) : IntKind.i64.wrap n = n := by rw [IntKind.wrap_i64]; omega
theorem and_1 (t : Nat) (ht : t < 9223372036854775808) : bits .and .i64 (t : Int) 1 = ((t % 2 : Nat) : Int) := by
  have h := bits_mask .i64 63 (by decide) wraps_i64_63 1 (by decide) (t : Int) (by omega) (by omega)
  have e : ((2 : Int) ^ 1 - 1) = 1 := by decide
  have e2 : ((2 : Int) ^ 1) = 2 := by decide
  rw [e, e2] at h
  rw [h]; omega
theorem emod_tmod (n p : Int) : n % p = n.tmod p % p := by
  conv => lhs; rw [← Int.mul_tdiv_add_tmod n p, Int.add_comm, Int.add_mul_emod_self_left]
theorem emod_lo {n p : Int} (h : 1 ≤ p) (h1 : -p < n.tmod p) (h2 : n.tmod p < 0) : n.tmod p + p = n % p := by
  rw [emod_tmod, ← Int.add_emod_right, Int.emod_eq_of_lt (by omega) (by omega)]
theorem emod_hi {n p : Int} (h : 1 ≤ p) (h1 : n.tmod p < p) (h2 : 0 ≤ n.tmod p) : n.tmod p = n % p := by
  rw [emod_tmod, Int.emod_eq_of_lt (by omega) (by omega)]
theorem ret_int {k : IntKind} {a b : Int} (h : a = b) : Ending.returned (.int k a) = .returned (.int k b) := by rw [h]
theorem int_eq {k : IntKind} {a b : Int} (h : a = b) : Value.int k a = .int k b := by rw [h]
theorem ret_bool {a b : Bool} (h : a = b) : Ending.returned (.bool a) = .returned (.bool b) := by rw [h]

set_option maxHeartbeats 400000 in
theorem f_modulo (p n : Int) (w : World) (h1 : 1 ≤ p) (h2 : p ≤ 2147483648) :
    Calls Tryd.prog 85 #[.int .i64 p, .int .i64 n] w fun e w' => e = .returned (.int .i64 (n % p)) ∧ w = w' := by
  have ht := Int.tmod_lt_of_pos n (b := p) (by omega)
  have ht' : -p < n.tmod p := Int.lt_tmod_of_pos n (by omega)
  go_enter Tryd.func85, Tryd.ntmps85
  go_wp2
  all_goals go_ret
  · exact ⟨ret_int (emod_lo h1 ht' (by assumption)), rfl⟩
  · exact ⟨ret_int (emod_hi h1 ht (by assumption)), rfl⟩

set_option maxHeartbeats 400000 in
theorem h_times (m a b : Nat) (w : World) (h1 : 1 ≤ m) (h2 : m ≤ 2147483648) (ha : a < 2147483648) (hb : b < 2147483648) :
    Calls Tryd.prog 54 #[.int .i64 (m : Int), .int .i64 (a : Int), .int .i64 (b : Int)] w fun e w' => e = .returned (.int .i64 ((a * b % m : Nat) : Int)) ∧ w = w' := by
  have hm := mul_bd ha hb (Nat.le_refl _)
  go_enter Tryd.func54, Tryd.ntmps54
  go_wp2
  go_ret
  exact ⟨ret_int (cast_mul_mod a b m), rfl⟩

set_option maxHeartbeats 400000 in
theorem h_power (m x e : Nat) (w : World) (h1 : 2 ≤ m) (h2 : m ≤ 2147483648) (hx : x < 2147483648) (he : e < 9223372036854775808) :
    Calls Tryd.prog 73 #[.int .i64 (m : Int), .int .i64 (x : Int), .int .i64 (e : Int)] w fun r w' => r = .returned (.int .i64 (pw m x e : Int)) ∧ w = w' := by
  go_enter Tryd.func73, Tryd.ntmps73
  go_wp2
  go_loop [7, 1, 2] (fun o y t => ∃ o' x' t' : Nat, o = .int .i64 o' ∧ y = .int .i64 x' ∧ t = .int .i64 t' ∧ o' < m ∧ x' < 2147483648 ∧ t' < 9223372036854775808 ∧ o' * x' ^ t' % m = pw m x e) (fun _ _ t => (intOf t).toNat)
  case atStart => exact ⟨1, x, e, rfl, rfl, rfl, by omega, hx, he, by rw [Nat.one_mul]; rfl⟩
  case round =>
    obtain ⟨o', x', t', rfl, rfl, rfl, ho', hx', ht', hr⟩ := hrel
    have hR := Lib.hid hr
    clear hr
    have ha := Lib.hid (and_1 t' ht')
    have hs := Nat.mod_lt (x' * x') (show 0 < m by omega)
    have hs2 := Nat.mod_lt (o' * x') (show 0 < m by omega)
    by_cases h0 : 0 < t'
    · rcases Nat.mod_two_eq_zero_or_one t' with hp | hp
      · have c : (bits .and .i64 (t' : Int) 1 == 1) = false := by rw [ha.out, hp]; rfl
        go_wp2_with (go_at_call 54; refine (h_times _ _ _ _ (by omega) h2 (by omega) (by omega)).mono ?_; rintro e w' ⟨rfl, rfl⟩)
        go_round
        case rel => exact ⟨o', x' * x' % m, t' / 2, by go_num, by go_num, by go_num, ho', by omega, by omega, by rw [step_even m o' x' t' hp]; exact hR.out⟩
        case measure => simp [intOf]; omega
      · have c : (bits .and .i64 (t' : Int) 1 == 1) = true := by rw [ha.out, hp]; rfl
        go_wp2_with (go_at_call 54; refine (h_times _ _ _ _ (by omega) h2 (by omega) (by omega)).mono ?_; rintro e w' ⟨rfl, rfl⟩)
        go_round
        case rel => exact ⟨o' * x' % m, x' * x' % m, t' / 2, by go_num, by go_num, by go_num, by omega, by omega, by omega, by rw [step_odd m o' x' t' hp]; exact hR.out⟩
        case measure => simp [intOf]; omega
    · have h0' : t' = 0 := by omega
      subst h0'
      go_wp2
      go_ret
      exact ⟨ret_int (by have := hR.out; rw [Nat.pow_zero, Nat.mul_one, Nat.mod_eq_of_lt ho'] at this; rw [← this]), rfl⟩

set_option maxHeartbeats 400000 in
theorem f_Mul (p a b : Nat) (w : World) (h1 : 1 ≤ p) (h2 : p ≤ 2147483648) (ha : a < 2147483648) (hb : b < 2147483648) :
    Calls Tryd.prog 66 #[.int .i64 (p : Int), .int .i64 (a : Int), .int .i64 (b : Int)] w fun e w' => e = .returned (.int .i64 ((a * b % p : Nat) : Int)) ∧ w = w' := by
  have hm := mul_bd ha hb (Nat.le_refl _)
  go_enter Tryd.func66, Tryd.ntmps66
  go_wp2_with (go_at_call 85; refine (f_modulo _ _ _ (by omega) (by omega)).mono ?_; rintro e w' ⟨rfl, rfl⟩)
  go_ret
  exact ⟨ret_int (by rw [← Int.natCast_mul]; exact (Int.natCast_emod _ _).symm), rfl⟩

set_option maxHeartbeats 400000 in
theorem f_Element (p : Nat) (n : Int) (w : World) (h1 : 1 ≤ p) (h2 : p ≤ 2147483648) :
    Calls Tryd.prog 74 #[.int .i64 (p : Int), .int .i64 n] w fun e w' => e = .returned (.int .i64 (n % p)) ∧ w = w' := by
  go_enter Tryd.func74, Tryd.ntmps74
  go_wp2_with (go_at_call 85; refine (f_modulo _ _ _ (by omega) (by omega)).mono ?_; rintro e w' ⟨rfl, rfl⟩)
  go_ret
  exact ⟨rfl, rfl⟩

set_option maxHeartbeats 400000 in
theorem f_Add (p a b : Nat) (w : World) (h1 : 1 ≤ p) (h2 : p ≤ 2147483648) (ha : a < 2305843009213693952) (hb : b < 2305843009213693952) :
    Calls Tryd.prog 65 #[.int .i64 (p : Int), .int .i64 (a : Int), .int .i64 (b : Int)] w fun e w' => e = .returned (.int .i64 (((a + b) % p : Nat) : Int)) ∧ w = w' := by
  go_enter Tryd.func65, Tryd.ntmps65
  go_wp2_with (go_at_call 85; refine (f_modulo _ _ _ (by omega) (by omega)).mono ?_; rintro e w' ⟨rfl, rfl⟩)
  go_ret
  exact ⟨ret_int (by rw [← Int.natCast_add]; exact (Int.natCast_emod _ _).symm), rfl⟩

theorem quiet_left {P : Program} {f : FuncId} {args : Array Value} {w : World} {n : Nat} {v : Value}
    (h : Calls P f args (w.drewN n) fun e w' => e = .returned v ∧ w.drewN n = w') : Calls P f args (w.drewN n) fun e w' => e = .returned v ∧ ∃ m, w' = w.drewN m :=
  h.mono fun _ _ ⟨he, hm⟩ => ⟨he, n, hm.symm⟩

theorem h_powerI (m x : Nat) (e : Int) (w : World) (h1 : 2 ≤ m) (h2 : m ≤ 2147483648) (hx : x < 2147483648) (h0 : 0 ≤ e) (he : e < 9223372036854775808) :
    Calls Tryd.prog 73 #[.int .i64 (m : Int), .int .i64 (x : Int), .int .i64 e] w fun r w' => r = .returned (.int .i64 (pw m x e.toNat : Int)) ∧ w = w' := by
  obtain ⟨n, rfl⟩ := Int.eq_ofNat_of_zero_le h0
  exact h_power m x n w h1 h2 hx (by omega)

/-- No block below n turns, and the world may have drawn. -/
theorem below_dn {n : Nat} {w w' : World} (h : Below n w w') (k : Nat) : Below n w (w'.drewN k) := by
  exact ⟨h.os, h.tape, h.output, h.size, h.block⟩

set_option maxHeartbeats 400000 in
theorem h_gpower (p m x : Nat) (e : Int) (w : World) (h0 : 1 ≤ p) (hp : p ≤ 2147483648) (h1 : 2 ≤ m) (h2 : m ≤ 2147483648) (hx : x < 2147483648) :
    Calls Tryd.prog 51 #[.agg #[.int .i64 (p : Int), .int .i64 (m : Int)], .int .i64 (x : Int), .int .i64 e] w fun r w' => r = .returned (.int .i64 (pw m x (e % p).toNat : Int)) ∧ Below w.heap.size w w' := by
  have h3 := Int.emod_nonneg e (show (p : Int) ≠ 0 by omega)
  have h4 := Int.emod_lt_of_pos e (show 0 < (p : Int) by omega)
  go_enter Tryd.func51, Tryd.ntmps51
  go_wp2_with fail
  go_quiet ((first | (go_at_call 74; exact quiet_left (f_Element _ _ _ h0 hp)) | (go_at_call 73; exact quiet_left (h_powerI _ _ _ _ h1 h2 hx h3 (by omega)))))
  go_wp2_with fail
  go_ret
  exact ⟨rfl, below_dn ((Below.refl _ _).alloc (Nat.le_refl _) _) _⟩

/-- A number is of the group: above 0, below the modulus, and its power is 1. -/
def inG (p m : Nat) (x : Int) : Bool := decide (0 < x ∧ x < m ∧ pw m x.toNat p = 1)
theorem inG_f {p m : Nat} {x : Int} (h : ¬ (0 < x ∧ x < m)) : inG p m x = false := decide_eq_false fun hc => h ⟨hc.1, hc.2.1⟩
theorem inG_n {p m n : Nat} (h0 : 0 < n) (h : n < m) : (((pw m n p : Nat) : Int) == 1) = inG p m (n : Int) := by
  rw [Bool.eq_iff_iff, beq_iff_eq, inG, decide_eq_true_eq, Int.toNat_natCast]; omega

set_option maxHeartbeats 400000 in
theorem h_has (p m : Nat) (x : Int) (w : World) (hp : p ≤ 2147483648) (h1 : 2 ≤ m) (h2 : m ≤ 2147483648) :
    Calls Tryd.prog 59 #[.agg #[.int .i64 (p : Int), .int .i64 (m : Int)], .int .i64 x] w fun r w' => r = .returned (.bool (inG p m x)) ∧ Below w.heap.size w w' := by
  by_cases h3 : 0 < x
  · by_cases h4 : x < m
    · obtain ⟨n, rfl⟩ := Int.eq_ofNat_of_zero_le (show 0 ≤ x by omega)
      rw [← inG_n (p := p) (show 0 < n by omega) (show n < m by omega)]
      go_enter Tryd.func59, Tryd.ntmps59
      go_wp2_with (go_at_call 73; refine (h_power _ _ _ _ h1 h2 (by omega) (by omega)).mono ?_; rintro e' w' ⟨rfl, rfl⟩)
      all_goals go_ret
      all_goals exact ⟨rfl, (Below.refl _ _).alloc (Nat.le_refl _) _⟩
    · rw [inG_f (by omega)]
      go_enter Tryd.func59, Tryd.ntmps59
      go_wp2
      go_ret
      exact ⟨rfl, (Below.refl _ _).alloc (Nat.le_refl _) _⟩
  · rw [inG_f (by omega)]
    go_enter Tryd.func59, Tryd.ntmps59
    go_wp2
    go_ret
    exact ⟨rfl, (Below.refl _ _).alloc (Nat.le_refl _) _⟩

set_option maxHeartbeats 400000 in
theorem h_Times (p a b : Nat) (w : World) (h2 : p ≤ 1073741823) (ha : a < 2147483648) (hb : b < 2147483648) :
    Calls Tryd.prog 29 #[.int .i64 (p : Int), .int .i64 (a : Int), .int .i64 (b : Int)] w fun e w' => e = .returned (.int .i64 ((a * b % (2 * p + 1) : Nat) : Int)) ∧ w = w' := by
  go_enter Tryd.func29, Tryd.ntmps29
  go_wp2_with fail
  refine (h_times (2 * p + 1) _ _ _ (by omega) (by omega) ha hb).mono ?_
  rintro e' w' ⟨rfl, rfl⟩
  go_wp2
  go_ret
  exact ⟨rfl, rfl⟩

set_option maxHeartbeats 400000 in
theorem h_Power (p x : Nat) (e : Int) (w : World) (h0 : 1 ≤ p) (h2 : p ≤ 1073741823) (hx : x < 2147483648) :
    Calls Tryd.prog 19 #[.int .i64 (p : Int), .int .i64 (x : Int), .int .i64 e] w fun r w' => r = .returned (.int .i64 (pw (2 * p + 1) x (e % p).toNat : Int)) ∧ Below w.heap.size w w' := by
  go_enter Tryd.func19, Tryd.ntmps19
  go_wp2_with fail
  refine (h_gpower p (2 * p + 1) x e _ h0 (by omega) (by omega) (by omega) hx).mono ?_
  rintro e' w' ⟨rfl, hb⟩
  go_wp2
  go_ret
  exact ⟨rfl, hb⟩
set_option maxHeartbeats 400000 in
theorem h_Invert (p x : Nat) (w : World) (h0 : 2 ≤ p) (h2 : p ≤ 1073741823) (hx : x < 2147483648) :
    Calls Tryd.prog 31 #[.int .i64 (p : Int), .int .i64 (x : Int)] w fun r w' => r = .returned (.int .i64 (pw (2 * p + 1) x (p - 1) : Int)) ∧ Below w.heap.size w w' := by
  go_enter Tryd.func31, Tryd.ntmps31
  go_wp2_with fail
  refine (h_Power p x (-1) _ (by omega) (by omega) hx).mono ?_
  rintro e' w' ⟨rfl, hb⟩
  go_wp2
  go_ret
  refine ⟨ret_int ?_, hb⟩
  rw [show ((-1 : Int) % (p : Int)).toNat = p - 1 from ?_]
  rw [← Int.add_emod_right, Int.emod_eq_of_lt (by omega) (by omega)]; omega
end Go.Proofs.YtmneokkdkgflkaaDoor
