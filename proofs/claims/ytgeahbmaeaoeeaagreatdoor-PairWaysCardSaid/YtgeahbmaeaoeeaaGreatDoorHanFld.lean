/- Contracts of field and handle: numbers modulo a number. -/
import Derived.Test.YtgeahbmaeaoeeaaGreatDoorRows
import Derived.Test.YtgeahbmaeaoeeaaGreatDoorHanNum
import Derived.WalkKit
import Derived.WalkSpells
import Derived.WalkLawsBesides
import Derived.Deep.QuietTactic
import Derived.BigQuiet
import Derived.Lib.Hide
import Derived.Laws.BitsLemmas
set_option linter.unusedVariables false
set_option linter.unusedSimpArgs false
namespace Go.Proofs.YtgeahbmaeaoeeaaGreatDoor
open Go.RowKit Num

theorem wraps_i64_63 (n : Int) (h₀ : 0 ≤ n) (h₁ : n < 2 ^ 63) : IntKind.i64.wrap n = n := by rw [IntKind.wrap_i64]; omega
theorem and_1 (t : Nat) (ht : t < 9223372036854775808) : bits .and .i64 (t : Int) 1 = ((t % 2 : Nat) : Int) := by
  have h := bits_mask .i64 63 (by decide) wraps_i64_63 1 (by decide) (t : Int) (by omega) (by omega)
  have e : ((2 : Int) ^ 1 - 1) = 1 := by decide
  have e2 : ((2 : Int) ^ 1) = 2 := by decide
  rw [e, e2] at h
  rw [h]; omega
theorem emod_tmod (n p : Int) : n % p = n.tmod p % p := by
  conv => lhs; rw [← Int.mul_tdiv_add_tmod n p, Int.add_comm, Int.add_mul_emod_self_left]
theorem emod_lo {n p : Int} (h : 1 ≤ p) (h1 : -p < n.tmod p) (h2 : n.tmod p < 0) : n.tmod p + p = n % p := by
  rw [emod_tmod, ← Int.add_emod_right, Int.emod_eq_of_lt (by omega) (by omega)]
theorem emod_hi {n p : Int} (h : 1 ≤ p) (h1 : n.tmod p < p) (h2 : 0 ≤ n.tmod p) : n.tmod p = n % p := by
  rw [emod_tmod, Int.emod_eq_of_lt (by omega) (by omega)]
theorem ret_int {k : IntKind} {a b : Int} (h : a = b) : Ending.returned (.int k a) = .returned (.int k b) := by rw [h]
theorem int_eq {k : IntKind} {a b : Int} (h : a = b) : Value.int k a = .int k b := by rw [h]
theorem ret_bool {a b : Bool} (h : a = b) : Ending.returned (.bool a) = .returned (.bool b) := by rw [h]

set_option maxHeartbeats 400000 in
theorem f_modulo (p n : Int) (w : World) (h1 : 1 ≤ p) (h2 : p ≤ 2147483648) :
    Calls Tryz.prog 110 #[.int .i64 p, .int .i64 n] w fun e w' => e = .returned (.int .i64 (n % p)) ∧ w = w' := by
  have ht := Int.tmod_lt_of_pos n (b := p) (by omega)
  have ht' : -p < n.tmod p := Int.lt_tmod_of_pos n (by omega)
  go_enter Tryz.func110, Tryz.ntmps110
  go_wp2
  all_goals go_ret
  · exact ⟨ret_int (emod_lo h1 ht' (by assumption)), rfl⟩
  · exact ⟨ret_int (emod_hi h1 ht (by assumption)), rfl⟩

set_option maxHeartbeats 400000 in
theorem f_Mul (p a b : Nat) (w : World) (h1 : 1 ≤ p) (h2 : p ≤ 2147483648) (ha : a < 2147483648) (hb : b < 2147483648) :
    Calls Tryz.prog 94 #[.int .i64 (p : Int), .int .i64 (a : Int), .int .i64 (b : Int)] w fun e w' => e = .returned (.int .i64 ((a * b % p : Nat) : Int)) ∧ w = w' := by
  have hm := mul_bd ha hb (Nat.le_refl _)
  go_enter Tryz.func94, Tryz.ntmps94
  go_wp2_with (go_at_call 110; refine (f_modulo _ _ _ (by omega) (by omega)).mono ?_; rintro e w' ⟨rfl, rfl⟩)
  go_ret
  exact ⟨ret_int (by rw [← Int.natCast_mul]; exact (Int.natCast_emod _ _).symm), rfl⟩

set_option maxHeartbeats 400000 in
theorem f_Element (p : Nat) (n : Int) (w : World) (h1 : 1 ≤ p) (h2 : p ≤ 2147483648) :
    Calls Tryz.prog 90 #[.int .i64 (p : Int), .int .i64 n] w fun e w' => e = .returned (.int .i64 (n % p)) ∧ w = w' := by
  go_enter Tryz.func90, Tryz.ntmps90
  go_wp2_with (go_at_call 110; refine (f_modulo _ _ _ (by omega) (by omega)).mono ?_; rintro e w' ⟨rfl, rfl⟩)
  go_ret
  exact ⟨rfl, rfl⟩

set_option maxHeartbeats 400000 in
theorem f_Add (p a b : Nat) (w : World) (h1 : 1 ≤ p) (h2 : p ≤ 2147483648) (ha : a < 2305843009213693952) (hb : b < 2305843009213693952) :
    Calls Tryz.prog 112 #[.int .i64 (p : Int), .int .i64 (a : Int), .int .i64 (b : Int)] w fun e w' => e = .returned (.int .i64 (((a + b) % p : Nat) : Int)) ∧ w = w' := by
  go_enter Tryz.func112, Tryz.ntmps112
  go_wp2_with (go_at_call 110; refine (f_modulo _ _ _ (by omega) (by omega)).mono ?_; rintro e w' ⟨rfl, rfl⟩)
  go_ret
  exact ⟨ret_int (by rw [← Int.natCast_add]; exact (Int.natCast_emod _ _).symm), rfl⟩

theorem quiet_left {P : Program} {f : FuncId} {args : Array Value} {w : World} {n : Nat} {v : Value}
    (h : Calls P f args (w.drewN n) fun e w' => e = .returned v ∧ w.drewN n = w') : Calls P f args (w.drewN n) fun e w' => e = .returned v ∧ ∃ m, w' = w.drewN m :=
  h.mono fun _ _ ⟨he, hm⟩ => ⟨he, n, hm.symm⟩

/-- No block below n turns, and the world may have drawn. -/
theorem below_dn {n : Nat} {w w' : World} (h : Below n w w') (k : Nat) : Below n w (w'.drewN k) := by
  exact ⟨h.os, h.tape, h.output, h.size, h.block⟩

/-- A number is of the group: above 0, below the modulus, and its power is 1. -/
def inG (p m : Nat) (x : Int) : Bool := decide (0 < x ∧ x < m ∧ pw m x.toNat p = 1)
theorem inG_f {p m : Nat} {x : Int} (h : ¬ (0 < x ∧ x < m)) : inG p m x = false := decide_eq_false fun hc => h ⟨hc.1, hc.2.1⟩
theorem inG_n {p m n : Nat} (h0 : 0 < n) (h : n < m) : (((pw m n p : Nat) : Int) == 1) = inG p m (n : Int) := by
  rw [Bool.eq_iff_iff, beq_iff_eq, inG, decide_eq_true_eq, Int.toNat_natCast]; omega

end Go.Proofs.YtgeahbmaeaoeeaaGreatDoor
