/- Contracts of the program's weights of places. -/
import Derived.Test.YtgeahbmaeaoeeaaGreatDoorRefDeal
import Derived.Maps.OwnSet
set_option linter.unusedVariables false
set_option linter.unusedSimpArgs false
namespace Go.Proofs.YtgeahbmaeaoeeaaGreatDoor
open Go.RowKit Num Go.Maps

set_option maxHeartbeats 400000 in
theorem f_Sub (p : Nat) (a b : Int) (w : World) (h1 : 1 ≤ p) (h2 : p ≤ 2147483648) (ha0 : -2305843009213693952 < a) (ha : a < 2305843009213693952) (hb0 : -2305843009213693952 < b) (hb : b < 2305843009213693952) :
    Calls Tryz.prog 95 #[.int .i64 (p : Int), .int .i64 a, .int .i64 b] w fun e w' => e = .returned (.int .i64 ((a - b) % p)) ∧ w = w' := by
  go_enter Tryz.func95, Tryz.ntmps95
  go_wp2_with (go_at_call 110; refine (f_modulo _ _ _ (by omega) (by omega)).mono ?_; rintro e w' ⟨rfl, rfl⟩)
  go_ret
  exact ⟨rfl, rfl⟩
theorem f_MulZ (p : Nat) (a b : Int) (w : World) (h1 : 1 ≤ p) (h2 : p ≤ 2147483648) (ha0 : 0 ≤ a) (ha : a < 2147483648) (hb0 : 0 ≤ b) (hb : b < 2147483648) :
    Calls Tryz.prog 94 #[.int .i64 (p : Int), .int .i64 a, .int .i64 b] w fun e w' => e = .returned (.int .i64 (a * b % p)) ∧ w = w' := by
  obtain ⟨x, rfl⟩ := Int.eq_ofNat_of_zero_le ha0
  obtain ⟨y, rfl⟩ := Int.eq_ofNat_of_zero_le hb0
  refine (f_Mul p x y w h1 h2 (by omega) (by omega)).mono ?_
  rintro e w' ⟨rfl, rfl⟩
  exact ⟨ret_int (by rw [Int.natCast_emod, Int.natCast_mul]), rfl⟩
/-- The inverse: a power. -/
def invP (p : Nat) (a : Int) : Int := pw p a.toNat (p - 2)
theorem invP_bd (p : Nat) (a : Int) (hp : 2 ≤ p) : 0 ≤ invP p a ∧ invP p a < p := by
  have := pw_lt (m := p) (by omega) a.toNat (p - 2)
  unfold invP; omega
theorem invP_cg {p : Nat} (hp : Prm p) {a : Int} (h0 : 0 ≤ a) (ha : ¬ (p : Int) ∣ a) : Cg p (a * invP p a) 1 := by
  obtain ⟨n, rfl⟩ := Int.eq_ofNat_of_zero_le h0
  have hn : ¬ p ∣ n := fun h => ha (Int.natCast_dvd_natCast.2 h)
  have := inv_pow hp hn
  unfold invP pw
  rw [Int.toNat_natCast]
  exact this
set_option maxHeartbeats 400000 in
theorem f_Inverse (p : Nat) (a : Int) (w : World) (hp : 2 ≤ p) (h2 : p ≤ 2147483648) (ha0 : 0 < a) (ha : a < 2147483648) :
    Calls Tryz.prog 91 #[.int .i64 (p : Int), .int .i64 a] w fun e w' => e = .returned (.tuple #[.int .i64 (invP p a), .int .i64 0]) ∧ w = w' := by
  have t0 : ((a == 0) = false) := by simp only [beq_eq_false_iff_ne]; omega
  go_enter Tryz.func91, Tryz.ntmps91
  go_wp2_with fail
  refine (f_powerII p a _ _ (by omega) (by omega) (by omega) (by omega) (by omega) (by omega)).mono ?_
  rintro e w' ⟨rfl, rfl⟩
  go_wp2_with fail
  go_ret2
  refine ⟨?_, rfl⟩
  unfold invP
  rw [show ((p : Int) - 2).toNat = p - 2 by omega]
  rfl

/-- The product of the differences of x to the first k places, but number i, modulo p at each step. -/
def wA (p : Int) (xs : Nat → Int) (i : Nat) (x : Int) : Nat → Int
  | 0 => 1 % p
  | k + 1 => if k = i then wA p xs i x k else wA p xs i x k * ((x - xs k) % p) % p
theorem wA_cg (p : Int) (xs : Nat → Int) (i : Nat) (x : Int) : ∀ k, Cg p (wA p xs i x k) (pbut xs i x k) := by
  intro k
  induction k with
  | zero => exact Cg.emod p 1
  | succ k ih =>
    unfold wA pbut
    by_cases h : k = i
    · rw [if_pos h, if_pos h]; exact ih
    · rw [if_neg h, if_neg h]
      exact Cg.of_emod (ih.mul (Cg.emod p _))
theorem wA_bd (p : Nat) (xs : Nat → Int) (i : Nat) (x : Int) (hp : 1 ≤ p) : ∀ k, 0 ≤ wA p xs i x k ∧ wA p xs i x k < p := by
  intro k
  induction k with
  | zero => exact ⟨Int.emod_nonneg _ (by omega), Int.emod_lt_of_pos _ (by omega)⟩
  | succ k ih =>
    unfold wA
    by_cases h : k = i
    · rw [if_pos h]; exact ih
    · rw [if_neg h]; exact ⟨Int.emod_nonneg _ (by omega), Int.emod_lt_of_pos _ (by omega)⟩
/-- The weight of place i at x. -/
def wt (p : Nat) (xs : Nat → Int) (n i : Nat) (x : Int) : Int := wA p xs i x n * invP p (wA p xs i (xs i) n) % p
def fOf (xs : List Int) (k : Nat) : Int := xs.getD k 0

end Go.Proofs.YtgeahbmaeaoeeaaGreatDoor
