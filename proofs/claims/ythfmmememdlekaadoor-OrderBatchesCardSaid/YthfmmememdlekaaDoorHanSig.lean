/- Contracts: numbers of sums, the square of a text, an element, the bytes of a number. -/
import Derived.Test.YthfmmememdlekaaDoorHanSumW
import Derived.Test.YthfmmememdlekaaDoorKitDice
import Derived.Lib.ConvBytes
set_option linter.unusedVariables false
set_option linter.unusedSimpArgs false
namespace Go.Proofs.YthfmmememdlekaaDoor
open Go.RowKit Num

/-- The number of the first bytes of a string. -/
def numB (s : ByteArray) : Nat → Int
  | 0 => 0
  | k + 1 => numB s k * 256 + byteAt s k
theorem numB_bd (s : ByteArray) : ∀ k, 0 ≤ numB s k ∧ numB s k < ((256 ^ k : Nat) : Int) := by
  intro k
  induction k with
  | zero => exact ⟨by simp [numB], by simp [numB]⟩
  | succ k ih =>
    have := byteAt_bd s k
    show 0 ≤ numB s k * 256 + byteAt s k ∧ numB s k * 256 + byteAt s k < _
    have e : ((256 ^ (k + 1) : Nat) : Int) = ((256 ^ k : Nat) : Int) * 256 := by rw [Nat.pow_succ]; exact Int.natCast_mul _ _
    omega
theorem numB_le (s : ByteArray) (k : Nat) (h : k ≤ 7) : numB s k < 72057594037927936 := by
  have := (numB_bd s k).2
  have : (256 ^ k : Nat) ≤ 256 ^ 7 := Nat.pow_le_pow_right (by decide) h
  have e : (256 : Nat) ^ 7 = 72057594037927936 := by decide
  omega
theorem numB_le6 (s : ByteArray) (k : Nat) (h : k < 7) : numB s k < 281474976710656 := by
  have := (numB_bd s k).2
  have : (256 ^ k : Nat) ≤ 256 ^ 6 := Nat.pow_le_pow_right (by decide) (by omega)
  have e : (256 : Nat) ^ 6 = 281474976710656 := by decide
  omega
theorem ofInt_i64 (a : Nat) (ha : a < 9223372036854775808) : (BitVec.ofInt 64 (a : Int)).toNat = a := by
  rw [BitVec.ofInt_natCast, BitVec.toNat_ofNat]; exact Nat.mod_eq_of_lt (by omega)
theorem i64_or_nat (a b : Nat) (ha : a < 9223372036854775808) (hb : b < 9223372036854775808) : bits .or .i64 (a : Int) (b : Int) = ((a ||| b : Nat) : Int) := by
  have hx : a ||| b < 2 ^ 63 := Nat.or_lt_two_pow (by omega) (by omega)
  show IntKind.i64.wrap ((BitVec.ofInt 64 (a : Int) ||| BitVec.ofInt 64 (b : Int)).toNat : Int) = _
  rw [BitVec.toNat_or, ofInt_i64 a ha, ofInt_i64 b hb, IntKind.wrap_i64]
  omega
theorem or_byte (a b : Int) (ha : 0 ≤ a) (ha' : a < 281474976710656) (hb : 0 ≤ b) (hb' : b < 256) : bits .or .i64 (a * 256) b = a * 256 + b := by
  obtain ⟨x, rfl⟩ := Int.eq_ofNat_of_zero_le ha
  obtain ⟨y, rfl⟩ := Int.eq_ofNat_of_zero_le hb
  have e : (x : Int) * 256 = ((x * 256 : Nat) : Int) := (Int.natCast_mul x 256).symm
  rw [e, i64_or_nat _ _ (by omega) (by omega)]
  have h1 := Nat.shiftLeft_add_eq_or_of_lt (show y < 2 ^ 8 by omega) x
  rw [Nat.shiftLeft_eq] at h1
  rw [← h1]; simp
end Go.Proofs.YthfmmememdlekaaDoor
