/- Contracts: numbers of sums, the square of a text, an element, the bytes of a number. -/
import Derived.Test.YtmneokkdkgflkaaDoorHanSumW
import Derived.Test.YtmneokkdkgflkaaDoorKitDice
import Derived.Lib.ConvBytes
set_option linter.unusedVariables false
set_option linter.unusedSimpArgs false
namespace Go.Proofs.YtmneokkdkgflkaaDoor
open Go.RowKit Num

/-- The number of the first bytes of a string. -/
def numB (s : ByteArray) : Nat → Int
  | 0 => 0
  | k + 1 => numB s k * 256 + byteAt s k
theorem numB_bd (s : ByteArray) : ∀ k, 0 ≤ numB s k ∧ numB s k < ((256 ^ k : Nat) : Int) := by
  intro k
  induction k with
  | zero => exact ⟨by simp [numB], by simp [numB]⟩
  | succ k ih =>
    have := byteAt_bd s k
    show 0 ≤ numB s k * 256 + byteAt s k ∧ numB s k * 256 + byteAt s k < _
    have e : ((256 ^ (k + 1) : Nat) : Int) = ((256 ^ k : Nat) : Int) * 256 := by rw [Nat.pow_succ]; exact Int.natCast_mul _ _
    omega
theorem numB_le (s : ByteArray) (k : Nat) (h : k ≤ 7) : numB s k < 72057594037927936 := by
  have := (numB_bd s k).2
  have : (256 ^ k : Nat) ≤ 256 ^ 7 := Nat.pow_le_pow_right (by decide) h
  have e : (256 : Nat) ^ 7 = 72057594037927936 := by decide
  omega
theorem numB_le6 (s : ByteArray) (k : Nat) (h : k < 7) : numB s k < 281474976710656 := by
  have := (numB_bd s k).2
  have : (256 ^ k : Nat) ≤ 256 ^ 6 := Nat.pow_le_pow_right (by decide) (by omega)
  have e : (256 : Nat) ^ 6 = 281474976710656 := by decide
  omega
theorem ofInt_i64 (a : Nat) (ha : a < 9223372036854775808) : (BitVec.ofInt 64 (a : Int)).toNat = a := by
  rw [BitVec.ofInt_natCast, BitVec.toNat_ofNat]; exact Nat.mod_eq_of_lt (by omega)
theorem i64_or_nat (a b : Nat) (ha : a < 9223372036854775808) (hb : b < 9223372036854775808) : bits .or .i64 (a : Int) (b : Int) = ((a ||| b : Nat) : Int) := by
  have hx : a ||| b < 2 ^ 63 := Nat.or_lt_two_pow (by omega) (by omega)
  show IntKind.i64.wrap ((BitVec.ofInt 64 (a : Int) ||| BitVec.ofInt 64 (b : Int)).toNat : Int) = _
  rw [BitVec.toNat_or, ofInt_i64 a ha, ofInt_i64 b hb, IntKind.wrap_i64]
  omega
theorem or_byte (a b : Int) (ha : 0 ≤ a) (ha' : a < 281474976710656) (hb : 0 ≤ b) (hb' : b < 256) : bits .or .i64 (a * 256) b = a * 256 + b := by
  obtain ⟨x, rfl⟩ := Int.eq_ofNat_of_zero_le ha
  obtain ⟨y, rfl⟩ := Int.eq_ofNat_of_zero_le hb
  have e : (x : Int) * 256 = ((x * 256 : Nat) : Int) := (Int.natCast_mul x 256).symm
  rw [e, i64_or_nat _ _ (by omega) (by omega)]
  have h1 := Nat.shiftLeft_add_eq_or_of_lt (show y < 2 ^ 8 by omega) x
  rw [Nat.shiftLeft_eq] at h1
  rw [← h1]; simp
set_option maxHeartbeats 1000000 in
theorem d_number (s : ByteArray) (w : World) (h : s.size = 32) :
    Calls Tryd.prog 103 #[.string s] w fun e w' => e = .returned (.int .i64 (numB s 7)) ∧ w = w' := by
  go_enter Tryd.func103, Tryd.ntmps103
  go_wp2_with fail
  go_loop [3, 5] (fun v i => ∃ k : Nat, k ≤ 7 ∧ i = .int .i64 k ∧ v = .int .i64 (numB s k)) (fun _ i => 7 - (intOf i).toNat)
  case atStart => exact ⟨0, by omega, rfl, rfl⟩
  case round =>
    obtain ⟨k, hk, rfl, rfl⟩ := hrel
    by_cases hl : k < 7
    · have ix := index_byte s k (by omega)
      have n0 := (numB_bd s k).1
      have n1 := numB_le6 s k hl
      have b0 := byteAt_bd s k
      have hor := or_byte _ _ n0 n1 b0.1 b0.2
      have HO := Lib.hid hor
      go_wp2_with fail
      go_round
      case rel => exact ⟨k + 1, by omega, by go_num, rfl⟩
      case measure => simp [intOf]; omega
    · have hk7 : k = 7 := by omega
      subst hk7
      go_wp2_with fail
      go_ret
      exact ⟨rfl, rfl⟩
set_option maxHeartbeats 1000000 in
theorem h_number (s : ByteArray) (w : World) (h : s.size = 32) :
    Calls Tryd.prog 52 #[.string s] w fun e w' => e = .returned (.int .i64 (numB s 7)) ∧ Below w.heap.size w w' := by
  have hcv := fun (W : World) => Lib.run_convert_string_bytes (P := Tryd.prog) W 9 90 5 (s.extract 0 7) Tryd.underlying9
  have q7 : (7 : Int) ≤ (s.size : Int) := by omega
  go_enter Tryd.func52, Tryd.ntmps52
  go_wp2_with fail
  have hbw : Below w.heap.size w (Lib.bytesWorld w 5 (s.extract 0 7)) := ⟨rfl, rfl, rfl, by rw [Lib.bytesWorld_size]; omega, fun i hi => Lib.bytesWorld_at_old w _ _ i hi⟩
  have hcl : ∀ k : Nat, k < 7 → (Lib.bytesWorld w 5 (s.extract 0 7)).cell? ⟨w.heap.size, k, none⟩ = some (.int .u8 (byteAt s k)) := fun k hk => by
    have he : (s.extract 0 7).size = 7 := by rw [ByteArray.size_extract]; omega
    rw [Lib.bytesWorld_cell w _ _ k (by omega)]
    have := byteAt_extract s 0 7 k (by omega) (by omega)
    rw [Nat.zero_add] at this
    rw [← this, byteAt_list, List.getD_eq_getElem?_getD]
  have HC := Lib.hid hcl
  have HBW := Lib.hid hbw
  clear hcl hbw hcv
  generalize (Lib.bytesWorld w 5 (s.extract 0 7)) = W at *
  go_loop [3, 5, 10] (fun v _ i => ∃ k : Nat, k ≤ 7 ∧ i = .int .i64 k ∧ v = .int .i64 (numB s k)) (fun _ _ i => 7 - (intOf i).toNat)
  case atStart => exact ⟨0, by omega, rfl, rfl⟩
  case round =>
    obtain ⟨k, hk, rfl, rfl⟩ := hrel
    by_cases hl : k < 7
    · have ck := HC.out k hl
      have n0 := (numB_bd s k).1
      have n1 := numB_le6 s k hl
      have b0 := byteAt_bd s k
      have hor := or_byte _ _ n0 n1 b0.1 b0.2
      go_wp2_with fail
      go_round
      case rel => exact ⟨k + 1, by omega, by go_num, rfl⟩
      case measure => simp [intOf]; omega
    · have hk7 : k = 7 := by omega
      subst hk7
      go_wp2_with fail
      go_ret
      exact ⟨rfl, HBW.out⟩
set_option maxHeartbeats 1000000 in
theorem d_Element (p : Nat) (s : ByteArray) (w : World) (hp : 1 ≤ p) (hp2 : p ≤ 2147483648) (hs : s.size < 4294967296) :
    Calls Tryd.prog 83 #[.int .i64 (p : Int), .string s] w fun e w' => e = .returned (.int .i64 (numB (shaOf s) 7 % max ((p : Int) - 1) 1 + 1)) ∧ Below w.heap.size w w' := by
  have n0 := (numB_bd (shaOf s) 7).1
  have e0 := Int.emod_nonneg (numB (shaOf s) 7) (show max ((p : Int) - 1) 1 ≠ 0 by omega)
  have e1 := Int.emod_lt_of_pos (numB (shaOf s) 7) (show 0 < max ((p : Int) - 1) 1 by omega)
  go_enter Tryd.func83, Tryd.ntmps83
  go_wp2_with fail
  refine (d_Sum s _ hs).mono ?_
  rintro e w1 ⟨rfl, hb1⟩
  go_wp2_with fail
  refine (d_number _ _ (shaOf_size s)).mono ?_
  rintro e w2 ⟨rfl, rfl⟩
  go_wp2_with fail
  go_ret
  exact ⟨rfl, hb1⟩
set_option maxHeartbeats 1000000 in
theorem h_Square (p : Nat) (s : ByteArray) (w : World) (hp : 2 ≤ p) (hp2 : p ≤ 1073741823) (hs : s.size < 4294967296) :
    Calls Tryd.prog 20 #[.int .i64 (p : Int), .string s] w fun e w' => e = .returned (.int .i64 (((2 + (numB (shaOf s) 7).toNat % (2 * p - 2)) * (2 + (numB (shaOf s) 7).toNat % (2 * p - 2)) % (2 * p + 1) : Nat) : Int)) ∧ Below w.heap.size w w' := by
  have n0 := (numB_bd (shaOf s) 7).1
  obtain ⟨x, hx⟩ : ∃ x : Nat, (2 + (numB (shaOf s) 7).toNat % (2 * p - 2)) = x := ⟨_, rfl⟩
  have hxb : x < 2 * p := by have := Nat.mod_lt (numB (shaOf s) 7).toNat (show 0 < 2 * p - 2 by omega); omega
  have e0 := Int.emod_nonneg (numB (shaOf s) 7) (show max (2 * (p : Int) + 1 - 3) 1 ≠ 0 by omega)
  have e1 := Int.emod_lt_of_pos (numB (shaOf s) 7) (show 0 < max (2 * (p : Int) + 1 - 3) 1 by omega)
  have hxi : 2 + numB (shaOf s) 7 % max (2 * (p : Int) + 1 - 3) 1 = (x : Int) := by
    rw [show max (2 * (p : Int) + 1 - 3) 1 = 2 * (p : Int) + 1 - 3 by omega]
    obtain ⟨n, hn⟩ := Int.eq_ofNat_of_zero_le n0
    rw [hn] at hx ⊢
    rw [Int.toNat_natCast] at hx
    rw [← hx, show 2 * (p : Int) + 1 - 3 = ((2 * p - 2 : Nat) : Int) by omega]
    omega
  rw [hx]
  have HX := Lib.hid hxi
  clear hxi hx
  go_enter Tryd.func20, Tryd.ntmps20
  go_wp2_with fail
  refine (d_Sum s _ hs).mono ?_
  rintro e w1 ⟨rfl, hb1⟩
  go_wp2_with fail
  refine (h_number _ _ (shaOf_size s)).mono ?_
  rintro e w2 ⟨rfl, hb2⟩
  go_wp2_with fail
  rw [HX.out]
  have m1 : (x : Int).tmod (max (2 * (p : Int) + 1) 1) = (x : Int) := by
    rw [Int.tmod_eq_emod_of_nonneg (by omega)]; exact Int.emod_eq_of_lt (by omega) (by omega)
  have m2 : (x : Int) % (max (2 * (p : Int) + 1) 1) = (x : Int) := Int.emod_eq_of_lt (by omega) (by omega)
  have m3 : (max (2 * (p : Int) + 1) 1) ≠ 0 := by omega
  clear HX e0 e1
  go_quiet ((go_at_call 54; exact quiet_left' (h_times (2 * p + 1) x x _ (by omega) (by omega) (by omega) (by omega))))
  go_wp2_with fail
  go_ret
  exact ⟨rfl, below_dn (hb1.trans (hb2.mono hb1.size)) _⟩
end Go.Proofs.YtmneokkdkgflkaaDoor
