/- The reference's numbers out of sums, its square of a name, a random prime, a random element. -/
import Derived.Test.YtmneokkdkgflkaaDoorRefSum
import Derived.Test.YtmneokkdkgflkaaDoorHanSgn
import Derived.Test.YtmneokkdkgflkaaDoorRef15
set_option linter.unusedVariables false
set_option linter.unusedSimpArgs false
namespace Go.Proofs.YtmneokkdkgflkaaDoor
open Go.RowKit Num

set_option maxHeartbeats 1000000 in
theorem rf_seven (s : ByteArray) (w : World) (h : s.size = 32) :
    Calls Tryd.prog 81 #[.string s] w fun e w' => e = .returned (.int .i64 (numB s 7)) ∧ w = w' := by
  go_enter Tryd.func81, Tryd.ntmps81
  go_wp2_with fail
  go_loop [3, 4, 5] (fun v _ i => ∃ k : Nat, k ≤ 7 ∧ i = .int .i64 k ∧ v = .int .i64 (numB s k)) (fun _ _ i => 7 - (intOf i).toNat)
  case atStart => exact ⟨0, by omega, rfl, rfl⟩
  case round =>
    obtain ⟨k, hk, rfl, rfl⟩ := hrel
    by_cases hl : k < 7
    · have ix := index_byte s k (by omega)
      have n0 := (numB_bd s k).1
      have n1 := numB_le6 s k hl
      have b0 := byteAt_bd s k
      have hor := or_byte _ _ n0 n1 b0.1 b0.2
      have HO := Lib.hid hor
      go_wp2_with fail
      go_round
      case rel => exact ⟨k + 1, by omega, by go_num, rfl⟩
      case measure => simp [intOf]; omega
    · have hk7 : k = 7 := by omega
      subst hk7
      go_wp2_with fail
      go_ret
      exact ⟨rfl, rfl⟩
theorem rf_Seven (s : ByteArray) (w : World) (hs : s.size < 4294967296) :
    Calls Tryd.prog 62 #[.string s] w fun e w' => e = .returned (.int .i64 (numB (shaOf s) 7)) ∧ Below w.heap.size w w' := by
  go_enter Tryd.func62, Tryd.ntmps62
  go_wp2_with fail
  refine (rf_Sum s _ hs).mono ?_
  rintro e w1 ⟨rfl, hb1⟩
  go_wp2_with fail
  refine (rf_seven _ _ (shaOf_size s)).mono ?_
  rintro e w2 ⟨rfl, rfl⟩
  go_wp2_with fail
  go_ret
  exact ⟨rfl, hb1⟩
theorem rf_Element (p : Nat) (s : ByteArray) (w : World) (hp : 2 ≤ p) (hp2 : p ≤ 2147483648) (hs : s.size < 4294967296) :
    Calls Tryd.prog 86 #[.int .i64 (p : Int), .string s] w fun e w' => e = .returned (.int .i64 (numB (shaOf s) 7 % ((p : Int) - 1) + 1)) ∧ Below w.heap.size w w' := by
  have n0 := (numB_bd (shaOf s) 7).1
  have n1 := numB_le (shaOf s) 7 (by omega)
  have e0 := Int.emod_nonneg (numB (shaOf s) 7) (show ((p : Int) - 1) ≠ 0 by omega)
  have e1 := Int.emod_lt_of_pos (numB (shaOf s) 7) (show 0 < ((p : Int) - 1) by omega)
  go_enter Tryd.func86, Tryd.ntmps86
  go_wp2_with fail
  refine (rf_Sum s _ hs).mono ?_
  rintro e w1 ⟨rfl, hb1⟩
  go_wp2_with fail
  refine (rf_seven _ _ (shaOf_size s)).mono ?_
  rintro e w2 ⟨rfl, rfl⟩
  have hp0 : ((p : Int) - 1) ≠ 0 := by omega
  go_wp2_with fail
  go_ret
  exact ⟨rfl, hb1⟩

set_option maxHeartbeats 1000000 in
theorem r_Square (p : Nat) (s : ByteArray) (w : World) (hp : 2 ≤ p) (hp2 : p ≤ 1073741823) (hs : s.size < 4294967296) :
    Calls Tryd.prog 33 #[.int .i64 (p : Int), .string s] w fun e w' => e = .returned (.int .i64 (((2 + (numB (shaOf s) 7).toNat % (2 * p - 2)) * (2 + (numB (shaOf s) 7).toNat % (2 * p - 2)) % (2 * p + 1) : Nat) : Int)) ∧ Below w.heap.size w w' := by
  have n0 := (numB_bd (shaOf s) 7).1
  obtain ⟨x, hx⟩ : ∃ x : Nat, (2 + (numB (shaOf s) 7).toNat % (2 * p - 2)) = x := ⟨_, rfl⟩
  have hxb : x < 2 * p := by have := Nat.mod_lt (numB (shaOf s) 7).toNat (show 0 < 2 * p - 2 by omega); omega
  have hxi : 2 + numB (shaOf s) 7 % (2 * (p : Int) + 1 - 3) = (x : Int) := by
    obtain ⟨n, hn⟩ := Int.eq_ofNat_of_zero_le n0
    rw [hn] at hx ⊢
    rw [Int.toNat_natCast] at hx
    rw [← hx, show 2 * (p : Int) + 1 - 3 = ((2 * p - 2 : Nat) : Int) by omega]
    omega
  have e0 := Int.emod_nonneg (numB (shaOf s) 7) (show (2 * (p : Int) + 1 - 3) ≠ 0 by omega)
  have e1 := Int.emod_lt_of_pos (numB (shaOf s) 7) (show 0 < (2 * (p : Int) + 1 - 3) by omega)
  have hq0 : (2 * (p : Int) + 1 - 3) ≠ 0 := by omega
  have hq1 : (2 * (p : Int) + 1) ≠ 0 := by omega
  have hxx : (x : Int) * (x : Int) < 9223372036854775808 := by
    have : x * x ≤ 2147483648 * 2147483648 := Nat.mul_le_mul (by omega) (by omega)
    have h2 : ((x * x : Nat) : Int) ≤ 4611686018427387904 := by omega
    rw [Int.natCast_mul] at h2; omega
  have hx0 : (0 : Int) ≤ (x : Int) * (x : Int) := Int.mul_nonneg (by omega) (by omega)
  have hwr : IntKind.i64.wrap ((x : Int) * (x : Int)) = (x : Int) * (x : Int) := IntWalk.i64_in _ ⟨by omega, by omega⟩
  rw [hx]
  go_enter Tryd.func33, Tryd.ntmps33
  go_wp2_with fail
  refine (rf_Seven s _ hs).mono ?_
  rintro e w1 ⟨rfl, hb1⟩
  generalize numB (shaOf s) 7 = n at *
  go_wp2_with fail
  go_ret
  refine ⟨?_, hb1⟩
  rw [Int.natCast_emod, Int.natCast_mul]
  rfl
/-- A random prime: any number, for what follows. -/
def PrimePost (b : Nat) (w : World) (e : Ending) (w' : World) : Prop := ∃ p : Int, IntR p ∧ e = .returned (.int .i64 p) ∧ Dc w' b ∧ w.grownBy w' (some b)
set_option maxHeartbeats 1000000 in
theorem k_Prime (b : Nat) (w : World) (hd : Dc w b) :
    Calls Tryd.prog 22 #[.pointer (some ⟨b, 0, none⟩)] w (PrimePost b w) := by
  have hlt := hd.lt
  have HD := Lib.hid hd
  clear hd
  go_enter Tryd.func22, Tryd.ntmps22
  go_wp2_with fail
  refine (k_Next b 12 _ (HD.out.alloc _) (by omega) (by omega)).mono ?_
  rintro e w1 ⟨r, hr, rfl, hd1, hg1⟩
  have hc := fun (i : Nat) => (World.cell?_of_block (hg1.block w.heap.size (by simp) (by simp; omega)) : w1.cell? ⟨w.heap.size, i, none⟩ = _)
  have hd1' := Lib.hid hd1
  have hg1' := Lib.hid hg1
  clear hd1 hg1
  have q1 : (0 : Int) ≤ (r : Int) := by omega
  have q2 : (r : Int) < 12 := by omega
  rcases (show r = 0 ∨ r = 1 ∨ r = 2 ∨ r = 3 ∨ r = 4 ∨ r = 5 ∨ r = 6 ∨ r = 7 ∨ r = 8 ∨ r = 9 ∨ r = 10 ∨ r = 11 by omega) with rfl | rfl | rfl | rfl | rfl | rfl | rfl | rfl | rfl | rfl | rfl | rfl
  all_goals
    go_wp2_with fail
    go_ret
    refine ⟨_, ?_, rfl, hd1'.out, ?_⟩
    · unfold IntR; omega
    · exact gb_trans (only_alloc (World.grownBy.refl w _) _) hg1'.out

def ElmPost (b p : Nat) (w : World) (e : Ending) (w' : World) : Prop := ∃ a : Nat, a < 2 * p + 1 ∧ e = .returned (.int .i64 (a : Int)) ∧ Dc w' b ∧ w.grownBy w' (some b)
set_option maxHeartbeats 1000000 in
theorem l_element (b p : Nat) (w : World) (hd : Dc w b) (h0 : 1 ≤ p) (h2 : p ≤ 1073741823) :
    Calls Tryd.prog 27 #[.pointer (some ⟨b, 0, none⟩), .int .i64 (p : Int)] w (ElmPost b p w) := by
  go_enter Tryd.func27, Tryd.ntmps27
  go_wp2_with fail
  refine (k_Next b 1073741824 _ hd (by omega) (by omega)).mono ?_
  rintro e w1 ⟨r, hr, rfl, hd1, hg1⟩
  have HD := Lib.hid hd1
  have HG := Lib.hid hg1
  clear hd1 hg1 hd
  have hc := r_PowerG p 4 r w1 h0 h2 (by omega)
  have hl := pw_lt (m := 2 * p + 1) (by omega) 4 (((r : Int) % (p : Int)).toNat)
  obtain ⟨a, ha⟩ : ∃ a, pw (2 * p + 1) 4 (((r : Int) % (p : Int)).toNat) = a := ⟨_, rfl⟩
  rw [ha] at hc hl
  have HC := Lib.hid hc
  clear hc ha
  go_wp2_with fail
  refine (HC.out).mono ?_
  rintro e w2 ⟨rfl, rfl⟩
  go_wp2_with fail
  go_ret
  exact ⟨a, hl, rfl, HD.out, HG.out⟩
end Go.Proofs.YtmneokkdkgflkaaDoor
