/- The reference's inverse; facts for the law of powers. -/
import Derived.Test.YtmneokkdkgflkaaDoorHanLawV
import Derived.Test.YtmneokkdkgflkaaDoorPolV
import Derived.Test.YtmneokkdkgflkaaDoorHanInts
set_option linter.unusedVariables false
set_option linter.unusedSimpArgs false
namespace Go.Proofs.YtmneokkdkgflkaaDoor
open Go.RowKit Num Go.Maps

set_option maxHeartbeats 1000000 in
theorem r_Pow1 (p a : Nat) (n : Int) (w : World) (h1 : 3 ≤ p) (h2 : p ≤ 1073741824) (ha : 1 ≤ a) (ha2 : a < 2147483648) (hn : n = ((p - 2 : Nat) : Int)) :
    Calls Tryd.prog 63 #[.int .i64 (p : Int), .int .i64 (a : Int), .int .i64 n] w fun e w' => e = .returned (.int .i64 (pw p a (p - 2) : Int)) ∧ w = w' := by
  have t1 : 1 % (p : Int) = 1 := Int.emod_eq_of_lt (by omega) (by omega)
  have t2 : n % ((p : Int) - 1) = n := Int.emod_eq_of_lt (by omega) (by omega)
  have t3 : (n + (p : Int) - 1) % ((p : Int) - 1) = n := by
    rw [show n + (p : Int) - 1 = n + ((p : Int) - 1) by omega, Int.add_emod_right]
    exact Int.emod_eq_of_lt (by omega) (by omega)
  have q1 : (n == 0) = false := by simp; omega
  have q2 : ((a : Int) == 0) = false := by simp; omega
  have n1 : 1 ≤ n := by omega
  have n2 : n ≤ 1073741822 := by omega
  have b1 : 0 ≤ n % ((p : Int) - 1) := by omega
  have b2 : n % ((p : Int) - 1) ≤ 1073741822 := by omega
  have T1 := Lib.hid t1
  have T2 := Lib.hid t2
  have T3 := Lib.hid t3
  have HN := Lib.hid hn
  clear t1 t2 t3 hn
  go_enter Tryd.func63, Tryd.ntmps63
  go_wp2_with fail
  go_loop [8, 1, 7] (fun o y t => ∃ o' x' t' : Nat, o = .int .i64 o' ∧ y = .int .i64 x' ∧ t = .int .i64 t' ∧ o' < p ∧ x' < 2147483648 ∧ t' < 9223372036854775808 ∧ o' * x' ^ t' % p = pw p a (p - 2)) (fun _ _ t => (intOf t).toNat)
  case atStart =>
    refine ⟨1, a, p - 2, int_eq T1.out, rfl, int_eq ?_, by omega, ha2, by omega, by rw [Nat.one_mul]; rfl⟩
    rw [T2.out]
    first | (rw [T3.out]; exact HN.out) | (rw [Int.tmod_eq_emod_of_nonneg (by omega), T3.out]; exact HN.out)
  case round =>
    obtain ⟨o', x', t', rfl, rfl, rfl, ho', hx', ht', hr⟩ := hrel
    have hR := Lib.hid hr
    clear hr
    have ha := Lib.hid (and_1 t' ht')
    have hs := Nat.mod_lt (x' * x') (show 0 < p by omega)
    have hs2 := Nat.mod_lt (o' * x') (show 0 < p by omega)
    have hb1 := mul_bd hx' hx' (Nat.le_refl _)
    have hb2 := mul_bd (show o' < 2147483648 by omega) hx' (Nat.le_refl _)
    by_cases h0 : 0 < t'
    · rcases Nat.mod_two_eq_zero_or_one t' with hp | hp
      · have c : (bits .and .i64 (t' : Int) 1 == 1) = false := by rw [ha.out, hp]; rfl
        go_wp2_with fail
        go_round
        case rel => exact ⟨o', x' * x' % p, t' / 2, by go_num, by go_num, by go_num, ho', by omega, by omega, by rw [step_even p o' x' t' hp]; exact hR.out⟩
        case measure => simp [intOf]; omega
      · have c : (bits .and .i64 (t' : Int) 1 == 1) = true := by rw [ha.out, hp]; rfl
        go_wp2_with fail
        go_round
        case rel => exact ⟨o' * x' % p, x' * x' % p, t' / 2, by go_num, by go_num, by go_num, by omega, by omega, by omega, by rw [step_odd p o' x' t' hp]; exact hR.out⟩
        case measure => simp [intOf]; omega
    · have h0' : t' = 0 := by omega
      subst h0'
      go_wp2
      go_ret
      exact ⟨ret_int (by have := hR.out; rw [Nat.pow_zero, Nat.mul_one, Nat.mod_eq_of_lt ho'] at this; rw [← this]), rfl⟩

set_option maxHeartbeats 400000 in
theorem r_Inverse (p : Nat) (a : Int) (w : World) (h1 : 3 ≤ p) (h2 : p ≤ 1073741824) (ha : 1 ≤ a) (ha2 : a < 2147483648) :
    Calls Tryd.prog 34 #[.int .i64 (p : Int), .int .i64 a] w fun e w' => e = .returned (.tuple #[.int .i64 (pw p a.toNat (p - 2) : Int), .int .i64 0]) ∧ w = w' := by
  obtain ⟨a, rfl⟩ := Int.eq_ofNat_of_zero_le (show 0 ≤ a by omega)
  rw [Int.toNat_natCast]
  have q2 : ((a : Int) == 0) = false := by simp; omega
  go_enter Tryd.func34, Tryd.ntmps34
  go_wp2_with fail
  refine (r_Pow1 p a _ _ h1 h2 (by omega) (by omega) (by omega)).mono ?_
  rintro e w' ⟨rfl, rfl⟩
  go_wp2_with fail
  refine bodyPost_ret (v := .tuple #[.int .i64 (pw p a (p - 2) : Int), .int .i64 0]) (by simp [results, Tryd.results34, go_sem]) rfl ⟨rfl, rfl⟩

/-- No text's square is 1. -/
theorem sqN_ne {p : Nat} (hp : SPrm p) (s : ByteArray) : sqN p s ≠ 1 := by
  have h3 := hp.2.2.1
  have hm := hp.2.1
  have hy := Nat.mod_lt (numB (shaOf s) 7).toNat (show 0 < 2 * p - 2 by omega)
  unfold sqN
  obtain ⟨y, hy2⟩ : ∃ y, 2 + (numB (shaOf s) 7).toNat % (2 * p - 2) = y := ⟨_, rfl⟩
  rw [hy2]
  intro h
  have hd : (2 * p + 1) ∣ (y - 1) * (y + 1) := by
    have e : (y - 1) * (y + 1) = y * y - 1 := by
      obtain ⟨z, rfl⟩ : ∃ z, y = z + 1 := ⟨y - 1, by omega⟩
      simp only [Nat.add_sub_cancel]
      rw [show (z + 1) * (z + 1) = z * (z + 1 + 1) + 1 by rw [Nat.add_mul, Nat.mul_add z (z + 1) 1]; omega, Nat.add_sub_cancel]
    have e2 := Nat.div_add_mod (y * y) (2 * p + 1)
    rw [h] at e2
    exact ⟨y * y / (2 * p + 1), by rw [e]; omega⟩
  rcases prm_dvd hm hd with k | k
  · have := Nat.le_of_dvd (by omega) k; omega
  · have := Nat.le_of_dvd (by omega) k; omega
theorem in_grp {p x : Nat} (h : inG p (2 * p + 1) (x : Int) = true) : 0 < x ∧ x < 2 * p + 1 := by
  simp only [inG, decide_eq_true_eq] at h; omega
/-- What has power 1 and is not 1: different exponents, different powers. -/
theorem pw_injx {p x i k : Nat} (hp : SPrm p) (hx : inG p (2 * p + 1) (x : Int) = true) (h1 : x ≠ 1) (hi : i < p) (hk : k < p) (h : pw (2 * p + 1) x i = pw (2 * p + 1) x k) : i = k := by
  have h3 := hp.2.2.1
  have hl := in_grp hx
  exact pw_inj (by omega) hp.1 (grp_one hx) (by rw [Nat.mod_eq_of_lt hl.2]; exact h1) hi hk h
/-- The product with the inverse is 1. -/
theorem pw_back {p x : Nat} (hp : SPrm p) (hx : inG p (2 * p + 1) (x : Int) = true) : x * pw (2 * p + 1) x (p - 1) % (2 * p + 1) = 1 := by
  have h3 := hp.2.2.1
  have hl := in_grp hx
  have e : pw (2 * p + 1) x 1 = x := by unfold pw; rw [Nat.pow_one, Nat.mod_eq_of_lt hl.2]
  conv => lhs; rw [show x = pw (2 * p + 1) x 1 from e.symm]
  rw [e, ← e]
  rw [pw_pw, Nat.one_mul, pw_add, show 1 + (p - 1) = p by omega, grp_one hx]
/-- Blinding and back. -/
theorem pw_blind {p x j : Nat} (hp : SPrm p) (hx : inG p (2 * p + 1) (x : Int) = true) (h1 : 1 ≤ j) (h2 : j < p) : pw (2 * p + 1) (pw (2 * p + 1) x j) (pw p j (p - 2)) = x := by
  have h3 := hp.2.2.1
  have hl := in_grp hx
  have e := inv_pow hp.1 (a := j) (fun h => by have := Nat.le_of_dvd h1 h; omega)
  have e2 : j * pw p j (p - 2) % p = 1 := by
    unfold Cg at e
    have e3 : ((j : Int) * ((j ^ (p - 2) % p : Nat) : Int)) = ((j * pw p j (p - 2) : Nat) : Int) := by unfold pw; rw [Int.natCast_mul]
    rw [e3, ← Int.natCast_emod] at e
    have e4 : (1 : Int) % (p : Int) = 1 := Int.emod_eq_of_lt (by omega) (by omega)
    rw [e4] at e
    exact_mod_cast e
  rw [pw_pw, ← pw_mod_exp (m := 2 * p + 1) (by omega) (grp_one hx), e2]
  unfold pw; rw [Nat.pow_one, Nat.mod_eq_of_lt hl.2]
end Go.Proofs.YtmneokkdkgflkaaDoor
