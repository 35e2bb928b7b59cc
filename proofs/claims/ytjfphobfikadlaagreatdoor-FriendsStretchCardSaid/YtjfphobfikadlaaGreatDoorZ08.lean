/- Contracts of the program's weights of places. -/
import Derived.Test.YtjfphobfikadlaaGreatDoorZ07
import Derived.Maps.OwnSet
set_option linter.unusedVariables false
set_option linter.unusedSimpArgs false
namespace Go.Proofs.YtjfphobfikadlaaGreatDoor
open Go.RowKit Num Go.Maps

set_option maxHeartbeats 400000 in
theorem f_Sub (p : Nat) (a b : Int) (w : World) (h1 : 1 ≤ p) (h2 : p ≤ 2147483648) (ha0 : -2305843009213693952 < a) (ha : a < 2305843009213693952) (hb0 : -2305843009213693952 < b) (hb : b < 2305843009213693952) :
    Calls Tryz.prog 167 #[.int .i64 (p : Int), .int .i64 a, .int .i64 b] w fun e w' => e = .returned (.int .i64 ((a - b) % p)) ∧ w = w' := by
  go_enter Tryz.func167, Tryz.ntmps167
  go_wp2_with (go_at_call 173; refine (f_modulo _ _ _ (by omega) (by omega)).mono ?_; rintro e w' ⟨rfl, rfl⟩)
  go_ret
  exact ⟨rfl, rfl⟩
theorem f_MulZ (p : Nat) (a b : Int) (w : World) (h1 : 1 ≤ p) (h2 : p ≤ 2147483648) (ha0 : 0 ≤ a) (ha : a < 2147483648) (hb0 : 0 ≤ b) (hb : b < 2147483648) :
    Calls Tryz.prog 138 #[.int .i64 (p : Int), .int .i64 a, .int .i64 b] w fun e w' => e = .returned (.int .i64 (a * b % p)) ∧ w = w' := by
  obtain ⟨x, rfl⟩ := Int.eq_ofNat_of_zero_le ha0
  obtain ⟨y, rfl⟩ := Int.eq_ofNat_of_zero_le hb0
  refine (f_Mul p x y w h1 h2 (by omega) (by omega)).mono ?_
  rintro e w' ⟨rfl, rfl⟩
  exact ⟨ret_int (by rw [Int.natCast_emod, Int.natCast_mul]), rfl⟩
/-- The inverse: a power. -/
def invP (p : Nat) (a : Int) : Int := pw p a.toNat (p - 2)
theorem invP_bd (p : Nat) (a : Int) (hp : 2 ≤ p) : 0 ≤ invP p a ∧ invP p a < p := by
  have := pw_lt (m := p) (by omega) a.toNat (p - 2)
  unfold invP; omega
theorem invP_cg {p : Nat} (hp : Prm p) {a : Int} (h0 : 0 ≤ a) (ha : ¬ (p : Int) ∣ a) : Cg p (a * invP p a) 1 := by
  obtain ⟨n, rfl⟩ := Int.eq_ofNat_of_zero_le h0
  have hn : ¬ p ∣ n := fun h => ha (Int.natCast_dvd_natCast.2 h)
  have := inv_pow hp hn
  unfold invP pw
  rw [Int.toNat_natCast]
  exact this
set_option maxHeartbeats 400000 in
theorem f_Inverse (p : Nat) (a : Int) (w : World) (hp : 2 ≤ p) (h2 : p ≤ 2147483648) (ha0 : 0 < a) (ha : a < 2147483648) :
    Calls Tryz.prog 165 #[.int .i64 (p : Int), .int .i64 a] w fun e w' => e = .returned (.tuple #[.int .i64 (invP p a), .int .i64 0]) ∧ w = w' := by
  have t0 : ((a == 0) = false) := by simp only [beq_eq_false_iff_ne]; omega
  go_enter Tryz.func165, Tryz.ntmps165
  go_wp2_with fail
  refine (f_powerII p a _ _ (by omega) (by omega) (by omega) (by omega) (by omega) (by omega)).mono ?_
  rintro e w' ⟨rfl, rfl⟩
  go_wp2_with fail
  go_ret2
  refine ⟨?_, rfl⟩
  unfold invP
  rw [show ((p : Int) - 2).toNat = p - 2 by omega]
  rfl

/-- The product of the differences of x to the first k places, but number i, modulo p at each step. -/
def wA (p : Int) (xs : Nat → Int) (i : Nat) (x : Int) : Nat → Int
  | 0 => 1 % p
  | k + 1 => if k = i then wA p xs i x k else wA p xs i x k * ((x - xs k) % p) % p
theorem wA_cg (p : Int) (xs : Nat → Int) (i : Nat) (x : Int) : ∀ k, Cg p (wA p xs i x k) (pbut xs i x k) := by
  intro k
  induction k with
  | zero => exact Cg.emod p 1
  | succ k ih =>
    unfold wA pbut
    by_cases h : k = i
    · rw [if_pos h, if_pos h]; exact ih
    · rw [if_neg h, if_neg h]
      exact Cg.of_emod (ih.mul (Cg.emod p _))
theorem wA_bd (p : Nat) (xs : Nat → Int) (i : Nat) (x : Int) (hp : 1 ≤ p) : ∀ k, 0 ≤ wA p xs i x k ∧ wA p xs i x k < p := by
  intro k
  induction k with
  | zero => exact ⟨Int.emod_nonneg _ (by omega), Int.emod_lt_of_pos _ (by omega)⟩
  | succ k ih =>
    unfold wA
    by_cases h : k = i
    · rw [if_pos h]; exact ih
    · rw [if_neg h]; exact ⟨Int.emod_nonneg _ (by omega), Int.emod_lt_of_pos _ (by omega)⟩
/-- The weight of place i at x. -/
def wt (p : Nat) (xs : Nat → Int) (n i : Nat) (x : Int) : Int := wA p xs i x n * invP p (wA p xs i (xs i) n) % p
def fOf (xs : List Int) (k : Nat) : Int := xs.getD k 0

set_option maxRecDepth 100000 in
set_option maxHeartbeats 1000000 in
theorem p_weight (p : Nat) (v : Value) (xs : List Int) (S : Nat → Prop) (i : Nat) (x : Int) (w : World) (hp : Prm p) (h2 : p ≤ 1073741824) (hv : IntsAt w S v xs) (hl : xs.length ≤ 1000) (hi : i < xs.length)
    (hx0 : 0 ≤ x) (hx1 : x < 2147483648) (hxs : ∀ k, k < xs.length → 0 ≤ fOf xs k ∧ fOf xs k < 2147483648) (hA : ApartN p (fOf xs) xs.length) :
    Calls Tryz.prog 161 #[.int .i64 (p : Int), v, .int .i64 (i : Int), .int .i64 x] w fun e w' => e = .returned (.int .i64 (wt p (fOf xs) xs.length i x)) ∧ ∃ m, w' = w.drewN m := by
  have hp2 := hp.1
  obtain ⟨A, n, c, rfl, hn, hnc, hc⟩ := hv
  obtain ⟨b, off, rfl, hS, hcell⟩ := hc (by omega)
  have hlow : ¬ (p : Int) ∣ wA p (fOf xs) i (fOf xs i) n := by
    intro h
    have h1 := Cg.zero_iff.1 ((wA_cg p (fOf xs) i (fOf xs i) n).symm.trans (Cg.zero_iff.2 h))
    refine pbut_ne hp (fOf xs) i (fOf xs i) n (fun j hj hne => hA i j hi (by omega) (fun e => hne e.symm)) h1
  have ci := hcell i (by omega)
  have bi := hxs i hi
  have HN := Lib.hid hn
  have HC := Lib.hid hcell
  have HL := Lib.hid hlow
  have hin : i < n := by omega
  have hn1 : n ≤ 1000 := by omega
  have HXS := Lib.hid hxs
  clear hn hcell hlow hc hxs hA
  rw [← HN.out]
  change w.cell? ⟨b, off + i, none⟩ = some (.int .i64 (fOf xs i)) at ci
  obtain ⟨f, hf⟩ : ∃ f, fOf xs = f := ⟨_, rfl⟩
  have qi : (i : Int) < (n : Int) := by omega
  have e1 : (1 : Int) % (p : Int) = 1 := Int.emod_eq_of_lt (by omega) (by omega)
  have E1 := Lib.hid e1
  rw [hf] at ci bi HL HXS ⊢
  clear e1
  have HF := Lib.hid hf
  clear hf
  obtain ⟨y, hy⟩ : ∃ y, f i = y := ⟨_, rfl⟩
  have ewt : wt p f n i x = wA p f i x n * invP p (wA p f i (f i) n) % p := rfl
  have HLy := HL
  rw [hy] at ci bi ewt HLy
  have EWT := Lib.hid ewt
  clear ewt HL
  have HY := Lib.hid hy
  clear hy
  go_enter Tryz.func161, Tryz.ntmps161
  go_wp2_with (go_at_call 164; ((with_reducible refine (f_Element p 1 _ (by omega) (by omega)).mono ?_); rintro e w' ⟨rfl, rfl⟩))
  go_loopw [9, 10, 21] (fun a l t wr => ∃ k : Nat, k ≤ n ∧ t = .int .i64 k ∧ a = .int .i64 (wA p f i x k) ∧ l = .int .i64 (wA p f i y k) ∧ ∃ m, wr = w.drewN m) (fun _ _ t _ => n - (intOf t).toNat)
  case atStart => exact ⟨0, by omega, rfl, rfl, rfl, 0, rfl⟩
  case round =>
    obtain ⟨k, hk, rfl, rfl, rfl, m, rfl⟩ := hrel
    have ba := wA_bd p f i x (by omega) k
    have bl := wA_bd p f i y (by omega) k
    have sa : wA p f i x (k + 1) = if k = i then wA p f i x k else wA p f i x k * ((x - f k) % p) % p := rfl
    have sl : wA p f i y (k + 1) = if k = i then wA p f i y k else wA p f i y k * ((y - f k) % p) % p := rfl
    have SA := Lib.hid sa
    have SL := Lib.hid sl
    clear sa sl
    by_cases hl : k < n
    · have ck := HC.out k hl
      change w.cell? ⟨b, off + k, none⟩ = some (.int .i64 (fOf xs k)) at ck
      rw [HF.out] at ck
      have bk := HXS.out k (by rw [← HN.out]; exact hl)
      have qk : (k : Int) < (n : Int) := by omega
      obtain ⟨z, hz⟩ : ∃ z, f k = z := ⟨_, rfl⟩
      have SA2 := SA.out
      have SL2 := SL.out
      rw [hz] at ck bk SA2 SL2
      have SA3 := Lib.hid SA2
      have SL3 := Lib.hid SL2
      clear hz SA2 SL2 SA SL
      obtain ⟨a, ha⟩ : ∃ a, wA p f i x k = a := ⟨_, rfl⟩
      obtain ⟨l, hll⟩ : ∃ l, wA p f i y k = l := ⟨_, rfl⟩
      rw [ha] at ba SA3 ⊢
      rw [hll] at bl SL3 ⊢
      clear ha hll
      have u0 := Int.emod_nonneg (x - z) (show (p : Int) ≠ 0 by omega)
      have u1 := Int.emod_lt_of_pos (x - z) (show 0 < (p : Int) by omega)
      have v0 := Int.emod_nonneg (y - z) (show (p : Int) ≠ 0 by omega)
      have v1 := Int.emod_lt_of_pos (y - z) (show 0 < (p : Int) by omega)
      by_cases hki : k = i
      · subst hki
        go_wp2_with fail
        go_roundw
        case measure => simp [intOf]; omega
        case rel => exact ⟨k + 1, by omega, by go_num, by rw [SA3.out, if_pos rfl], by rw [SL3.out, if_pos rfl], _, rfl⟩
      · have t1 : ((k : Int) != (i : Int)) = true := by simp; omega
        go_wp2_with fail
        go_quiet ((first
          | (go_at_call 167; with_reducible exact quiet_add_left (f_Sub p x z _ (by omega) (by omega) (by omega) (by omega) (by omega) (by omega)))
          | (go_at_call 167; with_reducible exact quiet_add_left (f_Sub p y z _ (by omega) (by omega) (by omega) (by omega) (by omega) (by omega)))
          | (go_at_call 138; with_reducible exact quiet_add_left (f_MulZ p a _ _ (by omega) (by omega) (by omega) (by omega) u0 (by omega)))
          | (go_at_call 138; with_reducible exact quiet_add_left (f_MulZ p l _ _ (by omega) (by omega) (by omega) (by omega) v0 (by omega)))))
        go_wp2_with fail
        go_roundw
        case measure => simp [intOf]; omega
        case rel => exact ⟨k + 1, by omega, by go_num, by rw [SA3.out, if_neg hki], by rw [SL3.out, if_neg hki], _, rfl⟩
    · have hkn : k = n := by omega
      subst hkn
      have h0 : 0 < wA p f i y k := by
        rcases Int.lt_or_eq_of_le bl.1 with h | h
        · exact h
        · exact absurd (h ▸ Int.dvd_zero (p : Int)) HLy.out
      obtain ⟨a, ha⟩ : ∃ a, wA p f i x k = a := ⟨_, rfl⟩
      obtain ⟨l, hll⟩ : ∃ l, wA p f i y k = l := ⟨_, rfl⟩
      have EW2 := EWT
      rw [ha] at ba EW2 ⊢
      rw [hll] at bl h0 EW2 ⊢
      have ib := invP_bd p l hp2
      clear ha hll SA SL EWT HLy
      go_wp2_with fail
      refine (f_Inverse p l _ (by omega) (by omega) h0 (by omega)).mono ?_
      rintro e w' ⟨rfl, rfl⟩
      go_wp2_with fail
      refine (f_MulZ p a (invP p l) _ (by omega) (by omega) (by omega) (by omega) (by omega) (by omega)).mono ?_
      rintro e w' ⟨rfl, rfl⟩
      go_wp2_with fail
      go_ret
      exact ⟨by rw [EW2.out]; rfl, m, rfl⟩
end Go.Proofs.YtjfphobfikadlaaGreatDoor
