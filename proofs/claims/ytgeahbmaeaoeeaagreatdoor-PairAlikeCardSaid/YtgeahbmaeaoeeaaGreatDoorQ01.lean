/- Plain numbers: powers modulo a number by squares. No program stands in it. -/
import Derived.KernelRfl
set_option linter.unusedVariables false
set_option linter.unusedSimpArgs false
namespace Go.Proofs.YtgeahbmaeaoeeaaGreatDoor.Num

/-- A power modulo m, of plain numbers. -/
def pw (m a n : Nat) : Nat := a ^ n % m

theorem pw_lt {m : Nat} (h : 0 < m) (a n : Nat) : pw m a n < m := Nat.mod_lt _ h
theorem pw_zero (m a : Nat) : pw m a 0 = 1 % m := by simp [pw]
theorem mul_mod' (a b m : Nat) : a % m * (b % m) % m = a * b % m := (Nat.mul_mod a b m).symm
theorem pw_add (m a i k : Nat) : pw m a i * pw m a k % m = pw m a (i + k) := by
  unfold pw; rw [mul_mod', ← Nat.pow_add]
theorem pw_mod_base (m a n : Nat) : pw m (a % m) n = pw m a n := by
  unfold pw; rw [← Nat.pow_mod]
theorem pw_pw (m a i k : Nat) : pw m (pw m a i) k = pw m a (i * k) := by
  unfold pw; rw [← Nat.pow_mod, Nat.pow_mul]
theorem pw_mul (m a b n : Nat) : pw m a n * pw m b n % m = pw m (a * b % m) n := by
  unfold pw; rw [mul_mod', ← Nat.mul_pow, ← Nat.pow_mod]
theorem pw_one (m n : Nat) : pw m 1 n = 1 % m := by simp [pw]

/-- One step of a power by squares: what is gathered times the square's power. -/
theorem step_even (m o x e : Nat) (he : e % 2 = 0) : o * (x * x % m) ^ (e / 2) % m = o * x ^ e % m := by
  have h : x ^ e = (x * x) ^ (e / 2) := by
    rw [← Nat.pow_two, ← Nat.pow_mul]; congr 1; omega
  rw [h, Nat.mul_mod o, ← Nat.pow_mod, ← Nat.mul_mod]
theorem step_odd (m o x e : Nat) (he : e % 2 = 1) : (o * x % m) * (x * x % m) ^ (e / 2) % m = o * x ^ e % m := by
  have h : x ^ e = x * (x * x) ^ (e / 2) := by
    rw [← Nat.pow_two, ← Nat.pow_mul, ← Nat.pow_succ']; congr 1; omega
  rw [h, Nat.mul_mod, Nat.mod_mod, ← Nat.pow_mod, ← Nat.mul_mod, Nat.mul_assoc]

theorem cast_mod (a b : Nat) : ((a : Int)).tmod (b : Int) = ((a % b : Nat) : Int) := by
  rw [Int.tmod_eq_emod_of_nonneg (by omega)]; exact (Int.natCast_emod a b).symm
theorem cast_mul_mod (a b m : Nat) : ((a : Int) * (b : Int)).tmod (m : Int) = ((a * b % m : Nat) : Int) := by
  rw [← Int.natCast_mul]; exact cast_mod _ _
/-- The product of two numbers below 2^31 is below 2^62. -/
theorem mul_bd {a b m : Nat} (ha : a < m) (hb : b < m) (hm : m ≤ 2147483648) : ((a : Int) * (b : Int)) < 4611686018427387904 ∧ 0 ≤ (a : Int) * (b : Int) := by
  have h : a * b ≤ 2147483648 * 2147483648 - 1 := by
    have h1 : a ≤ 2147483647 := by omega
    have h2 : b ≤ 2147483647 := by omega
    have := Nat.mul_le_mul h1 h2
    omega
  rw [← Int.natCast_mul]; omega

/-- No divisor from d on, so many steps. -/
def noDiv (n : Nat) (f : Nat) : Nat → Bool := Nat.rec (fun _ => true) (fun _ ih d => bif Nat.beq (n % d) 0 then false else ih (d + 1)) f
theorem noDiv_spec (n : Nat) : ∀ (f d : Nat), noDiv n f d = true → ∀ c, d ≤ c → c < d + f → n % c ≠ 0 := by
  intro f
  induction f with
  | zero => intro d _ c h1 h2; omega
  | succ f ih =>
    intro d h c h1 h2
    have e : noDiv n (f + 1) d = bif Nat.beq (n % d) 0 then false else noDiv n f (d + 1) := rfl
    rw [e] at h
    cases hb : Nat.beq (n % d) 0 with
    | true => rw [hb] at h; cases h
    | false =>
      rw [hb] at h
      by_cases hc : c = d
      · subst hc; intro h0; rw [h0] at hb; cases hb
      · exact ih (d + 1) h c (by omega) (by omega)

/-- Prime: greater than 1, and no number between 1 and it divides it. -/
def Prm (p : Nat) : Prop := 2 ≤ p ∧ ∀ d, d ∣ p → d = 1 ∨ d = p
theorem prm_of {p f : Nat} (h2 : 2 ≤ p) (h : noDiv p f 2 = true) (hf : p < (f + 2) * (f + 2)) : Prm p := by
  refine ⟨h2, fun d ⟨k, hk⟩ => ?_⟩
  have hs := noDiv_spec p f 2 h
  by_cases h1 : d = 1
  · exact .inl h1
  by_cases h3 : k = 1
  · right; rw [h3] at hk; omega
  exfalso
  have d0 : d ≠ 0 := by rintro rfl; omega
  have k0 : k ≠ 0 := by rintro rfl; omega
  by_cases hd : d < f + 2
  · exact hs d (by omega) (by omega) (by rw [hk]; exact Nat.mul_mod_right d k)
  by_cases hk' : k < f + 2
  · exact hs k (by omega) (by omega) (by rw [hk]; exact Nat.mul_mod_left d k)
  have := Nat.mul_le_mul (show f + 2 ≤ d by omega) (show f + 2 ≤ k by omega)
  omega
theorem prm_gcd {p d : Nat} (h : Prm p) (h0 : 0 < d) (h1 : d < p) : Nat.gcd d p = 1 := by
  rcases h.2 _ (Nat.gcd_dvd_right d p) with e | e
  · exact e
  · have := Nat.le_of_dvd h0 (Nat.gcd_dvd_left d p); omega

/-- Exponents for which the power is 1 have a greatest common divisor for which it is 1. -/
theorem pw_gcd {m g : Nat} (hm : 1 < m) (a b : Nat) : pw m g a = 1 → pw m g b = 1 → pw m g (Nat.gcd a b) = 1 := by
  induction a, b using Nat.gcd.induction with
  | H0 n => intro _ h; rwa [Nat.gcd_zero_left]
  | H1 a b h0 ih =>
    intro ha hb
    rw [Nat.gcd_rec]
    refine ih ?_ ha
    have e : a * (b / a) + b % a = b := Nat.div_add_mod b a
    rw [← e, ← pw_add, ← pw_pw, ha, pw_one] at hb
    rw [Nat.mod_eq_of_lt hm, Nat.one_mul, Nat.mod_eq_of_lt (pw_lt (by omega) _ _)] at hb
    exact hb
theorem pw_one_only {m g p d : Nat} (hm : 1 < m) (hp : Prm p) (hg : pw m g p = 1) (h1 : g % m ≠ 1) (h0 : 0 < d) (hd : d < p) : pw m g d ≠ 1 := by
  intro h
  have := pw_gcd hm d p h hg
  rw [prm_gcd hp h0 hd] at this
  simp [pw] at this
  exact h1 this
/-- Exponents modulo the order. -/
theorem pw_mod_exp {m g p : Nat} (hm : 1 < m) (hg : pw m g p = 1) (n : Nat) : pw m g (n % p) = pw m g n := by
  have e : p * (n / p) + n % p = n := Nat.div_add_mod n p
  conv => rhs; rw [← e, ← pw_add, ← pw_pw, hg, pw_one]
  rw [Nat.mod_eq_of_lt hm, Nat.one_mul, Nat.mod_eq_of_lt (pw_lt (by omega) _ _)]
/-- Different exponents below the order have different powers. -/
theorem pw_inj {m g p i k : Nat} (hm : 1 < m) (hp : Prm p) (hg : pw m g p = 1) (h1 : g % m ≠ 1) (hi : i < p) (hk : k < p) (h : pw m g i = pw m g k) : i = k := by
  have key : ∀ i k, i < k → k < p → pw m g i = pw m g k → False := by
    intro i k hik hk h
    have a : pw m g (k + (p - i)) = 1 := by
      rw [← pw_add, ← h, pw_add, show i + (p - i) = p by omega, hg]
    refine pw_one_only hm hp hg h1 (d := k - i) (by omega) (by omega) ?_
    rw [← a, show k + (p - i) = (k - i) + p by omega, ← pw_add, hg, Nat.mul_one, Nat.mod_eq_of_lt (pw_lt (by omega) _ _)]
  rcases Nat.lt_trichotomy i k with hl | hl | hl
  · exact (key i k hl hk h).elim
  · exact hl
  · exact (key k i hl hi h.symm).elim

/- Fermat's small theorem, by the binomial numbers. -/
def ch : Nat → Nat → Nat
  | _, 0 => 1
  | 0, _ + 1 => 0
  | n + 1, k + 1 => ch n k + ch n (k + 1)
theorem ch_zero (n : Nat) : ch n 0 = 1 := by cases n <;> rfl
theorem ch_mul : ∀ n k : Nat, (k + 1) * ch (n + 1) (k + 1) = (n + 1) * ch n k := by
  intro n
  induction n with
  | zero =>
    intro k
    cases k with
    | zero => rfl
    | succ k => simp [ch]
  | succ n ih =>
    intro k
    have e : ch (n + 1 + 1) (k + 1) = ch (n + 1) k + ch (n + 1) (k + 1) := rfl
    rw [e, Nat.mul_add, ih k]
    cases k with
    | zero => simp only [ch_zero]; omega
    | succ k =>
      have a := ih k
      have b : ch (n + 1) (k + 1) = ch n k + ch n (k + 1) := rfl
      have c : (n + 1) * ch (n + 1) (k + 1) = (n + 1) * ch n k + (n + 1) * ch n (k + 1) := by rw [b, Nat.mul_add]
      have d1 : (k + 1 + 1) * ch (n + 1) (k + 1) = (k + 1) * ch (n + 1) (k + 1) + ch (n + 1) (k + 1) := Nat.succ_mul _ _
      have d2 : (n + 1 + 1) * ch (n + 1) (k + 1) = (n + 1) * ch (n + 1) (k + 1) + ch (n + 1) (k + 1) := Nat.succ_mul _ _
      omega
theorem ch_big : ∀ n k : Nat, n < k → ch n k = 0 := by
  intro n
  induction n with
  | zero => intro k h; cases k with | zero => omega | succ k => rfl
  | succ n ih =>
    intro k h
    cases k with
    | zero => omega
    | succ k =>
      show ch n k + ch n (k + 1) = 0
      rw [ih k (by omega), ih (k + 1) (by omega)]
theorem ch_self : ∀ n : Nat, ch n n = 1 := by
  intro n
  induction n with
  | zero => rfl
  | succ n ih =>
    show ch n n + ch n (n + 1) = 1
    rw [ih, ch_big n (n + 1) (by omega)]
/-- The sum of the first terms of a binomial power. -/
def bs (n a : Nat) : Nat → Nat
  | 0 => 0
  | k + 1 => bs n a k + ch n k * a ^ k
theorem bs_succ (n a : Nat) : ∀ k, bs (n + 1) a (k + 1) = bs n a (k + 1) + a * bs n a k := by
  intro k
  induction k with
  | zero => simp [bs, ch_zero]
  | succ k ih =>
    have e1 : bs (n + 1) a (k + 1 + 1) = bs (n + 1) a (k + 1) + (ch n k + ch n (k + 1)) * a ^ (k + 1) := rfl
    have e2 : bs n a (k + 1 + 1) = bs n a (k + 1) + ch n (k + 1) * a ^ (k + 1) := rfl
    have e3 : bs n a (k + 1) = bs n a k + ch n k * a ^ k := rfl
    have e4 : a * bs n a (k + 1) = a * bs n a k + ch n k * a ^ (k + 1) := by
      rw [e3, Nat.mul_add, Nat.pow_succ, Nat.mul_left_comm, Nat.mul_comm (a ^ k) a]
    rw [e1, ih, e2, e4, Nat.add_mul]; omega
theorem bs_all (a : Nat) : ∀ n, bs n a (n + 1) = (a + 1) ^ n := by
  intro n
  induction n with
  | zero => simp [bs, ch_zero]
  | succ n ih =>
    rw [bs_succ, show bs n a (n + 1 + 1) = bs n a (n + 1) + ch n (n + 1) * a ^ (n + 1) from rfl, ch_big n (n + 1) (by omega), ih, show (a + 1) ^ (n + 1) = (a + 1) ^ n * (a + 1) from Nat.pow_succ _ _, Nat.mul_add, Nat.mul_one, Nat.mul_comm a, Nat.zero_mul]
    omega
theorem prm_dvd {p a b : Nat} (h : Prm p) (hd : p ∣ a * b) : p ∣ a ∨ p ∣ b := by
  rcases h.2 _ (Nat.gcd_dvd_right a p) with e | e
  · right; exact Nat.Coprime.dvd_of_dvd_mul_left (Nat.Coprime.symm e) hd
  · left; rw [← e]; exact Nat.gcd_dvd_left a p
theorem prm_ch {p k : Nat} (h : Prm p) (h0 : 0 < k) (h1 : k < p) : p ∣ ch p k := by
  have h2 := h.1
  obtain ⟨q, rfl⟩ : ∃ q, p = q + 1 := ⟨p - 1, by omega⟩
  obtain ⟨j, rfl⟩ : ∃ j, k = j + 1 := ⟨k - 1, by omega⟩
  have e := ch_mul q j
  rcases prm_dvd h (show q + 1 ∣ (j + 1) * ch (q + 1) (j + 1) from ⟨ch q j, e⟩) with d | d
  · have := Nat.le_of_dvd (by omega) d; omega
  · exact d
theorem bs_mod {p : Nat} (h : Prm p) (a : Nat) : ∀ k, k < p → bs p a (k + 1) % p = 1 := by
  intro k
  have h2 := h.1
  induction k with
  | zero => intro _; simp only [bs, ch_zero]; exact Nat.mod_eq_of_lt (by simp; omega)
  | succ k ih =>
    intro hk
    have e : bs p a (k + 1 + 1) = bs p a (k + 1) + ch p (k + 1) * a ^ (k + 1) := rfl
    obtain ⟨c, hc⟩ := prm_ch h (show 0 < k + 1 by omega) hk
    rw [e, hc, Nat.mul_assoc, Nat.add_mul_mod_self_left]
    exact ih (by omega)
theorem frob {p : Nat} (h : Prm p) (a : Nat) : (a + 1) ^ p % p = (a ^ p + 1) % p := by
  have h2 := h.1
  have e := bs_all a p
  have e2 : bs p a (p + 1) = bs p a p + ch p p * a ^ p := rfl
  have e3 := bs_mod h a (p - 1) (by omega)
  rw [show p - 1 + 1 = p by omega] at e3
  rw [← e, e2, ch_self, Nat.one_mul, Nat.add_mod, e3, Nat.add_comm (a ^ p) 1, Nat.add_mod 1 (a ^ p)]
  rw [Nat.mod_eq_of_lt (show 1 < p by omega)]
theorem fermat {p : Nat} (h : Prm p) : ∀ a, a ^ p % p = a % p := by
  intro a
  have h2 := h.1
  induction a with
  | zero => rw [Nat.zero_pow (by omega)]
  | succ a ih => rw [frob h, Nat.add_mod, ih, ← Nat.add_mod]
theorem fermat1 {p a : Nat} (h : Prm p) (ha : ¬ p ∣ a) : a ^ (p - 1) % p = 1 := by
  have h2 := h.1
  have e := fermat h a
  have e1 : a ^ p = a * a ^ (p - 1) := by
    rw [← Nat.pow_succ']; congr 1; omega
  have a1 : 1 ≤ a := by
    cases a with
    | zero => exact absurd (Nat.dvd_zero p) ha
    | succ a => omega
  have b1 : 1 ≤ a ^ (p - 1) := Nat.one_le_pow _ _ (by omega)
  have d : p ∣ a * (a ^ (p - 1) - 1) := by
    rw [Nat.mul_sub, Nat.mul_one, ← e1]
    exact Nat.dvd_of_mod_eq_zero (Nat.sub_mod_eq_zero_of_mod_eq e)
  rcases prm_dvd h d with d | d
  · exact absurd d ha
  · obtain ⟨c, hc⟩ := d
    rw [show a ^ (p - 1) = 1 + p * c by omega, Nat.add_mul_mod_self_left]
    exact Nat.mod_eq_of_lt (by omega)

/-- The nine safe primes of the statements. -/
def Safe (p : Nat) : Prop := p = 11 ∨ p = 3 ∨ p = 5 ∨ p = 23 ∨ p = 29 ∨ p = 41 ∨ p = 53 ∨ p = 83 ∨ p = 500000003
theorem safe_prm {p : Nat} (h : Safe p) : Prm p := by
  rcases h with rfl | rfl | rfl | rfl | rfl | rfl | rfl | rfl | rfl
  · exact prm_of (f := 2) (by decide) (by kernel_rfl) (by decide)
  · exact prm_of (f := 1) (by decide) (by kernel_rfl) (by decide)
  · exact prm_of (f := 1) (by decide) (by kernel_rfl) (by decide)
  · exact prm_of (f := 3) (by decide) (by kernel_rfl) (by decide)
  · exact prm_of (f := 4) (by decide) (by kernel_rfl) (by decide)
  · exact prm_of (f := 5) (by decide) (by kernel_rfl) (by decide)
  · exact prm_of (f := 6) (by decide) (by kernel_rfl) (by decide)
  · exact prm_of (f := 8) (by decide) (by kernel_rfl) (by decide)
  · exact prm_of (f := 22360) (by decide) (by kernel_rfl) (by decide)
theorem safe_prm2 {p : Nat} (h : Safe p) : Prm (2 * p + 1) := by
  rcases h with rfl | rfl | rfl | rfl | rfl | rfl | rfl | rfl | rfl
  · exact prm_of (f := 3) (by decide) (by kernel_rfl) (by decide)
  · exact prm_of (f := 1) (by decide) (by kernel_rfl) (by decide)
  · exact prm_of (f := 2) (by decide) (by kernel_rfl) (by decide)
  · exact prm_of (f := 5) (by decide) (by kernel_rfl) (by decide)
  · exact prm_of (f := 6) (by decide) (by kernel_rfl) (by decide)
  · exact prm_of (f := 8) (by decide) (by kernel_rfl) (by decide)
  · exact prm_of (f := 9) (by decide) (by kernel_rfl) (by decide)
  · exact prm_of (f := 11) (by decide) (by kernel_rfl) (by decide)
  · exact prm_of (f := 31622) (by decide) (by kernel_rfl) (by decide)
theorem safe_bd {p : Nat} (h : Safe p) : 3 ≤ p ∧ p ≤ 500000003 := by
  rcases h with rfl | rfl | rfl | rfl | rfl | rfl | rfl | rfl | rfl <;> decide
end Go.Proofs.YtgeahbmaeaoeeaaGreatDoor.Num
