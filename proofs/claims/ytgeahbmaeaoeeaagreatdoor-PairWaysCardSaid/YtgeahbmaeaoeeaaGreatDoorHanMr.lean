/- The test of Miller and Rabin: a prime passes it. No program stands in it. -/
import Derived.Test.YtgeahbmaeaoeeaaGreatDoorHanNum
set_option linter.unusedVariables false
set_option linter.unusedSimpArgs false
namespace Go.Proofs.YtgeahbmaeaoeeaaGreatDoor.Num
open Classical

theorem sqrt_one {p y : Nat} (h : Prm p) (hy : y < p) (h1 : y * y % p = 1) : y = 1 ∨ y = p - 1 := by
  have h2 := h.1
  have y1 : 1 ≤ y := by
    cases y with
    | zero => rw [Nat.zero_mul, Nat.zero_mod] at h1; omega
    | succ y => omega
  have y2 : 1 ≤ y * y := Nat.mul_pos (by omega) (by omega)
  have d : p ∣ (y - 1) * (y + 1) := by
    have e : (y - 1) * (y + 1) = y * y - 1 := by
      obtain ⟨z, rfl⟩ : ∃ z, y = z + 1 := ⟨y - 1, by omega⟩
      have a : (z + 1) * (z + 1) = z * (z + 1) + (z + 1) := Nat.succ_mul _ _
      have b : z * (z + 1 + 1) = z * (z + 1) + z := Nat.mul_succ _ _
      rw [Nat.add_sub_cancel, b, a]; omega
    rw [e]
    apply Nat.dvd_of_mod_eq_zero
    apply Nat.sub_mod_eq_zero_of_mod_eq
    rw [h1]; exact (Nat.mod_eq_of_lt (by omega)).symm
  rcases prm_dvd h d with d | d
  · by_cases h0 : y = 1
    · exact .inl h0
    · have := Nat.le_of_dvd (by omega) d; omega
  · have := Nat.le_of_dvd (by omega) d; omega

/-- What the test asks, of the odd part o and of t twos. -/
def MRat (m b o t : Nat) : Prop := pw m b o = 1 ∨ ∃ i, i < t ∧ pw m b (o * 2 ^ i) = m - 1
def MRp (m b : Nat) : Prop := ∃ o t, o * 2 ^ t = m - 1 ∧ o % 2 = 1 ∧ MRat m b o t
noncomputable def mrB (m b : Nat) : Bool := decide (MRp m b)

theorem odd_uniq {o t o' t' : Nat} (h : o % 2 = 1) (h' : o' % 2 = 1) (he : o * 2 ^ t = o' * 2 ^ t') : o = o' ∧ t = t' := by
  have key : ∀ {o t o' t' : Nat}, o % 2 = 1 → o * 2 ^ t = o' * 2 ^ t' → ¬ t < t' := by
    intro o t o' t' ho he hlt
    have e : 2 ^ t' = 2 ^ (t' - t - 1) * 2 * 2 ^ t := by
      rw [← Nat.pow_succ, ← Nat.pow_add]; congr 1; omega
    rw [e, ← Nat.mul_assoc] at he
    have := Nat.eq_of_mul_eq_mul_right (Nat.two_pow_pos t) he
    rw [this, ← Nat.mul_assoc] at ho
    omega
  have ht : t = t' := by
    rcases Nat.lt_trichotomy t t' with hl | hl | hl
    · exact (key h he hl).elim
    · exact hl
    · exact (key h' he.symm hl).elim
  subst ht
  exact ⟨Nat.eq_of_mul_eq_mul_right (Nat.two_pow_pos t) he, rfl⟩
theorem mrB_at {m b o t : Nat} (he : o * 2 ^ t = m - 1) (ho : o % 2 = 1) : mrB m b = true ↔ MRat m b o t := by
  unfold mrB
  rw [decide_eq_true_eq]
  constructor
  · rintro ⟨o', t', he', ho', h⟩
    obtain ⟨rfl, rfl⟩ := odd_uniq ho ho' (he.trans he'.symm)
    exact h
  · intro h; exact ⟨o, t, he, ho, h⟩
theorem mrB_f {m b o t : Nat} (he : o * 2 ^ t = m - 1) (ho : o % 2 = 1) (h : ¬ MRat m b o t) : mrB m b = false := by
  cases hb : mrB m b with
  | false => rfl
  | true => exact absurd ((mrB_at he ho).1 hb) h

theorem odd_part : ∀ n : Nat, 0 < n → ∃ o t, o * 2 ^ t = n ∧ o % 2 = 1 := by
  intro n
  induction n using Nat.strongRecOn with
  | _ n ih =>
    intro hn
    rcases Nat.mod_two_eq_zero_or_one n with h | h
    · obtain ⟨o, t, he, ho⟩ := ih (n / 2) (by omega) (by omega)
      exact ⟨o, t + 1, by rw [Nat.pow_succ, ← Nat.mul_assoc, he]; omega, ho⟩
    · exact ⟨n, 0, by simp, h⟩

theorem mr_prime {p b : Nat} (h : Prm p) (h3 : 3 ≤ p) (hb : ¬ p ∣ b) : mrB p b = true := by
  have h2 := h.1
  obtain ⟨o, t, he, ho⟩ := odd_part (p - 1) (by omega)
  rw [mrB_at he ho]
  have hf : pw p b (o * 2 ^ t) = 1 := by rw [he]; exact fermat1 h hb
  clear he
  induction t with
  | zero => left; rwa [Nat.pow_zero, Nat.mul_one] at hf
  | succ t ih =>
    have e : o * 2 ^ (t + 1) = o * 2 ^ t + o * 2 ^ t := by rw [Nat.pow_succ, ← Nat.mul_assoc]; omega
    rw [e, ← pw_add] at hf
    rcases sqrt_one h (pw_lt (by omega) _ _) hf with h1 | h1
    · rcases ih h1 with h4 | ⟨i, hi, h4⟩
      · exact .inl h4
      · exact .inr ⟨i, by omega, h4⟩
    · exact .inr ⟨t, by omega, h1⟩
end Go.Proofs.YtgeahbmaeaoeeaaGreatDoor.Num
