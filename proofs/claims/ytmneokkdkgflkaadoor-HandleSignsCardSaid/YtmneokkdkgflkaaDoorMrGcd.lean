/- What a composite number that passes leaves behind a prime factor above 32768: the great factor divides b to the power of what is left less 1, for all four bases. No program stands in it. -/
import Derived.Test.YtmneokkdkgflkaaDoorMrOrd
set_option linter.unusedVariables false
set_option linter.unusedSimpArgs false
namespace Go.Proofs.YtmneokkdkgflkaaDoor.Num

noncomputable def frc (n : Nat) (f : Nat → Bool) : Bool := Nat.rec (f 0) (fun m _ => f (Nat.succ m)) n
theorem frc_eq (n : Nat) (f : Nat → Bool) : frc n f = f n := by cases n <;> rfl
noncomputable def Mrec (n : Nat) : Nat := Nat.rec Qs (fun i ih => bif Nat.beq (Nat.gcd (Nat.succ i) Qs) 1 then Nat.mul (Nat.succ i) ih else ih) n
theorem Mrec_spec {r : Nat} (hr : Prm r) (h : 181 < r) : ∀ n, n < r → ¬ r ∣ Mrec n := by
  intro n
  induction n with
  | zero => intro _; exact big_Q hr h
  | succ n ih =>
    intro hn
    change ¬ r ∣ (bif Nat.beq (Nat.gcd (Nat.succ n) Qs) 1 then Nat.mul (Nat.succ n) (Mrec n) else Mrec n)
    cases Nat.beq (Nat.gcd (Nat.succ n) Qs) 1 with
    | false => exact ih (by omega)
    | true =>
      intro hd
      rcases prm_dvd hr (show r ∣ (n + 1) * Mrec n from hd) with h1 | h1
      · have := Nat.le_of_dvd (by omega) h1; omega
      · exact ih (by omega) h1
def strip (M G : Nat) : Nat := Nat.div G (Nat.gcd G M)
theorem strip_spec {r M G : Nat} (hr : Prm r) (hM : ¬ r ∣ M) (h0 : 0 < G) (h : r ∣ G) : r ∣ strip M G ∧ 0 < strip M G := by
  obtain ⟨c, hc⟩ := Nat.gcd_dvd_left G M
  have hg0 : 0 < Nat.gcd G M := Nat.gcd_pos_of_pos_left _ h0
  have e : strip M G = c := by
    show G / Nat.gcd G M = c
    conv => lhs; arg 1; rw [hc]
    exact Nat.mul_div_cancel_left _ hg0
  rw [e]
  have hc0 : 0 < c := by
    rcases Nat.eq_zero_or_pos c with h1 | h1
    · rw [h1, Nat.mul_zero] at hc; omega
    · exact h1
  refine ⟨?_, hc0⟩
  rw [hc] at h
  rcases prm_dvd hr h with h1 | h1
  · exact absurd (Nat.dvd_trans h1 (Nat.gcd_dvd_right G M)) hM
  · exact h1
noncomputable def fin_ (k R c : Nat) : Bool := Nat.rec true (fun i ih => bif Nat.beq (Nat.mod R (Nat.succ i)) 0 then (bif bad2 (Nat.mul k (Nat.div R (Nat.succ i))) then false else ih) else ih) c
theorem fin_spec {k R : Nat} : ∀ c, fin_ k R c = true → ∀ i, i < c → R % (i + 1) = 0 → bad2 (k * (R / (i + 1))) = false := by
  intro c
  induction c with
  | zero => intro _ i hi; omega
  | succ c ih =>
    intro h i hi hm
    change (bif Nat.beq (Nat.mod R (Nat.succ c)) 0 then (bif bad2 (Nat.mul k (Nat.div R (Nat.succ c))) then false else fin_ k R c) else fin_ k R c) = true at h
    rcases Nat.eq_or_lt_of_le (Nat.le_of_lt_succ hi) with e | e
    · subst e
      rw [show Nat.beq (Nat.mod R (Nat.succ i)) 0 = true from nbeq.2 hm] at h
      cases hb : bad2 (k * (R / (i + 1))) with
      | false => rfl
      | true => rw [show bad2 (Nat.mul k (Nat.div R (Nat.succ i))) = true from hb] at h; cases h
    · refine ih ?_ i e hm
      cases h1 : Nat.beq (Nat.mod R (Nat.succ c)) 0 with
      | false => rw [h1] at h; exact h
      | true =>
        rw [h1] at h
        cases h2 : bad2 (Nat.mul k (Nat.div R (Nat.succ c))) with
        | true => rw [h2] at h; cases h
        | false => rw [h2] at h; exact h
noncomputable def chain (M k : Nat) (f : Nat) : Nat → Bool := Nat.rec (fun G => fin_ k G (Nat.div G 32768)) (fun _ ih G => frc (strip M G) ih) f
theorem chain_spec {M k r : Nat} (hr : Prm r) (hM : ¬ r ∣ M) (h1 : 32768 < r) : ∀ f G, chain M k f G = true → 0 < G → r ∣ G → bad2 (k * r) = false := by
  intro f
  induction f with
  | zero =>
    intro G h h0 hd
    obtain ⟨s, hs⟩ := hd
    have hs0 : s ≠ 0 := by rintro rfl; rw [Nat.mul_zero] at hs; omega
    have hle : s ≤ Nat.div G 32768 := by
      show s ≤ G / 32768
      rw [Nat.le_div_iff_mul_le (by decide), hs, Nat.mul_comm]
      exact Nat.mul_le_mul (by omega) (Nat.le_refl _)
    have := fin_spec (k := k) (R := G) _ h (s - 1) (by omega) (by rw [show s - 1 + 1 = s by omega, hs]; exact Nat.mul_mod_left _ _)
    rw [show s - 1 + 1 = s by omega, hs, Nat.mul_div_cancel _ (by omega)] at this
    exact this
  | succ f ih =>
    intro G h h0 hd
    change frc (strip M G) (chain M k f) = true at h
    rw [frc_eq] at h
    obtain ⟨h2, h3⟩ := strip_spec hr hM h0 hd
    exact ih _ h h3 h2
def Gk (e : Nat) : Nat := Nat.gcd (Nat.gcd (Nat.sub (Nat.pow 2 e) 1) (Nat.sub (Nat.pow 3 e) 1)) (Nat.gcd (Nat.sub (Nat.pow 5 e) 1) (Nat.sub (Nat.pow 7 e) 1))
theorem dvd_pow1 {r b e : Nat} (hr : 1 < r) (h : pw r b e = 1) : r ∣ b ^ e - 1 := by
  apply Nat.dvd_of_mod_eq_zero
  apply Nat.sub_mod_eq_zero_of_mod_eq
  unfold pw at h
  rw [h, Nat.mod_eq_of_lt hr]
noncomputable def chkA (M k : Nat) : Bool := frc (Gk (Nat.sub k 1)) (chain M k 5)
theorem chkA_spec {M k r : Nat} (h : chkA M k = true) (hr : Prm r) (hM : ¬ r ∣ M) (h1 : 32768 < r) (hk : 2 ≤ k) (hA : All1 r (k - 1)) : bad2 (k * r) = false := by
  unfold chkA at h
  rw [frc_eq] at h
  have hr1 : 1 < r := by omega
  refine chain_spec hr hM h1 5 _ h ?_ ?_
  · have h2 : 0 < Nat.sub (Nat.pow 2 (Nat.sub k 1)) 1 := by
      show 0 < 2 ^ (k - 1) - 1
      have : 2 ^ 1 ≤ 2 ^ (k - 1) := Nat.pow_le_pow_right (by decide) (by omega)
      omega
    exact Nat.gcd_pos_of_pos_left _ (Nat.gcd_pos_of_pos_left _ h2)
  · exact Nat.dvd_gcd (Nat.dvd_gcd (dvd_pow1 hr1 (hA 2 (.inl rfl))) (dvd_pow1 hr1 (hA 3 (.inr (.inl rfl))))) (Nat.dvd_gcd (dvd_pow1 hr1 (hA 5 (.inr (.inr (.inl rfl))))) (dvd_pow1 hr1 (hA 7 (.inr (.inr (.inr rfl))))))
noncomputable def chks (k0 c M : Nat) : Bool := Nat.rec true (fun i ih => bif Nat.beq (Nat.gcd (Nat.add k0 (Nat.mul 2 i)) 105) 1 then (bif chkA M (Nat.add k0 (Nat.mul 2 i)) then ih else false) else ih) c
theorem chks_spec {k0 M : Nat} : ∀ c, chks k0 c M = true → ∀ i, i < c → Nat.gcd (k0 + 2 * i) 105 = 1 → chkA M (k0 + 2 * i) = true := by
  intro c
  induction c with
  | zero => intro _ i hi; omega
  | succ c ih =>
    intro h i hi hg
    change (bif Nat.beq (Nat.gcd (Nat.add k0 (Nat.mul 2 c)) 105) 1 then (bif chkA M (Nat.add k0 (Nat.mul 2 c)) then chks k0 c M else false) else chks k0 c M) = true at h
    rcases Nat.eq_or_lt_of_le (Nat.le_of_lt_succ hi) with e | e
    · subst e
      rw [show Nat.beq (Nat.gcd (Nat.add k0 (Nat.mul 2 i)) 105) 1 = true from nbeq.2 hg] at h
      cases hb : chkA M (k0 + 2 * i) with
      | true => rfl
      | false => rw [show chkA M (Nat.add k0 (Nat.mul 2 i)) = false from hb] at h; cases h
    · refine ih ?_ i e hg
      cases h1 : Nat.beq (Nat.gcd (Nat.add k0 (Nat.mul 2 c)) 105) 1 with
      | false => rw [h1] at h; exact h
      | true =>
        rw [h1] at h
        cases h2 : chkA M (Nat.add k0 (Nat.mul 2 c)) with
        | false => rw [h2] at h; cases h
        | true => rw [h2] at h; exact h
/-- No prime factor is above 32768. -/
theorem no_great {n r : Nat} (hall : ∀ k, 11 ≤ k → k < 32768 → k % 2 = 1 → Nat.gcd k 105 = 1 → chkA (Mrec 32768) k = true) (hp : Psp n) (hr : Prm r) (hd : r ∣ n) (h1 : 32768 < r) : False := by
  obtain ⟨k, hk⟩ := hd
  obtain ⟨h2, h3⟩ := hp.cof hr hk
  have hkN : k < 32768 := by
    apply Classical.byContradiction
    intro h
    have : 32769 * 32768 ≤ r * k := Nat.mul_le_mul (by omega) (by omega)
    have := hp.le
    omega
  have hodd : k % 2 = 1 := by
    rcases Nat.mod_two_eq_zero_or_one k with h | h
    · exact absurd (Nat.dvd_trans (Nat.dvd_of_mod_eq_zero h) ⟨r, by rw [hk, Nat.mul_comm]⟩) (hp.co 2 (.inl rfl))
    · exact h
  have hc := hall k h3 hkN hodd (hp.gcd105 ⟨r, by rw [hk, Nat.mul_comm]⟩)
  have := chkA_spec hc hr (Mrec_spec hr (by omega) 32768 h1) h1 (by omega) h2
  rw [Nat.mul_comm, ← hk, hp.bad] at this
  cases this
end Go.Proofs.YtmneokkdkgflkaaDoor.Num
