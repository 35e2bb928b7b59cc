/- Numbers that pass the test of Miller and Rabin with 2, 3, 5 and 7: what a composite one up to 2 to the power of 30 would have to be. No program stands in it. -/
import Derived.Test.YtmneokkdkgflkaaDoorHanMr
set_option linter.unusedVariables false
set_option linter.unusedSimpArgs false
namespace Go.Proofs.YtmneokkdkgflkaaDoor.Num

/-! ### Powers that the kernel can reckon -/
def st6 (m b y d : Nat) : Nat := Nat.mod (Nat.mul (Nat.pow y 64) (Nat.pow b d)) m
def p6 (m b e : Nat) : Nat :=
  st6 m b (st6 m b (st6 m b (st6 m b (Nat.mod (Nat.pow b (Nat.div e 16777216)) m) (Nat.mod (Nat.div e 262144) 64)) (Nat.mod (Nat.div e 4096) 64)) (Nat.mod (Nat.div e 64) 64)) (Nat.mod e 64)
theorem st6_pw (m b a d : Nat) : st6 m b (pw m b a) d = pw m b (64 * a + d) := by
  show (b ^ a % m) ^ 64 * b ^ d % m = b ^ (64 * a + d) % m
  rw [Nat.mul_mod, ← Nat.pow_mod, ← Nat.mul_mod, ← Nat.pow_mul, ← Nat.pow_add, Nat.mul_comm a 64]
theorem p6_pw (m b e : Nat) : p6 m b e = pw m b e := by
  unfold p6
  have e0 : Nat.mod (Nat.pow b (Nat.div e 16777216)) m = pw m b (e / 16777216) := rfl
  rw [e0, st6_pw, st6_pw, st6_pw, st6_pw]
  congr 1
  show 64 * (64 * (64 * (64 * (e / 16777216) + e / 262144 % 64) + e / 4096 % 64) + e / 64 % 64) + e % 64 = e
  omega
def fm (e : Nat) : Bool := Nat.beq (p6 (Nat.succ e) 2 e) 1
noncomputable def mrc (n b : Nat) (f : Nat) : Nat → Bool :=
  Nat.rec (fun _ => true) (fun _ ih e => bif Nat.beq (p6 n b e) (Nat.sub n 1) then true else bif Nat.beq (p6 n b e) 1 then (bif Nat.beq (Nat.mod e 2) 0 then ih (Nat.div e 2) else true) else false) f
noncomputable def mrs (n : Nat) : Bool := bif mrc n 2 31 (Nat.sub n 1) then (bif mrc n 3 31 (Nat.sub n 1) then (bif mrc n 5 31 (Nat.sub n 1) then mrc n 7 31 (Nat.sub n 1) else false) else false) else false
noncomputable def bad2 (n : Nat) : Bool := Nat.rec false (fun e _ => bif fm e then mrs (Nat.succ e) else false) n
theorem nbeq {a b : Nat} : Nat.beq a b = true ↔ a = b := ⟨Nat.eq_of_beq_eq_true, fun h => by subst h; exact Nat.beq_refl a⟩
theorem nbeq_f {a b : Nat} (h : a ≠ b) : Nat.beq a b = false := by
  cases hb : Nat.beq a b with
  | false => rfl
  | true => exact absurd (nbeq.1 hb) h
theorem mrc_step (n b f e : Nat) : mrc n b (f + 1) e = (bif Nat.beq (p6 n b e) (Nat.sub n 1) then true else bif Nat.beq (p6 n b e) 1 then (bif Nat.beq (Nat.mod e 2) 0 then mrc n b f (Nat.div e 2) else true) else false) := rfl
theorem pw_dbl {m b o i : Nat} (hm : 1 < m) (h : pw m b (o * 2 ^ i) = 1) : pw m b (o * 2 ^ (i + 1)) = 1 := by
  have e : o * 2 ^ (i + 1) = o * 2 ^ i + o * 2 ^ i := by rw [Nat.pow_succ, ← Nat.mul_assoc]; omega
  rw [e, ← pw_add, h, Nat.mod_eq_of_lt hm]
theorem pw_neg {m b o i : Nat} (hm : 2 < m) (h : pw m b (o * 2 ^ i) = m - 1) : pw m b (o * 2 ^ (i + 1)) = 1 := by
  have e : o * 2 ^ (i + 1) = o * 2 ^ i + o * 2 ^ i := by rw [Nat.pow_succ, ← Nat.mul_assoc]; omega
  rw [e, ← pw_add, h]
  obtain ⟨z, rfl⟩ : ∃ z, m = z + 2 := ⟨m - 2, by omega⟩
  rw [show z + 2 - 1 = z + 1 by omega, show (z + 1) * (z + 1) = (z + 2) * z + 1 by rw [Nat.add_mul, Nat.mul_add, Nat.add_mul]; omega, Nat.mul_add_mod, Nat.mod_eq_of_lt (by omega)]
theorem odd_half {o i : Nat} (ho : o % 2 = 1) (h : (o * 2 ^ i) % 2 = 0) : ∃ j, i = j + 1 ∧ o * 2 ^ i / 2 = o * 2 ^ j := by
  cases i with
  | zero => rw [Nat.pow_zero, Nat.mul_one] at h; omega
  | succ j => exact ⟨j, rfl, by rw [Nat.pow_succ, ← Nat.mul_assoc, Nat.mul_div_cancel _ (by omega)]⟩
theorem mrc_of {n b o t : Nat} (hn : 2 < n) (ho : o % 2 = 1) (h : MRat n b o t) : ∀ f, mrc n b f (o * 2 ^ t) = true := by
  rcases h with h1 | ⟨j, hj, h1⟩
  · have all1 : ∀ i, pw n b (o * 2 ^ i) = 1 := by
      intro i
      induction i with
      | zero => rwa [Nat.pow_zero, Nat.mul_one]
      | succ i ih => exact pw_dbl (by omega) ih
    have key : ∀ f i, mrc n b f (o * 2 ^ i) = true := by
      intro f
      induction f with
      | zero => intro i; rfl
      | succ f ih =>
        intro i
        rw [mrc_step, p6_pw, all1 i, nbeq_f (a := 1) (b := Nat.sub n 1) (by show 1 ≠ n - 1; omega)]
        show (bif Nat.beq (Nat.mod (o * 2 ^ i) 2) 0 then mrc n b f (Nat.div (o * 2 ^ i) 2) else true) = true
        cases hb : Nat.beq (Nat.mod (o * 2 ^ i) 2) 0 with
        | false => rfl
        | true =>
          obtain ⟨k, _, e⟩ := odd_half ho (nbeq.1 hb)
          show mrc n b f (o * 2 ^ i / 2) = true
          rw [e]; exact ih k
    exact fun f => key f t
  · have all1 : ∀ i, j < i → pw n b (o * 2 ^ i) = 1 := by
      intro i
      induction i with
      | zero => intro h; omega
      | succ i ih =>
        intro h
        rcases Nat.eq_or_lt_of_le (Nat.le_of_lt_succ h) with e | e
        · subst e; exact pw_neg hn h1
        · exact pw_dbl (by omega) (ih e)
    have key : ∀ f i, j ≤ i → mrc n b f (o * 2 ^ i) = true := by
      intro f
      induction f with
      | zero => intro i _; rfl
      | succ f ih =>
        intro i hi
        rw [mrc_step, p6_pw]
        rcases Nat.eq_or_lt_of_le hi with e | e
        · subst e
          rw [h1, show Nat.beq (n - 1) (Nat.sub n 1) = true from Nat.beq_refl _]; rfl
        · rw [all1 i e, nbeq_f (a := 1) (b := Nat.sub n 1) (by show 1 ≠ n - 1; omega)]
          show (bif Nat.beq (Nat.mod (o * 2 ^ i) 2) 0 then mrc n b f (Nat.div (o * 2 ^ i) 2) else true) = true
          cases hb : Nat.beq (Nat.mod (o * 2 ^ i) 2) 0 with
          | false => rfl
          | true =>
            obtain ⟨k, hk, e2⟩ := odd_half ho (nbeq.1 hb)
            show mrc n b f (o * 2 ^ i / 2) = true
            rw [e2]; exact ih k (by omega)
    exact fun f => key f t (by omega)
theorem mrc_mrB {n b : Nat} (hn : 2 < n) (h : mrB n b = true) (f : Nat) : mrc n b f (n - 1) = true := by
  obtain ⟨o, t, he, ho⟩ := odd_part (n - 1) (by omega)
  have := mrc_of hn ho ((mrB_at he ho).1 h) f
  rwa [he] at this
theorem fer_mrB {n b : Nat} (hn : 2 < n) (hodd : n % 2 = 1) (h : mrB n b = true) : pw n b (n - 1) = 1 := by
  obtain ⟨o, t, he, ho⟩ := odd_part (n - 1) (by omega)
  have h1 := (mrB_at he ho).1 h
  have ht : 1 ≤ t := by
    rcases Nat.eq_zero_or_pos t with h0 | h0
    · subst h0; rw [Nat.pow_zero, Nat.mul_one] at he; omega
    · exact h0
  rw [← he]
  rcases h1 with h1 | ⟨j, hj, h1⟩
  · have : ∀ i, pw n b (o * 2 ^ i) = 1 := by
      intro i
      induction i with
      | zero => rwa [Nat.pow_zero, Nat.mul_one]
      | succ i ih => exact pw_dbl (by omega) ih
    exact this t
  · have : ∀ i, j < i → pw n b (o * 2 ^ i) = 1 := by
      intro i
      induction i with
      | zero => intro h; omega
      | succ i ih =>
        intro h
        rcases Nat.eq_or_lt_of_le (Nat.le_of_lt_succ h) with e | e
        · subst e; exact pw_neg hn h1
        · exact pw_dbl (by omega) (ih e)
    exact this t hj
/-- What passes is found by the kernel's test. -/
theorem bad2_of {n : Nat} (hn : 2 < n) (hodd : n % 2 = 1) (h2 : mrB n 2 = true) (h3 : mrB n 3 = true) (h5 : mrB n 5 = true) (h7 : mrB n 7 = true) : bad2 n = true := by
  obtain ⟨e, rfl⟩ : ∃ e, n = e + 1 := ⟨n - 1, by omega⟩
  show (bif fm e then mrs (e + 1) else false) = true
  have f2 := fer_mrB hn hodd h2
  have e1 : fm e = true := by
    unfold fm
    rw [p6_pw, nbeq]
    exact f2
  have e2 : mrs (e + 1) = true := by
    unfold mrs
    have c := fun {b} (h : mrB (e + 1) b = true) => mrc_mrB hn h 31
    rw [show mrc (e + 1) 2 31 (Nat.sub (e + 1) 1) = true from c h2, show mrc (e + 1) 3 31 (Nat.sub (e + 1) 1) = true from c h3, show mrc (e + 1) 5 31 (Nat.sub (e + 1) 1) = true from c h5, show mrc (e + 1) 7 31 (Nat.sub (e + 1) 1) = true from c h7]
    rfl
  rw [e1, e2]; rfl
/-! ### Prime factors -/
theorem ex_prm : ∀ n : Nat, 2 ≤ n → ∃ s, Prm s ∧ s ∣ n := by
  intro n
  induction n using Nat.strongRecOn with
  | _ n ih =>
    intro hn
    by_cases h : Prm n
    · exact ⟨n, h, Nat.dvd_refl n⟩
    · have : ∃ d, d ∣ n ∧ d ≠ 1 ∧ d ≠ n := by
        apply Classical.byContradiction
        intro hno
        exact h ⟨hn, fun d hd => by
          by_cases h1 : d = 1
          · exact .inl h1
          · by_cases h2 : d = n
            · exact .inr h2
            · exact absurd ⟨d, hd, h1, h2⟩ hno⟩
      obtain ⟨d, hd, h1, h2⟩ := this
      have hle := Nat.le_of_dvd (by omega) hd
      have h0 : d ≠ 0 := by rintro rfl; have := Nat.eq_zero_of_zero_dvd hd; omega
      obtain ⟨s, hs, hsd⟩ := ih d (by omega) (by omega)
      exact ⟨s, hs, Nat.dvd_trans hsd hd⟩
theorem max_prm {n : Nat} (hn : 2 ≤ n) : ∃ r, Prm r ∧ r ∣ n ∧ ∀ s, Prm s → s ∣ n → s ≤ r := by
  have key : ∀ B, (∃ s, Prm s ∧ s ∣ n ∧ s ≤ B) → ∃ r, Prm r ∧ r ∣ n ∧ ∀ s, Prm s → s ∣ n → s ≤ B → s ≤ r := by
    intro B
    induction B with
    | zero => rintro ⟨s, hs, _, h⟩; have := hs.1; omega
    | succ B ih =>
      rintro ⟨s, hs, hd, h⟩
      by_cases hB : Prm (B + 1) ∧ (B + 1) ∣ n
      · exact ⟨B + 1, hB.1, hB.2, fun q _ _ h => h⟩
      · have hsB : s ≤ B := by
          rcases Nat.eq_or_lt_of_le h with e | e
          · subst e; exact absurd ⟨hs, hd⟩ hB
          · omega
        obtain ⟨r, h1, h2, h3⟩ := ih ⟨s, hs, hd, hsB⟩
        refine ⟨r, h1, h2, fun q hq hqd hqB => ?_⟩
        rcases Nat.eq_or_lt_of_le hqB with e | e
        · subst e; exact absurd ⟨hq, hqd⟩ hB
        · exact h3 q hq hqd (by omega)
  obtain ⟨s, hs, hd⟩ := ex_prm n hn
  obtain ⟨r, h1, h2, h3⟩ := key n ⟨s, hs, hd, Nat.le_of_dvd (by omega) hd⟩
  exact ⟨r, h1, h2, fun q hq hqd => h3 q hq hqd (Nat.le_of_dvd (by omega) hqd)⟩
/-- A composite number that passes. -/
structure Psp (n : Nat) : Prop where
  two : 2 < n
  le : n ≤ 1073741824
  np : ¬ Prm n
  co : ∀ b, b = 2 ∨ b = 3 ∨ b = 5 ∨ b = 7 → ¬ b ∣ n
  fer : ∀ b, b = 2 ∨ b = 3 ∨ b = 5 ∨ b = 7 → pw n b (n - 1) = 1
  bad : bad2 n = true
theorem pw_dvd {m d b e : Nat} (h : d ∣ m) (hd : 1 < d) (h1 : pw m b e = 1) : pw d b e = 1 := by
  unfold pw at *
  rw [← Nat.mod_mod_of_dvd _ h, h1, Nat.mod_eq_of_lt hd]
/-- All four bases to a power are 1. -/
def All1 (r e : Nat) : Prop := ∀ b, b = 2 ∨ b = 3 ∨ b = 5 ∨ b = 7 → pw r b e = 1
theorem Psp.ge11 {n r : Nat} (h : Psp n) (hr : Prm r) (hd : r ∣ n) : 11 ≤ r := by
  have h2 := hr.1
  apply Classical.byContradiction
  intro hlt
  have : r = 2 ∨ r = 3 ∨ r = 5 ∨ r = 7 ∨ r = 4 ∨ r = 6 ∨ r = 8 ∨ r = 9 ∨ r = 10 := by omega
  rcases this with e | e | e | e | e | e | e | e | e
  · exact h.co r (.inl e) hd
  · exact h.co r (.inr (.inl e)) hd
  · exact h.co r (.inr (.inr (.inl e))) hd
  · exact h.co r (.inr (.inr (.inr e))) hd
  all_goals subst e; exfalso
  · rcases hr.2 2 ⟨2, rfl⟩ with h | h <;> omega
  · rcases hr.2 2 ⟨3, rfl⟩ with h | h <;> omega
  · rcases hr.2 2 ⟨4, rfl⟩ with h | h <;> omega
  · rcases hr.2 3 ⟨3, rfl⟩ with h | h <;> omega
  · rcases hr.2 2 ⟨5, rfl⟩ with h | h <;> omega
/-- What is left behind a prime factor. -/
theorem Psp.cof {n r k : Nat} (h : Psp n) (hr : Prm r) (hk : n = r * k) : All1 r (k - 1) ∧ 11 ≤ k := by
  have hd : r ∣ n := ⟨k, hk⟩
  have h11 := h.ge11 hr hd
  have h2 := h.two
  have hk1 : 2 ≤ k := by
    rcases Nat.lt_or_ge k 2 with h0 | h0
    · exfalso
      rcases (show k = 0 ∨ k = 1 by omega) with rfl | rfl
      · omega
      · rw [Nat.mul_one] at hk; exact h.np (by rw [hk]; exact hr)
    · exact h0
  refine ⟨fun b hb => ?_, ?_⟩
  · have h3 := pw_dvd hd (by omega) (h.fer b hb)
    have hnb : ¬ r ∣ b := fun h => by have := Nat.le_of_dvd (by omega) h; omega
    have hf := fermat1 hr hnb
    have e : n - 1 = (k - 1) + (r - 1) * k := by
      obtain ⟨q, rfl⟩ : ∃ q, r = q + 1 := ⟨r - 1, by omega⟩
      rw [hk, Nat.add_sub_cancel, Nat.add_mul]; omega
    rw [e] at h3
    have h4 : pw r b ((r - 1) * k) = 1 := by
      rw [← pw_pw]
      show pw r (b ^ (r - 1) % r) k = 1
      rw [hf, pw_one, Nat.mod_eq_of_lt (by omega)]
    rw [← pw_add, h4, Nat.mul_one] at h3
    have := pw_lt (m := r) (by omega) b (k - 1)
    rwa [Nat.mod_eq_of_lt this] at h3
  · obtain ⟨s, hs, hsk⟩ := ex_prm k hk1
    have := h.ge11 hs (by rw [hk]; exact Nat.dvd_trans hsk ⟨r, Nat.mul_comm _ _⟩)
    have := Nat.le_of_dvd (by omega) hsk
    omega
end Go.Proofs.YtmneokkdkgflkaaDoor.Num
