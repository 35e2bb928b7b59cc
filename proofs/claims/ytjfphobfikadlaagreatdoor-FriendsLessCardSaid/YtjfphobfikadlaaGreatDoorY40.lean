/- The orders of the bases modulo a prime, and what a composite number that passes leaves behind a prime factor from 182 to 32768. No program stands in it. What a composite number that passes leaves behind a prime factor above 32768: the great factor divides b to the power of what is left less 1, for all four bases. No program stands in it. Composite numbers that pass and whose prime factors are all small: a search through the products. No program stands in it. -/
import Derived.Test.YtjfphobfikadlaaGreatDoorY39
import Derived.KernelRfl
set_option linter.unusedVariables false
set_option linter.unusedSimpArgs false
namespace Go.Proofs.YtjfphobfikadlaaGreatDoor.Num

def qs : List Nat := [2, 3, 5, 7, 11, 13, 17, 19, 23, 29, 31, 37, 41, 43, 47, 53, 59, 61, 67, 71, 73, 79, 83, 89, 97, 101, 103, 107, 109, 113, 127, 131, 137, 139, 149, 151, 157, 163, 167, 173, 179, 181]
def Qs : Nat := 5397346292805549782720214077673687806275517530364350655459511599582614290
def qbl : List Nat := [2, 2, 2, 2, 2, 2, 2, 2, 2, 2, 2, 2, 2, 2, 2, 2, 3, 3, 3, 3, 3, 3, 3, 3, 3, 3, 5, 5, 5, 5, 5, 5, 7, 7, 7, 7, 7, 11, 11, 11, 11, 13, 13, 13, 13, 17, 17, 17, 19, 19, 19, 23, 23, 23, 29, 29, 29, 31, 31, 31, 37, 37, 37, 41, 41, 43, 43, 47, 47, 53, 53, 59, 59, 61, 61, 67, 67, 71, 71, 73, 73, 79, 79, 83, 83, 89, 89, 97, 97, 101, 101, 103, 103, 107, 107, 109, 109, 113, 113, 127, 127, 131, 131, 137, 137, 139, 139, 149, 149, 151, 151, 157, 157, 163, 163, 167, 167, 173, 173, 179, 179, 181, 181]
def Qb : Nat := 3392255302209131174924498558057651086658161622476868020167030478453428218860497729607752733005017019467813584928815738287672031643952721463126188705941623987540775936000000
def prodL (l : List Nat) : Nat := l.foldr (· * ·) 1
theorem prm_prod {q : Nat} (hq : Prm q) : ∀ l : List Nat, q ∣ prodL l → ∃ a ∈ l, q ∣ a := by
  intro l
  induction l with
  | nil => intro h; have := Nat.le_of_dvd (by decide) h; have := hq.1; change q ≤ 1 at *; omega
  | cons a l ih =>
    intro h
    rcases prm_dvd hq (show q ∣ a * prodL l from h) with h | h
    · exact ⟨a, by simp, h⟩
    · obtain ⟨b, hb, hd⟩ := ih h; exact ⟨b, by simp [hb], hd⟩
theorem Qs_prod : prodL qs = Qs := by decide +kernel
theorem Qb_prod : prodL qbl = Qb := by decide +kernel
theorem qs_le : ∀ a ∈ qs, 0 < a ∧ a ≤ 181 := by decide +kernel
theorem qbl_le : ∀ a ∈ qbl, 0 < a ∧ a ≤ 181 := by decide +kernel
theorem qs_dvd : ∀ a ∈ qs, Qs % a = 0 := by decide +kernel
theorem qs_all : ((List.range 182).all fun q => qs.contains q || decide (q < 2) || (List.range 14).any fun d => decide (2 ≤ d) && decide (d < q) && q % d == 0) = true := by decide +kernel
theorem qs_mem {q : Nat} (hq : Prm q) (h : q ≤ 181) : q ∈ qs := by
  have := List.all_eq_true.1 qs_all q (List.mem_range.2 (by omega))
  simp only [Bool.or_eq_true, decide_eq_true_eq, List.any_eq_true, Bool.and_eq_true, beq_iff_eq] at this
  rcases this with (h1 | h1) | ⟨d, _, ⟨h2, h3⟩, h4⟩
  · simpa using h1
  · have := hq.1; omega
  · rcases hq.2 d (Nat.dvd_of_mod_eq_zero h4) with e | e <;> omega
theorem big_Q {q : Nat} (hq : Prm q) (h : 181 < q) : ¬ q ∣ Qs := fun hd => by
  rw [← Qs_prod] at hd
  obtain ⟨a, ha, had⟩ := prm_prod hq qs hd
  have := qs_le a ha
  have := Nat.le_of_dvd this.1 had
  omega
theorem big_Qb {q : Nat} (hq : Prm q) (h : 181 < q) : ¬ q ∣ Qb := fun hd => by
  rw [← Qb_prod] at hd
  obtain ⟨a, ha, had⟩ := prm_prod hq qbl hd
  have := qbl_le a ha
  have := Nat.le_of_dvd this.1 had
  omega
def alle (r e : Nat) : Bool := bif Nat.beq (p6 r 2 e) 1 then (bif Nat.beq (p6 r 3 e) 1 then (bif Nat.beq (p6 r 5 e) 1 then Nat.beq (p6 r 7 e) 1 else false) else false) else false
theorem alle_iff {r e : Nat} : alle r e = true ↔ All1 r e := by
  have key : ∀ b, (Nat.beq (p6 r b e) 1 = true) ↔ pw r b e = 1 := fun b => by rw [nbeq, p6_pw]
  unfold alle
  constructor
  · intro h
    cases h2 : Nat.beq (p6 r 2 e) 1 <;> cases h3 : Nat.beq (p6 r 3 e) 1 <;> cases h5 : Nat.beq (p6 r 5 e) 1 <;> cases h7 : Nat.beq (p6 r 7 e) 1 <;> rw [h2, h3, h5, h7] at h <;> first | (cases h; done) | skip
    rintro b (rfl | rfl | rfl | rfl)
    · exact (key 2).1 h2
    · exact (key 3).1 h3
    · exact (key 5).1 h5
    · exact (key 7).1 h7
  · intro h
    rw [(key 2).2 (h 2 (.inl rfl)), (key 3).2 (h 3 (.inr (.inl rfl))), (key 5).2 (h 5 (.inr (.inr (.inl rfl)))), (key 7).2 (h 7 (.inr (.inr (.inr rfl))))]
    rfl
noncomputable def okq (r L : Nat) (l : List Nat) : Bool :=
  List.rec true (fun q _ ih => bif (bif Nat.beq (Nat.mod L q) 0 then alle r (Nat.div L q) else false) then false else ih) l
theorem okq_spec {r L : Nat} : ∀ l : List Nat, okq r L l = true → ∀ q ∈ l, L % q = 0 → ¬ All1 r (L / q) := by
  intro l
  induction l with
  | nil => intro _ q hq; cases hq
  | cons a l ih =>
    intro h q hq hm
    change (bif (bif Nat.beq (Nat.mod L a) 0 then alle r (Nat.div L a) else false) then false else okq r L l) = true at h
    cases hc : (bif Nat.beq (Nat.mod L a) 0 then alle r (Nat.div L a) else false) with
    | true => rw [hc] at h; cases h
    | false =>
      rw [hc] at h
      rcases List.mem_cons.1 hq with e | e
      · subst e
        intro hA
        rw [show Nat.beq (Nat.mod L q) 0 = true from nbeq.2 hm, show alle r (Nat.div L q) = true from alle_iff.2 hA] at hc
        cases hc
      · exact ih h q e hm
def cof (L : Nat) : Nat := Nat.div L (Nat.gcd L Qb)
noncomputable def okL (r L : Nat) : Bool := bif alle r L then (bif okq r L qs then (bif Nat.beq (Nat.gcd (cof L) Qs) 1 then (bif Nat.beq (cof L) 1 then true else bif alle r (Nat.div L (cof L)) then false else true) else false) else false) else false
/-- A common period of the bases is a multiple of what has been checked. -/
theorem okL_spec {r L : Nat} (h : okL r L = true) (hr : 1 < r) (h0 : 0 < L) (hL : L < 32768) {e : Nat} (he : All1 r e) : L ∣ e := by
  unfold okL at h
  cases hA : alle r L with
  | false => rw [hA] at h; cases h
  | true =>
  rw [hA] at h
  cases hB : okq r L qs with
  | false => rw [hB] at h; cases h
  | true =>
  rw [hB] at h
  cases hC : Nat.beq (Nat.gcd (cof L) Qs) 1 with
  | false => rw [hC] at h; cases h
  | true =>
  rw [hC] at h
  change (bif Nat.beq (cof L) 1 then true else bif alle r (Nat.div L (cof L)) then false else true) = true at h
  have hAL := alle_iff.1 hA
  apply Classical.byContradiction
  intro hne
  have hg : All1 r (Nat.gcd e L) := fun b hb => pw_gcd hr e L (he b hb) (hAL b hb)
  have hge := Nat.gcd_dvd_left e L
  obtain ⟨t, ht⟩ := Nat.gcd_dvd_right e L
  generalize Nat.gcd e L = g at *
  have ht2 : 2 ≤ t := by
    rcases Nat.lt_or_ge t 2 with h1 | h1
    · exfalso
      rcases (show t = 0 ∨ t = 1 by omega) with rfl | rfl
      · omega
      · rw [Nat.mul_one] at ht; exact hne (by rw [ht]; exact hge)
    · exact h1
  obtain ⟨q, hq, t', hqt⟩ := ex_prm t ht2
  have hLq : L = q * (g * t') := by rw [ht, hqt, Nat.mul_left_comm]
  have hdiv : L / q = g * t' := by rw [hLq]; exact Nat.mul_div_cancel_left _ (by have := hq.1; omega)
  have hA1 : All1 r (g * t') := fun b hb => by
    rw [← pw_pw, hg b hb, pw_one, Nat.mod_eq_of_lt hr]
  have hqL : q ∣ L := ⟨_, hLq⟩
  rcases Nat.lt_or_ge 181 q with hbig | hsm
  · obtain ⟨c, hc⟩ := Nat.gcd_dvd_left L Qb
    have hg0 : 0 < Nat.gcd L Qb := Nat.gcd_pos_of_pos_left _ h0
    have hcof : cof L = c := by
      show L / Nat.gcd L Qb = c
      conv => lhs; arg 1; rw [hc]
      exact Nat.mul_div_cancel_left _ hg0
    have hqc : q ∣ c := by
      have h1 := hqL
      rw [hc] at h1
      rcases prm_dvd hq h1 with h2 | h2
      · exact absurd (Nat.dvd_trans h2 (Nat.gcd_dvd_right L Qb)) (big_Qb hq hbig)
      · exact h2
    obtain ⟨c', hc'⟩ := hqc
    have hcL : c ≤ L := Nat.le_of_dvd h0 ⟨_, by rw [Nat.mul_comm]; exact hc⟩
    have hc1 : c' = 1 := by
      apply Classical.byContradiction
      intro hn1
      have hc0 : c' ≠ 0 := by
        rintro rfl
        rw [Nat.mul_zero] at hc'
        rw [hc', Nat.mul_zero] at hc
        omega
      have hlt : c' < 181 := by
        apply Classical.byContradiction
        intro hge
        have : 182 * 181 ≤ q * c' := Nat.mul_le_mul (by omega) (by omega)
        omega
      obtain ⟨s, hs, hsc⟩ := ex_prm c' (by omega)
      have hs1 := Nat.le_of_dvd (by omega) hsc
      have hsQ : s ∣ Qs := Nat.dvd_of_mod_eq_zero (qs_dvd s (qs_mem hs (by omega)))
      have hsc2 : s ∣ c := by rw [hc']; exact Nat.dvd_trans hsc ⟨q, Nat.mul_comm _ _⟩
      have := Nat.dvd_gcd hsc2 hsQ
      rw [← hcof, nbeq.1 hC] at this
      have := Nat.le_of_dvd (by decide) this
      have := hs.1
      omega
    rw [hc1, Nat.mul_one] at hc'
    rw [hcof, hc'] at h
    rw [nbeq_f (by have := hq.1; omega : q ≠ 1), show Nat.div L q = g * t' from hdiv, alle_iff.2 hA1] at h
    cases h
  · exact okq_spec qs hB q (qs_mem hq hsm) (Nat.mod_eq_zero_of_dvd hqL) (by rw [hdiv]; exact hA1)
/-! ### One prime factor that is great -/
noncomputable def badrk (r k : Nat) : Bool := bif Nat.beq (Nat.gcd k 105) 1 then bad2 (Nat.mul r k) else false
noncomputable def one (r L c : Nat) : Bool := Nat.rec true (fun i ih => bif badrk r (Nat.add 1 (Nat.mul (Nat.succ i) L)) then false else ih) c
theorem one_spec {r L : Nat} : ∀ c, one r L c = true → ∀ i, i < c → badrk r (1 + (i + 1) * L) = false := by
  intro c
  induction c with
  | zero => intro _ i hi; omega
  | succ c ih =>
    intro h i hi
    change (bif badrk r (Nat.add 1 (Nat.mul (Nat.succ c) L)) then false else one r L c) = true at h
    cases hb : badrk r (Nat.add 1 (Nat.mul (Nat.succ c) L)) with
    | true => rw [hb] at h; cases h
    | false =>
      rw [hb] at h
      rcases Nat.eq_or_lt_of_le (Nat.le_of_lt_succ hi) with e | e
      · subst e; exact hb
      · exact ih h i e
theorem Psp.gcd105 {n k : Nat} (h : Psp n) (hk : k ∣ n) : Nat.gcd k 105 = 1 := by
  apply Classical.byContradiction
  intro hne
  have h0 : 0 < Nat.gcd k 105 := Nat.gcd_pos_of_pos_right _ (by decide)
  obtain ⟨s, hs, hsd⟩ := ex_prm (Nat.gcd k 105) (by omega)
  have h1 := h.ge11 hs (Nat.dvd_trans (Nat.dvd_trans hsd (Nat.gcd_dvd_left _ _)) hk)
  have h2 : s ∣ 3 * (5 * 7) := Nat.dvd_trans hsd (Nat.gcd_dvd_right k 105)
  rcases prm_dvd hs h2 with h3 | h3
  · have := Nat.le_of_dvd (by decide) h3; omega
  · rcases prm_dvd hs h3 with h4 | h4
    · have := Nat.le_of_dvd (by decide) h4; omega
    · have := Nat.le_of_dvd (by decide) h4; omega
theorem Psp.isbad {n r k : Nat} (h : Psp n) (hk : n = r * k) : badrk r k = true := by
  unfold badrk
  rw [h.gcd105 ⟨r, by rw [hk, Nat.mul_comm]⟩, show Nat.beq 1 1 = true from rfl, show Nat.mul r k = n from hk.symm]
  exact h.bad
noncomputable def lvL (r L : Nat) : Bool := bif okL r L then one r L (Nat.div (Nat.sub (Nat.div 1073741824 r) 1) L) else false
theorem lvL_spec {r L n : Nat} (h : lvL r L = true) (hp : Psp n) (hr : Prm r) (hd : r ∣ n) (h0 : 0 < L) (hL : L < 32768) : False := by
  unfold lvL at h
  cases hk : okL r L with
  | false => rw [hk] at h; cases h
  | true =>
  rw [hk] at h
  obtain ⟨k, hnk⟩ := hd
  obtain ⟨h1, h2⟩ := hp.cof hr hnk
  have hr2 := hr.1
  obtain ⟨j, hj⟩ := okL_spec hk (by omega) h0 hL h1
  have hkN : k ≤ 1073741824 / r := by
    rw [Nat.le_div_iff_mul_le (by omega), Nat.mul_comm, ← hnk]; exact hp.le
  have hj0 : j ≠ 0 := by rintro rfl; rw [Nat.mul_zero] at hj; omega
  have hjc : j ≤ Nat.div (Nat.sub (Nat.div 1073741824 r) 1) L := by
    show j ≤ (1073741824 / r - 1) / L
    rw [Nat.le_div_iff_mul_le h0, Nat.mul_comm]; omega
  have hb := one_spec _ h (j - 1) (by omega)
  rw [show 1 + (j - 1 + 1) * L = k by rw [show j - 1 + 1 = j by omega, Nat.mul_comm]; omega, hp.isbad hnk] at hb
  cases hb
noncomputable def lv (r : Nat) : Bool := bif Nat.beq (Nat.gcd r Qs) 1 then (bif lvL r (Nat.sub r 1) then true else bif lvL r (Nat.div (Nat.sub r 1) 2) then true else bif lvL r (Nat.div (Nat.sub r 1) 3) then true else lvL r (Nat.div (Nat.sub r 1) 4)) else true
theorem lv_spec {r n : Nat} (h : lv r = true) (hp : Psp n) (hr : Prm r) (hd : r ∣ n) (h1 : 181 < r) (h2 : r < 32768) : False := by
  have hg : Nat.gcd r Qs = 1 := by
    rcases hr.2 _ (Nat.gcd_dvd_left r Qs) with e | e
    · exact e
    · exact absurd (by rw [← e]; exact Nat.gcd_dvd_right r Qs : r ∣ Qs) (big_Q hr h1)
  unfold lv at h
  rw [hg] at h
  change (bif lvL r (Nat.sub r 1) then true else bif lvL r (Nat.div (Nat.sub r 1) 2) then true else bif lvL r (Nat.div (Nat.sub r 1) 3) then true else lvL r (Nat.div (Nat.sub r 1) 4)) = true at h
  have key : ∀ L, L ≤ r - 1 → 0 < L → lvL r L = false := fun L hl h0 => by
    cases hb : lvL r L with
    | false => rfl
    | true => exact (lvL_spec hb hp hr hd h0 (by omega)).elim
  rw [key (Nat.sub r 1) (Nat.le_refl _) (by show 0 < r - 1; omega), key (Nat.div (Nat.sub r 1) 2) (Nat.div_le_self _ _) (by show 0 < (r - 1) / 2; omega), key (Nat.div (Nat.sub r 1) 3) (Nat.div_le_self _ _) (by show 0 < (r - 1) / 3; omega), key (Nat.div (Nat.sub r 1) 4) (Nat.div_le_self _ _) (by show 0 < (r - 1) / 4; omega)] at h
  cases h
noncomputable def lvs (r0 c : Nat) : Bool := Nat.rec true (fun i ih => bif lv (Nat.add r0 (Nat.mul 2 i)) then ih else false) c
theorem lvs_spec {r0 : Nat} : ∀ c, lvs r0 c = true → ∀ i, i < c → lv (r0 + 2 * i) = true := by
  intro c
  induction c with
  | zero => intro _ i hi; omega
  | succ c ih =>
    intro h i hi
    change (bif lv (Nat.add r0 (Nat.mul 2 c)) then lvs r0 c else false) = true at h
    cases hb : lv (Nat.add r0 (Nat.mul 2 c)) with
    | false => rw [hb] at h; cases h
    | true =>
      rw [hb] at h
      rcases Nat.eq_or_lt_of_le (Nat.le_of_lt_succ hi) with e | e
      · subst e; exact hb
      · exact ih h i e
end Go.Proofs.YtjfphobfikadlaaGreatDoor.Num
namespace Go.Proofs.YtjfphobfikadlaaGreatDoor.Num

noncomputable def frc (n : Nat) (f : Nat → Bool) : Bool := Nat.rec (f 0) (fun m _ => f (Nat.succ m)) n
theorem frc_eq (n : Nat) (f : Nat → Bool) : frc n f = f n := by cases n <;> rfl
noncomputable def Mrec (n : Nat) : Nat := Nat.rec Qs (fun i ih => bif Nat.beq (Nat.gcd (Nat.succ i) Qs) 1 then Nat.mul (Nat.succ i) ih else ih) n
theorem Mrec_spec {r : Nat} (hr : Prm r) (h : 181 < r) : ∀ n, n < r → ¬ r ∣ Mrec n := by
  intro n
  induction n with
  | zero => intro _; exact big_Q hr h
  | succ n ih =>
    intro hn
    change ¬ r ∣ (bif Nat.beq (Nat.gcd (Nat.succ n) Qs) 1 then Nat.mul (Nat.succ n) (Mrec n) else Mrec n)
    cases Nat.beq (Nat.gcd (Nat.succ n) Qs) 1 with
    | false => exact ih (by omega)
    | true =>
      intro hd
      rcases prm_dvd hr (show r ∣ (n + 1) * Mrec n from hd) with h1 | h1
      · have := Nat.le_of_dvd (by omega) h1; omega
      · exact ih (by omega) h1
def strip (M G : Nat) : Nat := Nat.div G (Nat.gcd G M)
theorem strip_spec {r M G : Nat} (hr : Prm r) (hM : ¬ r ∣ M) (h0 : 0 < G) (h : r ∣ G) : r ∣ strip M G ∧ 0 < strip M G := by
  obtain ⟨c, hc⟩ := Nat.gcd_dvd_left G M
  have hg0 : 0 < Nat.gcd G M := Nat.gcd_pos_of_pos_left _ h0
  have e : strip M G = c := by
    show G / Nat.gcd G M = c
    conv => lhs; arg 1; rw [hc]
    exact Nat.mul_div_cancel_left _ hg0
  rw [e]
  have hc0 : 0 < c := by
    rcases Nat.eq_zero_or_pos c with h1 | h1
    · rw [h1, Nat.mul_zero] at hc; omega
    · exact h1
  refine ⟨?_, hc0⟩
  rw [hc] at h
  rcases prm_dvd hr h with h1 | h1
  · exact absurd (Nat.dvd_trans h1 (Nat.gcd_dvd_right G M)) hM
  · exact h1
noncomputable def fin_ (k R c : Nat) : Bool := Nat.rec true (fun i ih => bif Nat.beq (Nat.mod R (Nat.succ i)) 0 then (bif bad2 (Nat.mul k (Nat.div R (Nat.succ i))) then false else ih) else ih) c
theorem fin_spec {k R : Nat} : ∀ c, fin_ k R c = true → ∀ i, i < c → R % (i + 1) = 0 → bad2 (k * (R / (i + 1))) = false := by
  intro c
  induction c with
  | zero => intro _ i hi; omega
  | succ c ih =>
    intro h i hi hm
    change (bif Nat.beq (Nat.mod R (Nat.succ c)) 0 then (bif bad2 (Nat.mul k (Nat.div R (Nat.succ c))) then false else fin_ k R c) else fin_ k R c) = true at h
    rcases Nat.eq_or_lt_of_le (Nat.le_of_lt_succ hi) with e | e
    · subst e
      rw [show Nat.beq (Nat.mod R (Nat.succ i)) 0 = true from nbeq.2 hm] at h
      cases hb : bad2 (k * (R / (i + 1))) with
      | false => rfl
      | true => rw [show bad2 (Nat.mul k (Nat.div R (Nat.succ i))) = true from hb] at h; cases h
    · refine ih ?_ i e hm
      cases h1 : Nat.beq (Nat.mod R (Nat.succ c)) 0 with
      | false => rw [h1] at h; exact h
      | true =>
        rw [h1] at h
        cases h2 : bad2 (Nat.mul k (Nat.div R (Nat.succ c))) with
        | true => rw [h2] at h; cases h
        | false => rw [h2] at h; exact h
noncomputable def chain (M k : Nat) (f : Nat) : Nat → Bool := Nat.rec (fun G => fin_ k G (Nat.div G 32768)) (fun _ ih G => frc (strip M G) ih) f
theorem chain_spec {M k r : Nat} (hr : Prm r) (hM : ¬ r ∣ M) (h1 : 32768 < r) : ∀ f G, chain M k f G = true → 0 < G → r ∣ G → bad2 (k * r) = false := by
  intro f
  induction f with
  | zero =>
    intro G h h0 hd
    obtain ⟨s, hs⟩ := hd
    have hs0 : s ≠ 0 := by rintro rfl; rw [Nat.mul_zero] at hs; omega
    have hle : s ≤ Nat.div G 32768 := by
      show s ≤ G / 32768
      rw [Nat.le_div_iff_mul_le (by decide), hs, Nat.mul_comm]
      exact Nat.mul_le_mul (by omega) (Nat.le_refl _)
    have := fin_spec (k := k) (R := G) _ h (s - 1) (by omega) (by rw [show s - 1 + 1 = s by omega, hs]; exact Nat.mul_mod_left _ _)
    rw [show s - 1 + 1 = s by omega, hs, Nat.mul_div_cancel _ (by omega)] at this
    exact this
  | succ f ih =>
    intro G h h0 hd
    change frc (strip M G) (chain M k f) = true at h
    rw [frc_eq] at h
    obtain ⟨h2, h3⟩ := strip_spec hr hM h0 hd
    exact ih _ h h3 h2
def Gk (e : Nat) : Nat := Nat.gcd (Nat.gcd (Nat.sub (Nat.pow 2 e) 1) (Nat.sub (Nat.pow 3 e) 1)) (Nat.gcd (Nat.sub (Nat.pow 5 e) 1) (Nat.sub (Nat.pow 7 e) 1))
theorem dvd_pow1 {r b e : Nat} (hr : 1 < r) (h : pw r b e = 1) : r ∣ b ^ e - 1 := by
  apply Nat.dvd_of_mod_eq_zero
  apply Nat.sub_mod_eq_zero_of_mod_eq
  unfold pw at h
  rw [h, Nat.mod_eq_of_lt hr]
noncomputable def chkA (M k : Nat) : Bool := frc (Gk (Nat.sub k 1)) (chain M k 5)
theorem chkA_spec {M k r : Nat} (h : chkA M k = true) (hr : Prm r) (hM : ¬ r ∣ M) (h1 : 32768 < r) (hk : 2 ≤ k) (hA : All1 r (k - 1)) : bad2 (k * r) = false := by
  unfold chkA at h
  rw [frc_eq] at h
  have hr1 : 1 < r := by omega
  refine chain_spec hr hM h1 5 _ h ?_ ?_
  · have h2 : 0 < Nat.sub (Nat.pow 2 (Nat.sub k 1)) 1 := by
      show 0 < 2 ^ (k - 1) - 1
      have : 2 ^ 1 ≤ 2 ^ (k - 1) := Nat.pow_le_pow_right (by decide) (by omega)
      omega
    exact Nat.gcd_pos_of_pos_left _ (Nat.gcd_pos_of_pos_left _ h2)
  · exact Nat.dvd_gcd (Nat.dvd_gcd (dvd_pow1 hr1 (hA 2 (.inl rfl))) (dvd_pow1 hr1 (hA 3 (.inr (.inl rfl))))) (Nat.dvd_gcd (dvd_pow1 hr1 (hA 5 (.inr (.inr (.inl rfl))))) (dvd_pow1 hr1 (hA 7 (.inr (.inr (.inr rfl))))))
noncomputable def chks (k0 c M : Nat) : Bool := Nat.rec true (fun i ih => bif Nat.beq (Nat.gcd (Nat.add k0 (Nat.mul 2 i)) 105) 1 then (bif chkA M (Nat.add k0 (Nat.mul 2 i)) then ih else false) else ih) c
theorem chks_spec {k0 M : Nat} : ∀ c, chks k0 c M = true → ∀ i, i < c → Nat.gcd (k0 + 2 * i) 105 = 1 → chkA M (k0 + 2 * i) = true := by
  intro c
  induction c with
  | zero => intro _ i hi; omega
  | succ c ih =>
    intro h i hi hg
    change (bif Nat.beq (Nat.gcd (Nat.add k0 (Nat.mul 2 c)) 105) 1 then (bif chkA M (Nat.add k0 (Nat.mul 2 c)) then chks k0 c M else false) else chks k0 c M) = true at h
    rcases Nat.eq_or_lt_of_le (Nat.le_of_lt_succ hi) with e | e
    · subst e
      rw [show Nat.beq (Nat.gcd (Nat.add k0 (Nat.mul 2 i)) 105) 1 = true from nbeq.2 hg] at h
      cases hb : chkA M (k0 + 2 * i) with
      | true => rfl
      | false => rw [show chkA M (Nat.add k0 (Nat.mul 2 i)) = false from hb] at h; cases h
    · refine ih ?_ i e hg
      cases h1 : Nat.beq (Nat.gcd (Nat.add k0 (Nat.mul 2 c)) 105) 1 with
      | false => rw [h1] at h; exact h
      | true =>
        rw [h1] at h
        cases h2 : chkA M (Nat.add k0 (Nat.mul 2 c)) with
        | false => rw [h2] at h; cases h
        | true => rw [h2] at h; exact h
/-- No prime factor is above 32768. -/
theorem no_great {n r : Nat} (hall : ∀ k, 11 ≤ k → k < 32768 → k % 2 = 1 → Nat.gcd k 105 = 1 → chkA (Mrec 32768) k = true) (hp : Psp n) (hr : Prm r) (hd : r ∣ n) (h1 : 32768 < r) : False := by
  obtain ⟨k, hk⟩ := hd
  obtain ⟨h2, h3⟩ := hp.cof hr hk
  have hkN : k < 32768 := by
    apply Classical.byContradiction
    intro h
    have : 32769 * 32768 ≤ r * k := Nat.mul_le_mul (by omega) (by omega)
    have := hp.le
    omega
  have hodd : k % 2 = 1 := by
    rcases Nat.mod_two_eq_zero_or_one k with h | h
    · exact absurd (Nat.dvd_trans (Nat.dvd_of_mod_eq_zero h) ⟨r, by rw [hk, Nat.mul_comm]⟩) (hp.co 2 (.inl rfl))
    · exact h
  have hc := hall k h3 hkN hodd (hp.gcd105 ⟨r, by rw [hk, Nat.mul_comm]⟩)
  have := chkA_spec hc hr (Mrec_spec hr (by omega) 32768 h1) h1 (by omega) h2
  rw [Nat.mul_comm, ← hk, hp.bad] at this
  cases this
end Go.Proofs.YtjfphobfikadlaaGreatDoor.Num
namespace Go.Proofs.YtjfphobfikadlaaGreatDoor.Num

noncomputable def frcN (n : Nat) (f : Nat → Nat) : Nat := Nat.rec (f 0) (fun m _ => f (Nat.succ m)) n
/-- The inverse modulo m, by Euclid; what it gives is checked where it is used. -/
noncomputable def invE (f : Nat) : Nat → Nat → Nat → Nat → Nat :=
  Nat.rec (fun _ _ _ t1 => t1) (fun _ ih r0 r1 t0 t1 => bif Nat.ble r1 1 then t1 else frcN (Nat.mod r0 r1) fun r2 => frcN (Nat.add t0 (Nat.mul (Nat.div r0 r1) t1)) fun t2 => ih r1 r2 t1 t2) f
noncomputable def uniq (P lam : Nat) : Bool :=
  frc (invE 60 lam (Nat.mod P lam) 0 1) fun y => frc (bif Nat.beq (Nat.mod (Nat.mul P y) lam) 1 then y else Nat.sub lam y) fun x => bif Nat.ble (Nat.mul P x) 1073741824 then (bif Nat.blt x lam then (bif Nat.beq (Nat.mod (Nat.mul P x) lam) 1 then (bif bad2 (Nat.mul P x) then false else true) else false) else false) else (bif Nat.blt x lam then Nat.beq (Nat.mod (Nat.mul P x) lam) 1 else false)
noncomputable def dfs (f : Nat) : Nat → Nat → Nat → List (Nat × Nat) → Bool :=
  Nat.rec (fun _ _ _ _ => false) (fun _ ih c P lam l =>
    List.rec (bif Nat.ble c 1 then true else bif Nat.beq (Nat.mod (Nat.sub P 1) lam) 0 then (bif bad2 P then false else true) else true)
      (fun h t _ => bif Nat.ble (Nat.mul P h.1) 1073741824 then
          (bif (frc (Nat.mul P h.1) fun P' => frc (Nat.lcm lam h.2) fun lam' =>
            bif Nat.beq (Nat.gcd P' lam') 1 then (bif Nat.blt (Nat.div 1073741824 P') lam' then uniq P' lam' else ih (Nat.succ c) P' lam' (h :: t)) else true) then ih c P lam t else false)
        else ih c P lam t) l) f
theorem dfs_nil (f c P lam : Nat) : dfs (f + 1) c P lam [] = (bif Nat.ble c 1 then true else bif Nat.beq (Nat.mod (Nat.sub P 1) lam) 0 then (bif bad2 P then false else true) else true) := rfl
theorem dfs_cons (f c P lam : Nat) (h : Nat × Nat) (t : List (Nat × Nat)) : dfs (f + 1) c P lam (h :: t) = (bif Nat.ble (Nat.mul P h.1) 1073741824 then
          (bif (frc (Nat.mul P h.1) fun P' => frc (Nat.lcm lam h.2) fun lam' =>
            bif Nat.beq (Nat.gcd P' lam') 1 then (bif Nat.blt (Nat.div 1073741824 P') lam' then uniq P' lam' else dfs f (Nat.succ c) P' lam' (h :: t)) else true) then dfs f c P lam t else false)
        else dfs f c P lam t) := rfl
theorem uniq_spec {n P lam m : Nat} (h : uniq P lam = true) (hp : Psp n) (hn : n = P * m) (hl : lam ∣ n - 1) (hm : m < lam) : False := by
  unfold uniq at h
  rw [frc_eq, frc_eq] at h
  generalize (bif Nat.beq (Nat.mod (Nat.mul P (invE 60 lam (Nat.mod P lam) 0 1)) lam) 1 then (invE 60 lam (Nat.mod P lam) 0 1) else Nat.sub lam (invE 60 lam (Nat.mod P lam) 0 1)) = x at h
  have h12 : Nat.blt x lam = true ∧ Nat.beq (Nat.mod (Nat.mul P x) lam) 1 = true := by
    cases h0 : Nat.ble (Nat.mul P x) 1073741824 <;> cases h1 : Nat.blt x lam <;> cases h2 : Nat.beq (Nat.mod (Nat.mul P x) lam) 1 <;> rw [h0, h1, h2] at h <;> first | (cases h; done) | exact ⟨rfl, rfl⟩
  obtain ⟨h1, h2⟩ := h12
  rw [h1, h2] at h
  have hx : x < lam := Nat.le_of_ble_eq_true h1
  have e1 : P * x % lam = 1 := nbeq.1 h2
  have hn2 := hp.two
  have e2 : P * m % lam = 1 % lam := by
    rw [← hn]
    obtain ⟨d, hd⟩ := hl
    rw [show n = lam * d + 1 by omega, Nat.mul_add_mod]
  have hlam1 : 1 < lam := by
    apply Classical.byContradiction
    intro hc
    rcases (show lam = 0 ∨ lam = 1 by omega) with e | e
    · subst e; omega
    · subst e; omega
  have hxm : x = m := by
    have h3 : (P * x * m) % lam = (P * m * x) % lam := by
      rw [Nat.mul_assoc, Nat.mul_comm x m, ← Nat.mul_assoc]
    rw [Nat.mul_mod, e1, Nat.mul_mod (P * m) x, e2, Nat.mod_eq_of_lt hlam1, Nat.one_mul, Nat.one_mul, Nat.mod_mod, Nat.mod_mod, Nat.mod_eq_of_lt hm, Nat.mod_eq_of_lt hx] at h3
    exact h3.symm
  subst hxm
  rw [show Nat.mul P x = n from hn.symm] at h
  rw [show Nat.ble n 1073741824 = true from Nat.ble_eq_true_of_le hp.le, hp.bad] at h
  cases h
theorem Psp.all1 {n r : Nat} (h : Psp n) (hr : Prm r) (hd : r ∣ n) : All1 r (n - 1) := fun b hb => pw_dvd hd (by have := hr.1; omega) (h.fer b hb)
structure TabOk (l : List (Nat × Nat)) : Prop where
  all : ∀ x ∈ l, Prm x.1 ∧ okL x.1 x.2 = true ∧ 0 < x.2 ∧ x.2 < 32768
theorem dfs_spec {n : Nat} (hp : Psp n) : ∀ f c P lam l, dfs f c P lam l = true → (c ≤ 1 → P = 1 ∨ Prm P) → (c = 0 → P = 1) → P ∣ n → lam ∣ n - 1 → 0 < lam → (∀ s, Prm s → s ∣ n / P → ∃ L, (s, L) ∈ l) → TabOk l → False := by
  intro f
  induction f with
  | zero => intro c P lam l h; cases h
  | succ f ih =>
    intro c P lam l h hc hc0 hP hlam hl0 hs ht
    have hn2 := hp.two
    obtain ⟨m, hm⟩ := hP
    have hP0 : 0 < P := by
      rcases Nat.eq_zero_or_pos P with e | e
      · rw [e, Nat.zero_mul] at hm; omega
      · exact e
    have hdiv : n / P = m := by rw [hm]; exact Nat.mul_div_cancel_left _ hP0
    rw [hdiv] at hs
    have hm0 : m ≠ 0 := by rintro rfl; rw [Nat.mul_zero] at hm; omega
    cases l with
    | nil =>
      rw [dfs_nil] at h
      have hm1 : m = 1 := by
        apply Classical.byContradiction
        intro hne
        obtain ⟨s, h1, h2⟩ := ex_prm m (by omega)
        obtain ⟨L, hL⟩ := hs s h1 h2
        cases hL
      rw [hm1, Nat.mul_one] at hm
      subst hm
      cases hcb : Nat.ble c 1 with
      | true =>
        rcases hc (Nat.le_of_ble_eq_true hcb) with e | e
        · omega
        · exact hp.np e
      | false =>
        rw [hcb] at h
        rw [show Nat.beq (Nat.mod (Nat.sub n 1) lam) 0 = true from nbeq.2 (Nat.mod_eq_zero_of_dvd hlam), hp.bad] at h
        cases h
    | cons x t =>
      obtain ⟨r, L⟩ := x
      obtain ⟨hr, hok, hL0, hL1⟩ := ht.all (r, L) (by simp)
      have ht' : TabOk t := ⟨fun y hy => ht.all y (by simp [hy])⟩
      have hrest : ¬ r ∣ m → ∀ s, Prm s → s ∣ n / P → ∃ L, (s, L) ∈ t := fun hnd s h1 h2 => by
        rw [hdiv] at h2
        obtain ⟨L', hL'⟩ := hs s h1 h2
        rcases List.mem_cons.1 hL' with e | e
        · injection e with e1 e2; subst e1; exact absurd h2 hnd
        · exact ⟨L', e⟩
      rw [dfs_cons] at h
      cases hb : Nat.ble (Nat.mul P r) 1073741824 with
      | false =>
        rw [show Nat.ble (Nat.mul P ((r, L) : Nat × Nat).1) 1073741824 = false from hb] at h
        refine ih c P lam t h hc hc0 ⟨m, hm⟩ hlam hl0 (hrest fun hd => ?_) ht'
        obtain ⟨m', hm'⟩ := hd
        have h1 : P * r ≤ n := Nat.le_of_dvd (by omega) ⟨m', by rw [hm, hm', Nat.mul_assoc]⟩
        have h2 := Nat.ble_eq_true_of_le (Nat.le_trans h1 hp.le)
        rw [show Nat.ble (P * r) 1073741824 = false from hb] at h2
        cases h2
      | true =>
        rw [show Nat.ble (Nat.mul P ((r, L) : Nat × Nat).1) 1073741824 = true from hb, frc_eq, frc_eq] at h
        by_cases hd : r ∣ m
        · obtain ⟨m', hm'⟩ := hd
          have hnP : n = P * r * m' := by rw [hm, hm', Nat.mul_assoc]
          have hrn : r ∣ n := ⟨P * m', by rw [hnP, Nat.mul_comm P r, Nat.mul_assoc]⟩
          have hLn := okL_spec hok (by have := hr.1; omega) hL0 hL1 (hp.all1 hr hrn)
          have hlm : Nat.lcm lam L ∣ n - 1 := Nat.lcm_dvd hlam hLn
          have hg : Nat.gcd (P * r) (Nat.lcm lam L) = 1 := by
            apply Classical.byContradiction
            intro hne
            have h0 : 0 < Nat.gcd (P * r) (Nat.lcm lam L) := Nat.gcd_pos_of_pos_left _ (Nat.mul_pos hP0 (by have := hr.1; omega))
            obtain ⟨s, h1, h2⟩ := ex_prm _ (show 2 ≤ Nat.gcd (P * r) (Nat.lcm lam L) by omega)
            have h3 : s ∣ n := Nat.dvd_trans (Nat.dvd_trans h2 (Nat.gcd_dvd_left _ _)) ⟨m', hnP⟩
            have h4 : s ∣ n - 1 := Nat.dvd_trans (Nat.dvd_trans h2 (Nat.gcd_dvd_right _ _)) hlm
            have h5 : s ∣ 1 := by
              have := Nat.dvd_sub h3 h4
              rwa [show n - (n - 1) = 1 by omega] at this
            have := Nat.le_of_dvd (by decide) h5
            have := h1.1
            omega
          rw [show Nat.beq (Nat.gcd (Nat.mul P ((r, L) : Nat × Nat).1) (Nat.lcm lam ((r, L) : Nat × Nat).2)) 1 = true from nbeq.2 hg] at h
          change (bif (bif Nat.blt (Nat.div 1073741824 (P * r)) (Nat.lcm lam L) then uniq (P * r) (Nat.lcm lam L) else dfs f (c + 1) (P * r) (Nat.lcm lam L) ((r, L) :: t)) then dfs f c P lam t else false) = true at h
          cases hbl : Nat.blt (Nat.div 1073741824 (P * r)) (Nat.lcm lam L) with
          | true =>
            rw [hbl] at h
            cases hu : uniq (P * r) (Nat.lcm lam L) with
            | false => rw [hu] at h; cases h
            | true =>
              refine uniq_spec hu hp hnP hlm (Nat.lt_of_le_of_lt ?_ (Nat.le_of_ble_eq_true hbl : 1073741824 / (P * r) < Nat.lcm lam L))
              rw [Nat.le_div_iff_mul_le (Nat.mul_pos hP0 (by have := hr.1; omega)), Nat.mul_comm, ← hnP]
              exact hp.le
          | false =>
            rw [hbl] at h
            cases hu : dfs f (c + 1) (P * r) (Nat.lcm lam L) ((r, L) :: t) with
            | false => rw [show (bif false then uniq (P * r) (Nat.lcm lam L) else dfs f (c + 1) (P * r) (Nat.lcm lam L) ((r, L) :: t)) = false from hu] at h; cases h
            | true =>
              refine ih (c + 1) (P * r) (Nat.lcm lam L) _ hu (fun h1 => ?_) (fun h1 => by omega) ⟨m', hnP⟩ hlm (Nat.lcm_pos hl0 hL0) (fun s h1 h2 => ?_) ht
              · rw [hc0 (by omega), Nat.one_mul]; exact .inr hr
              · have e : n / (P * r) = m' := by rw [hnP]; exact Nat.mul_div_cancel_left _ (Nat.mul_pos hP0 (by have := hr.1; omega))
                rw [e] at h2
                exact hs s h1 (by rw [hm']; exact Nat.dvd_trans h2 ⟨r, Nat.mul_comm _ _⟩)
        · have hrt : dfs f c P lam t = true := by
            revert h
            generalize (bif Nat.beq (Nat.gcd (Nat.mul P ((r, L) : Nat × Nat).1) (Nat.lcm lam ((r, L) : Nat × Nat).2)) 1 then (bif Nat.blt (Nat.div 1073741824 (Nat.mul P ((r, L) : Nat × Nat).1)) (Nat.lcm lam ((r, L) : Nat × Nat).2) then uniq (Nat.mul P ((r, L) : Nat × Nat).1) (Nat.lcm lam ((r, L) : Nat × Nat).2) else dfs f (Nat.succ c) (Nat.mul P ((r, L) : Nat × Nat).1) (Nat.lcm lam ((r, L) : Nat × Nat).2) ((r, L) :: t)) else true) = z
            cases z with
            | true => intro h; exact h
            | false => intro h; cases h
          exact ih c P lam t hrt hc hc0 ⟨m, hm⟩ hlam hl0 (hrest hd) ht'
noncomputable def tops (k : Nat) : List (Nat × Nat) → Bool :=
  Nat.rec (fun _ => true) (fun _ ih l => List.rec true (fun h t _ => bif dfs 300 1 h.1 h.2 (h :: t) then ih t else false) l) k
theorem tops_spec : ∀ k l, tops k l = true → ∀ i h t, i < k → l.drop i = h :: t → dfs 300 1 h.1 h.2 (h :: t) = true := by
  intro k
  induction k with
  | zero => intro _ _ i _ _ hi; omega
  | succ k ih =>
    intro l hl i h t hi he
    cases l with
    | nil => rw [List.drop_nil] at he; cases he
    | cons x l =>
      change (bif dfs 300 1 x.1 x.2 (x :: l) then tops k l else false) = true at hl
      cases hd : dfs 300 1 x.1 x.2 (x :: l) with
      | false => rw [hd] at hl; cases hl
      | true =>
        rw [hd] at hl
        cases i with
        | zero =>
          rw [List.drop_zero] at he
          injection he with e1 e2
          subst e1; subst e2
          exact hd
        | succ i => exact ih l hl i h t (by omega) (by simpa using he)
end Go.Proofs.YtjfphobfikadlaaGreatDoor.Num
