/- Composite numbers that pass and whose prime factors are all small: a search through the products. No program stands in it. -/
import Derived.Test.YtmneokkdkgflkaaDoorMrGcd
set_option linter.unusedVariables false
set_option linter.unusedSimpArgs false
namespace Go.Proofs.YtmneokkdkgflkaaDoor.Num

noncomputable def frcN (n : Nat) (f : Nat → Nat) : Nat := Nat.rec (f 0) (fun m _ => f (Nat.succ m)) n
/-- The inverse modulo m, by Euclid; what it gives is checked where it is used. -/
noncomputable def invE (f : Nat) : Nat → Nat → Nat → Nat → Nat :=
  Nat.rec (fun _ _ _ t1 => t1) (fun _ ih r0 r1 t0 t1 => bif Nat.ble r1 1 then t1 else frcN (Nat.mod r0 r1) fun r2 => frcN (Nat.add t0 (Nat.mul (Nat.div r0 r1) t1)) fun t2 => ih r1 r2 t1 t2) f
noncomputable def uniq (P lam : Nat) : Bool :=
  frc (invE 60 lam (Nat.mod P lam) 0 1) fun y => frc (bif Nat.beq (Nat.mod (Nat.mul P y) lam) 1 then y else Nat.sub lam y) fun x => bif Nat.ble (Nat.mul P x) 1073741824 then (bif Nat.blt x lam then (bif Nat.beq (Nat.mod (Nat.mul P x) lam) 1 then (bif bad2 (Nat.mul P x) then false else true) else false) else false) else (bif Nat.blt x lam then Nat.beq (Nat.mod (Nat.mul P x) lam) 1 else false)
noncomputable def dfs (f : Nat) : Nat → Nat → Nat → List (Nat × Nat) → Bool :=
  Nat.rec (fun _ _ _ _ => false) (fun _ ih c P lam l =>
    List.rec (bif Nat.ble c 1 then true else bif Nat.beq (Nat.mod (Nat.sub P 1) lam) 0 then (bif bad2 P then false else true) else true)
      (fun h t _ => bif Nat.ble (Nat.mul P h.1) 1073741824 then
          (bif (frc (Nat.mul P h.1) fun P' => frc (Nat.lcm lam h.2) fun lam' =>
            bif Nat.beq (Nat.gcd P' lam') 1 then (bif Nat.blt (Nat.div 1073741824 P') lam' then uniq P' lam' else ih (Nat.succ c) P' lam' (h :: t)) else true) then ih c P lam t else false)
        else ih c P lam t) l) f
theorem dfs_nil (f c P lam : Nat) : dfs (f + 1) c P lam [] = (bif Nat.ble c 1 then true else bif Nat.beq (Nat.mod (Nat.sub P 1) lam) 0 then (bif bad2 P then false else true) else true) := rfl
theorem dfs_cons (f c P lam : Nat) (h : Nat × Nat) (t : List (Nat × Nat)) : dfs (f + 1) c P lam (h :: t) = (bif Nat.ble (Nat.mul P h.1) 1073741824 then
          (bif (frc (Nat.mul P h.1) fun P' => frc (Nat.lcm lam h.2) fun lam' =>
            bif Nat.beq (Nat.gcd P' lam') 1 then (bif Nat.blt (Nat.div 1073741824 P') lam' then uniq P' lam' else dfs f (Nat.succ c) P' lam' (h :: t)) else true) then dfs f c P lam t else false)
        else dfs f c P lam t) := rfl
theorem uniq_spec {n P lam m : Nat} (h : uniq P lam = true) (hp : Psp n) (hn : n = P * m) (hl : lam ∣ n - 1) (hm : m < lam) : False := by
  unfold uniq at h
  rw [frc_eq, frc_eq] at h
  generalize (bif Nat.beq (Nat.mod (Nat.mul P (invE 60 lam (Nat.mod P lam) 0 1)) lam) 1 then (invE 60 lam (Nat.mod P lam) 0 1) else Nat.sub lam (invE 60 lam (Nat.mod P lam) 0 1)) = x at h
  have h12 : Nat.blt x lam = true ∧ Nat.beq (Nat.mod (Nat.mul P x) lam) 1 = true := by
    cases h0 : Nat.ble (Nat.mul P x) 1073741824 <;> cases h1 : Nat.blt x lam <;> cases h2 : Nat.beq (Nat.mod (Nat.mul P x) lam) 1 <;> rw [h0, h1, h2] at h <;> first | (cases h; done) | exact ⟨rfl, rfl⟩
  obtain ⟨h1, h2⟩ := h12
  rw [h1, h2] at h
  have hx : x < lam := Nat.le_of_ble_eq_true h1
  have e1 : P * x % lam = 1 := nbeq.1 h2
  have hn2 := hp.two
  have e2 : P * m % lam = 1 % lam := by
    rw [← hn]
    obtain ⟨d, hd⟩ := hl
    rw [show n = lam * d + 1 by omega, Nat.mul_add_mod]
  have hlam1 : 1 < lam := by
    apply Classical.byContradiction
    intro hc
    rcases (show lam = 0 ∨ lam = 1 by omega) with e | e
    · subst e; omega
    · subst e; omega
  have hxm : x = m := by
    have h3 : (P * x * m) % lam = (P * m * x) % lam := by
      rw [Nat.mul_assoc, Nat.mul_comm x m, ← Nat.mul_assoc]
    rw [Nat.mul_mod, e1, Nat.mul_mod (P * m) x, e2, Nat.mod_eq_of_lt hlam1, Nat.one_mul, Nat.one_mul, Nat.mod_mod, Nat.mod_mod, Nat.mod_eq_of_lt hm, Nat.mod_eq_of_lt hx] at h3
    exact h3.symm
  subst hxm
  rw [show Nat.mul P x = n from hn.symm] at h
  rw [show Nat.ble n 1073741824 = true from Nat.ble_eq_true_of_le hp.le, hp.bad] at h
  cases h
theorem Psp.all1 {n r : Nat} (h : Psp n) (hr : Prm r) (hd : r ∣ n) : All1 r (n - 1) := fun b hb => pw_dvd hd (by have := hr.1; omega) (h.fer b hb)
structure TabOk (l : List (Nat × Nat)) : Prop where
  all : ∀ x ∈ l, Prm x.1 ∧ okL x.1 x.2 = true ∧ 0 < x.2 ∧ x.2 < 32768
theorem dfs_spec {n : Nat} (hp : Psp n) : ∀ f c P lam l, dfs f c P lam l = true → (c ≤ 1 → P = 1 ∨ Prm P) → (c = 0 → P = 1) → P ∣ n → lam ∣ n - 1 → 0 < lam → (∀ s, Prm s → s ∣ n / P → ∃ L, (s, L) ∈ l) → TabOk l → False := by
  intro f
  induction f with
  | zero => intro c P lam l h; cases h
  | succ f ih =>
    intro c P lam l h hc hc0 hP hlam hl0 hs ht
    have hn2 := hp.two
    obtain ⟨m, hm⟩ := hP
    have hP0 : 0 < P := by
      rcases Nat.eq_zero_or_pos P with e | e
      · rw [e, Nat.zero_mul] at hm; omega
      · exact e
    have hdiv : n / P = m := by rw [hm]; exact Nat.mul_div_cancel_left _ hP0
    rw [hdiv] at hs
    have hm0 : m ≠ 0 := by rintro rfl; rw [Nat.mul_zero] at hm; omega
    cases l with
    | nil =>
      rw [dfs_nil] at h
      have hm1 : m = 1 := by
        apply Classical.byContradiction
        intro hne
        obtain ⟨s, h1, h2⟩ := ex_prm m (by omega)
        obtain ⟨L, hL⟩ := hs s h1 h2
        cases hL
      rw [hm1, Nat.mul_one] at hm
      subst hm
      cases hcb : Nat.ble c 1 with
      | true =>
        rcases hc (Nat.le_of_ble_eq_true hcb) with e | e
        · omega
        · exact hp.np e
      | false =>
        rw [hcb] at h
        rw [show Nat.beq (Nat.mod (Nat.sub n 1) lam) 0 = true from nbeq.2 (Nat.mod_eq_zero_of_dvd hlam), hp.bad] at h
        cases h
    | cons x t =>
      obtain ⟨r, L⟩ := x
      obtain ⟨hr, hok, hL0, hL1⟩ := ht.all (r, L) (by simp)
      have ht' : TabOk t := ⟨fun y hy => ht.all y (by simp [hy])⟩
      have hrest : ¬ r ∣ m → ∀ s, Prm s → s ∣ n / P → ∃ L, (s, L) ∈ t := fun hnd s h1 h2 => by
        rw [hdiv] at h2
        obtain ⟨L', hL'⟩ := hs s h1 h2
        rcases List.mem_cons.1 hL' with e | e
        · injection e with e1 e2; subst e1; exact absurd h2 hnd
        · exact ⟨L', e⟩
      rw [dfs_cons] at h
      cases hb : Nat.ble (Nat.mul P r) 1073741824 with
      | false =>
        rw [show Nat.ble (Nat.mul P ((r, L) : Nat × Nat).1) 1073741824 = false from hb] at h
        refine ih c P lam t h hc hc0 ⟨m, hm⟩ hlam hl0 (hrest fun hd => ?_) ht'
        obtain ⟨m', hm'⟩ := hd
        have h1 : P * r ≤ n := Nat.le_of_dvd (by omega) ⟨m', by rw [hm, hm', Nat.mul_assoc]⟩
        have h2 := Nat.ble_eq_true_of_le (Nat.le_trans h1 hp.le)
        rw [show Nat.ble (P * r) 1073741824 = false from hb] at h2
        cases h2
      | true =>
        rw [show Nat.ble (Nat.mul P ((r, L) : Nat × Nat).1) 1073741824 = true from hb, frc_eq, frc_eq] at h
        by_cases hd : r ∣ m
        · obtain ⟨m', hm'⟩ := hd
          have hnP : n = P * r * m' := by rw [hm, hm', Nat.mul_assoc]
          have hrn : r ∣ n := ⟨P * m', by rw [hnP, Nat.mul_comm P r, Nat.mul_assoc]⟩
          have hLn := okL_spec hok (by have := hr.1; omega) hL0 hL1 (hp.all1 hr hrn)
          have hlm : Nat.lcm lam L ∣ n - 1 := Nat.lcm_dvd hlam hLn
          have hg : Nat.gcd (P * r) (Nat.lcm lam L) = 1 := by
            apply Classical.byContradiction
            intro hne
            have h0 : 0 < Nat.gcd (P * r) (Nat.lcm lam L) := Nat.gcd_pos_of_pos_left _ (Nat.mul_pos hP0 (by have := hr.1; omega))
            obtain ⟨s, h1, h2⟩ := ex_prm _ (show 2 ≤ Nat.gcd (P * r) (Nat.lcm lam L) by omega)
            have h3 : s ∣ n := Nat.dvd_trans (Nat.dvd_trans h2 (Nat.gcd_dvd_left _ _)) ⟨m', hnP⟩
            have h4 : s ∣ n - 1 := Nat.dvd_trans (Nat.dvd_trans h2 (Nat.gcd_dvd_right _ _)) hlm
            have h5 : s ∣ 1 := by
              have := Nat.dvd_sub h3 h4
              rwa [show n - (n - 1) = 1 by omega] at this
            have := Nat.le_of_dvd (by decide) h5
            have := h1.1
            omega
          rw [show Nat.beq (Nat.gcd (Nat.mul P ((r, L) : Nat × Nat).1) (Nat.lcm lam ((r, L) : Nat × Nat).2)) 1 = true from nbeq.2 hg] at h
          change (bif (bif Nat.blt (Nat.div 1073741824 (P * r)) (Nat.lcm lam L) then uniq (P * r) (Nat.lcm lam L) else dfs f (c + 1) (P * r) (Nat.lcm lam L) ((r, L) :: t)) then dfs f c P lam t else false) = true at h
          cases hbl : Nat.blt (Nat.div 1073741824 (P * r)) (Nat.lcm lam L) with
          | true =>
            rw [hbl] at h
            cases hu : uniq (P * r) (Nat.lcm lam L) with
            | false => rw [hu] at h; cases h
            | true =>
              refine uniq_spec hu hp hnP hlm (Nat.lt_of_le_of_lt ?_ (Nat.le_of_ble_eq_true hbl : 1073741824 / (P * r) < Nat.lcm lam L))
              rw [Nat.le_div_iff_mul_le (Nat.mul_pos hP0 (by have := hr.1; omega)), Nat.mul_comm, ← hnP]
              exact hp.le
          | false =>
            rw [hbl] at h
            cases hu : dfs f (c + 1) (P * r) (Nat.lcm lam L) ((r, L) :: t) with
            | false => rw [show (bif false then uniq (P * r) (Nat.lcm lam L) else dfs f (c + 1) (P * r) (Nat.lcm lam L) ((r, L) :: t)) = false from hu] at h; cases h
            | true =>
              refine ih (c + 1) (P * r) (Nat.lcm lam L) _ hu (fun h1 => ?_) (fun h1 => by omega) ⟨m', hnP⟩ hlm (Nat.lcm_pos hl0 hL0) (fun s h1 h2 => ?_) ht
              · rw [hc0 (by omega), Nat.one_mul]; exact .inr hr
              · have e : n / (P * r) = m' := by rw [hnP]; exact Nat.mul_div_cancel_left _ (Nat.mul_pos hP0 (by have := hr.1; omega))
                rw [e] at h2
                exact hs s h1 (by rw [hm']; exact Nat.dvd_trans h2 ⟨r, Nat.mul_comm _ _⟩)
        · have hrt : dfs f c P lam t = true := by
            revert h
            generalize (bif Nat.beq (Nat.gcd (Nat.mul P ((r, L) : Nat × Nat).1) (Nat.lcm lam ((r, L) : Nat × Nat).2)) 1 then (bif Nat.blt (Nat.div 1073741824 (Nat.mul P ((r, L) : Nat × Nat).1)) (Nat.lcm lam ((r, L) : Nat × Nat).2) then uniq (Nat.mul P ((r, L) : Nat × Nat).1) (Nat.lcm lam ((r, L) : Nat × Nat).2) else dfs f (Nat.succ c) (Nat.mul P ((r, L) : Nat × Nat).1) (Nat.lcm lam ((r, L) : Nat × Nat).2) ((r, L) :: t)) else true) = z
            cases z with
            | true => intro h; exact h
            | false => intro h; cases h
          exact ih c P lam t hrt hc hc0 ⟨m, hm⟩ hlam hl0 (hrest hd) ht'
noncomputable def tops (k : Nat) : List (Nat × Nat) → Bool :=
  Nat.rec (fun _ => true) (fun _ ih l => List.rec true (fun h t _ => bif dfs 300 1 h.1 h.2 (h :: t) then ih t else false) l) k
theorem tops_spec : ∀ k l, tops k l = true → ∀ i h t, i < k → l.drop i = h :: t → dfs 300 1 h.1 h.2 (h :: t) = true := by
  intro k
  induction k with
  | zero => intro _ _ i _ _ hi; omega
  | succ k ih =>
    intro l hl i h t hi he
    cases l with
    | nil => rw [List.drop_nil] at he; cases he
    | cons x l =>
      change (bif dfs 300 1 x.1 x.2 (x :: l) then tops k l else false) = true at hl
      cases hd : dfs 300 1 x.1 x.2 (x :: l) with
      | false => rw [hd] at hl; cases hl
      | true =>
        rw [hd] at hl
        cases i with
        | zero =>
          rw [List.drop_zero] at he
          injection he with e1 e2
          subst e1; subst e2
          exact hd
        | succ i => exact ih l hl i h t (by omega) (by simpa using he)
end Go.Proofs.YtmneokkdkgflkaaDoor.Num
