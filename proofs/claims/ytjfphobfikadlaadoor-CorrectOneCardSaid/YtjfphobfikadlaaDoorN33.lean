/- Composite numbers that pass and whose prime factors are all small: a search through the products. No program stands in it. The small primes with the periods of the four bases. No program stands in it. The search through the products of small primes, run by the kernel. The prime factors from 501 to 32767, and those above, run by the kernel. Up to 2 to the power of 30 what passes the test of Miller and Rabin with 2, 3, 5 and 7 is prime. No program stands in it. -/
import Derived.Test.YtjfphobfikadlaaDoorN32
set_option linter.unusedVariables false
set_option linter.unusedSimpArgs false
namespace Go.Proofs.YtjfphobfikadlaaDoor.Num

noncomputable def frcN (n : Nat) (f : Nat → Nat) : Nat := Nat.rec (f 0) (fun m _ => f (Nat.succ m)) n
/-- The inverse modulo m, by Euclid; what it gives is checked where it is used. -/
noncomputable def invE (f : Nat) : Nat → Nat → Nat → Nat → Nat :=
  Nat.rec (fun _ _ _ t1 => t1) (fun _ ih r0 r1 t0 t1 => bif Nat.ble r1 1 then t1 else frcN (Nat.mod r0 r1) fun r2 => frcN (Nat.add t0 (Nat.mul (Nat.div r0 r1) t1)) fun t2 => ih r1 r2 t1 t2) f
noncomputable def uniq (P lam : Nat) : Bool :=
  frc (invE 60 lam (Nat.mod P lam) 0 1) fun y => frc (bif Nat.beq (Nat.mod (Nat.mul P y) lam) 1 then y else Nat.sub lam y) fun x => bif Nat.ble (Nat.mul P x) 1073741824 then (bif Nat.blt x lam then (bif Nat.beq (Nat.mod (Nat.mul P x) lam) 1 then (bif bad2 (Nat.mul P x) then false else true) else false) else false) else (bif Nat.blt x lam then Nat.beq (Nat.mod (Nat.mul P x) lam) 1 else false)
noncomputable def dfs (f : Nat) : Nat → Nat → Nat → List (Nat × Nat) → Bool :=
  Nat.rec (fun _ _ _ _ => false) (fun _ ih c P lam l =>
    List.rec (bif Nat.ble c 1 then true else bif Nat.beq (Nat.mod (Nat.sub P 1) lam) 0 then (bif bad2 P then false else true) else true)
      (fun h t _ => bif Nat.ble (Nat.mul P h.1) 1073741824 then
          (bif (frc (Nat.mul P h.1) fun P' => frc (Nat.lcm lam h.2) fun lam' =>
            bif Nat.beq (Nat.gcd P' lam') 1 then (bif Nat.blt (Nat.div 1073741824 P') lam' then uniq P' lam' else ih (Nat.succ c) P' lam' (h :: t)) else true) then ih c P lam t else false)
        else ih c P lam t) l) f
theorem dfs_nil (f c P lam : Nat) : dfs (f + 1) c P lam [] = (bif Nat.ble c 1 then true else bif Nat.beq (Nat.mod (Nat.sub P 1) lam) 0 then (bif bad2 P then false else true) else true) := rfl
theorem dfs_cons (f c P lam : Nat) (h : Nat × Nat) (t : List (Nat × Nat)) : dfs (f + 1) c P lam (h :: t) = (bif Nat.ble (Nat.mul P h.1) 1073741824 then
          (bif (frc (Nat.mul P h.1) fun P' => frc (Nat.lcm lam h.2) fun lam' =>
            bif Nat.beq (Nat.gcd P' lam') 1 then (bif Nat.blt (Nat.div 1073741824 P') lam' then uniq P' lam' else dfs f (Nat.succ c) P' lam' (h :: t)) else true) then dfs f c P lam t else false)
        else dfs f c P lam t) := rfl
theorem uniq_spec {n P lam m : Nat} (h : uniq P lam = true) (hp : Psp n) (hn : n = P * m) (hl : lam ∣ n - 1) (hm : m < lam) : False := by
  unfold uniq at h
  rw [frc_eq, frc_eq] at h
  generalize (bif Nat.beq (Nat.mod (Nat.mul P (invE 60 lam (Nat.mod P lam) 0 1)) lam) 1 then (invE 60 lam (Nat.mod P lam) 0 1) else Nat.sub lam (invE 60 lam (Nat.mod P lam) 0 1)) = x at h
  have h12 : Nat.blt x lam = true ∧ Nat.beq (Nat.mod (Nat.mul P x) lam) 1 = true := by
    cases h0 : Nat.ble (Nat.mul P x) 1073741824 <;> cases h1 : Nat.blt x lam <;> cases h2 : Nat.beq (Nat.mod (Nat.mul P x) lam) 1 <;> rw [h0, h1, h2] at h <;> first | (cases h; done) | exact ⟨rfl, rfl⟩
  obtain ⟨h1, h2⟩ := h12
  rw [h1, h2] at h
  have hx : x < lam := Nat.le_of_ble_eq_true h1
  have e1 : P * x % lam = 1 := nbeq.1 h2
  have hn2 := hp.two
  have e2 : P * m % lam = 1 % lam := by
    rw [← hn]
    obtain ⟨d, hd⟩ := hl
    rw [show n = lam * d + 1 by omega, Nat.mul_add_mod]
  have hlam1 : 1 < lam := by
    apply Classical.byContradiction
    intro hc
    rcases (show lam = 0 ∨ lam = 1 by omega) with e | e
    · subst e; omega
    · subst e; omega
  have hxm : x = m := by
    have h3 : (P * x * m) % lam = (P * m * x) % lam := by
      rw [Nat.mul_assoc, Nat.mul_comm x m, ← Nat.mul_assoc]
    rw [Nat.mul_mod, e1, Nat.mul_mod (P * m) x, e2, Nat.mod_eq_of_lt hlam1, Nat.one_mul, Nat.one_mul, Nat.mod_mod, Nat.mod_mod, Nat.mod_eq_of_lt hm, Nat.mod_eq_of_lt hx] at h3
    exact h3.symm
  subst hxm
  rw [show Nat.mul P x = n from hn.symm] at h
  rw [show Nat.ble n 1073741824 = true from Nat.ble_eq_true_of_le hp.le, hp.bad] at h
  cases h
theorem Psp.all1 {n r : Nat} (h : Psp n) (hr : Prm r) (hd : r ∣ n) : All1 r (n - 1) := fun b hb => pw_dvd hd (by have := hr.1; omega) (h.fer b hb)
structure TabOk (l : List (Nat × Nat)) : Prop where
  all : ∀ x ∈ l, Prm x.1 ∧ okL x.1 x.2 = true ∧ 0 < x.2 ∧ x.2 < 32768
theorem dfs_spec {n : Nat} (hp : Psp n) : ∀ f c P lam l, dfs f c P lam l = true → (c ≤ 1 → P = 1 ∨ Prm P) → (c = 0 → P = 1) → P ∣ n → lam ∣ n - 1 → 0 < lam → (∀ s, Prm s → s ∣ n / P → ∃ L, (s, L) ∈ l) → TabOk l → False := by
  intro f
  induction f with
  | zero => intro c P lam l h; cases h
  | succ f ih =>
    intro c P lam l h hc hc0 hP hlam hl0 hs ht
    have hn2 := hp.two
    obtain ⟨m, hm⟩ := hP
    have hP0 : 0 < P := by
      rcases Nat.eq_zero_or_pos P with e | e
      · rw [e, Nat.zero_mul] at hm; omega
      · exact e
    have hdiv : n / P = m := by rw [hm]; exact Nat.mul_div_cancel_left _ hP0
    rw [hdiv] at hs
    have hm0 : m ≠ 0 := by rintro rfl; rw [Nat.mul_zero] at hm; omega
    cases l with
    | nil =>
      rw [dfs_nil] at h
      have hm1 : m = 1 := by
        apply Classical.byContradiction
        intro hne
        obtain ⟨s, h1, h2⟩ := ex_prm m (by omega)
        obtain ⟨L, hL⟩ := hs s h1 h2
        cases hL
      rw [hm1, Nat.mul_one] at hm
      subst hm
      cases hcb : Nat.ble c 1 with
      | true =>
        rcases hc (Nat.le_of_ble_eq_true hcb) with e | e
        · omega
        · exact hp.np e
      | false =>
        rw [hcb] at h
        rw [show Nat.beq (Nat.mod (Nat.sub n 1) lam) 0 = true from nbeq.2 (Nat.mod_eq_zero_of_dvd hlam), hp.bad] at h
        cases h
    | cons x t =>
      obtain ⟨r, L⟩ := x
      obtain ⟨hr, hok, hL0, hL1⟩ := ht.all (r, L) (by simp)
      have ht' : TabOk t := ⟨fun y hy => ht.all y (by simp [hy])⟩
      have hrest : ¬ r ∣ m → ∀ s, Prm s → s ∣ n / P → ∃ L, (s, L) ∈ t := fun hnd s h1 h2 => by
        rw [hdiv] at h2
        obtain ⟨L', hL'⟩ := hs s h1 h2
        rcases List.mem_cons.1 hL' with e | e
        · injection e with e1 e2; subst e1; exact absurd h2 hnd
        · exact ⟨L', e⟩
      rw [dfs_cons] at h
      cases hb : Nat.ble (Nat.mul P r) 1073741824 with
      | false =>
        rw [show Nat.ble (Nat.mul P ((r, L) : Nat × Nat).1) 1073741824 = false from hb] at h
        refine ih c P lam t h hc hc0 ⟨m, hm⟩ hlam hl0 (hrest fun hd => ?_) ht'
        obtain ⟨m', hm'⟩ := hd
        have h1 : P * r ≤ n := Nat.le_of_dvd (by omega) ⟨m', by rw [hm, hm', Nat.mul_assoc]⟩
        have h2 := Nat.ble_eq_true_of_le (Nat.le_trans h1 hp.le)
        rw [show Nat.ble (P * r) 1073741824 = false from hb] at h2
        cases h2
      | true =>
        rw [show Nat.ble (Nat.mul P ((r, L) : Nat × Nat).1) 1073741824 = true from hb, frc_eq, frc_eq] at h
        by_cases hd : r ∣ m
        · obtain ⟨m', hm'⟩ := hd
          have hnP : n = P * r * m' := by rw [hm, hm', Nat.mul_assoc]
          have hrn : r ∣ n := ⟨P * m', by rw [hnP, Nat.mul_comm P r, Nat.mul_assoc]⟩
          have hLn := okL_spec hok (by have := hr.1; omega) hL0 hL1 (hp.all1 hr hrn)
          have hlm : Nat.lcm lam L ∣ n - 1 := Nat.lcm_dvd hlam hLn
          have hg : Nat.gcd (P * r) (Nat.lcm lam L) = 1 := by
            apply Classical.byContradiction
            intro hne
            have h0 : 0 < Nat.gcd (P * r) (Nat.lcm lam L) := Nat.gcd_pos_of_pos_left _ (Nat.mul_pos hP0 (by have := hr.1; omega))
            obtain ⟨s, h1, h2⟩ := ex_prm _ (show 2 ≤ Nat.gcd (P * r) (Nat.lcm lam L) by omega)
            have h3 : s ∣ n := Nat.dvd_trans (Nat.dvd_trans h2 (Nat.gcd_dvd_left _ _)) ⟨m', hnP⟩
            have h4 : s ∣ n - 1 := Nat.dvd_trans (Nat.dvd_trans h2 (Nat.gcd_dvd_right _ _)) hlm
            have h5 : s ∣ 1 := by
              have := Nat.dvd_sub h3 h4
              rwa [show n - (n - 1) = 1 by omega] at this
            have := Nat.le_of_dvd (by decide) h5
            have := h1.1
            omega
          rw [show Nat.beq (Nat.gcd (Nat.mul P ((r, L) : Nat × Nat).1) (Nat.lcm lam ((r, L) : Nat × Nat).2)) 1 = true from nbeq.2 hg] at h
          change (bif (bif Nat.blt (Nat.div 1073741824 (P * r)) (Nat.lcm lam L) then uniq (P * r) (Nat.lcm lam L) else dfs f (c + 1) (P * r) (Nat.lcm lam L) ((r, L) :: t)) then dfs f c P lam t else false) = true at h
          cases hbl : Nat.blt (Nat.div 1073741824 (P * r)) (Nat.lcm lam L) with
          | true =>
            rw [hbl] at h
            cases hu : uniq (P * r) (Nat.lcm lam L) with
            | false => rw [hu] at h; cases h
            | true =>
              refine uniq_spec hu hp hnP hlm (Nat.lt_of_le_of_lt ?_ (Nat.le_of_ble_eq_true hbl : 1073741824 / (P * r) < Nat.lcm lam L))
              rw [Nat.le_div_iff_mul_le (Nat.mul_pos hP0 (by have := hr.1; omega)), Nat.mul_comm, ← hnP]
              exact hp.le
          | false =>
            rw [hbl] at h
            cases hu : dfs f (c + 1) (P * r) (Nat.lcm lam L) ((r, L) :: t) with
            | false => rw [show (bif false then uniq (P * r) (Nat.lcm lam L) else dfs f (c + 1) (P * r) (Nat.lcm lam L) ((r, L) :: t)) = false from hu] at h; cases h
            | true =>
              refine ih (c + 1) (P * r) (Nat.lcm lam L) _ hu (fun h1 => ?_) (fun h1 => by omega) ⟨m', hnP⟩ hlm (Nat.lcm_pos hl0 hL0) (fun s h1 h2 => ?_) ht
              · rw [hc0 (by omega), Nat.one_mul]; exact .inr hr
              · have e : n / (P * r) = m' := by rw [hnP]; exact Nat.mul_div_cancel_left _ (Nat.mul_pos hP0 (by have := hr.1; omega))
                rw [e] at h2
                exact hs s h1 (by rw [hm']; exact Nat.dvd_trans h2 ⟨r, Nat.mul_comm _ _⟩)
        · have hrt : dfs f c P lam t = true := by
            revert h
            generalize (bif Nat.beq (Nat.gcd (Nat.mul P ((r, L) : Nat × Nat).1) (Nat.lcm lam ((r, L) : Nat × Nat).2)) 1 then (bif Nat.blt (Nat.div 1073741824 (Nat.mul P ((r, L) : Nat × Nat).1)) (Nat.lcm lam ((r, L) : Nat × Nat).2) then uniq (Nat.mul P ((r, L) : Nat × Nat).1) (Nat.lcm lam ((r, L) : Nat × Nat).2) else dfs f (Nat.succ c) (Nat.mul P ((r, L) : Nat × Nat).1) (Nat.lcm lam ((r, L) : Nat × Nat).2) ((r, L) :: t)) else true) = z
            cases z with
            | true => intro h; exact h
            | false => intro h; cases h
          exact ih c P lam t hrt hc hc0 ⟨m, hm⟩ hlam hl0 (hrest hd) ht'
noncomputable def tops (k : Nat) : List (Nat × Nat) → Bool :=
  Nat.rec (fun _ => true) (fun _ ih l => List.rec true (fun h t _ => bif dfs 300 1 h.1 h.2 (h :: t) then ih t else false) l) k
theorem tops_spec : ∀ k l, tops k l = true → ∀ i h t, i < k → l.drop i = h :: t → dfs 300 1 h.1 h.2 (h :: t) = true := by
  intro k
  induction k with
  | zero => intro _ _ i _ _ hi; omega
  | succ k ih =>
    intro l hl i h t hi he
    cases l with
    | nil => rw [List.drop_nil] at he; cases he
    | cons x l =>
      change (bif dfs 300 1 x.1 x.2 (x :: l) then tops k l else false) = true at hl
      cases hd : dfs 300 1 x.1 x.2 (x :: l) with
      | false => rw [hd] at hl; cases hl
      | true =>
        rw [hd] at hl
        cases i with
        | zero =>
          rw [List.drop_zero] at he
          injection he with e1 e2
          subst e1; subst e2
          exact hd
        | succ i => exact ih l hl i h t (by omega) (by simpa using he)
end Go.Proofs.YtjfphobfikadlaaDoor.Num
namespace Go.Proofs.YtjfphobfikadlaaDoor.Num

def tab : List (Nat × Nat) := [(499, 498), (491, 490), (487, 486), (479, 239), (467, 466), (463, 462), (461, 460), (457, 456), (449, 448), (443, 442), (439, 438), (433, 432), (431, 430), (421, 420), (419, 418), (409, 408), (401, 400), (397, 396), (389, 388), (383, 382), (379, 378), (373, 372), (367, 366), (359, 358), (353, 352), (349, 348), (347, 346), (337, 336), (331, 330), (317, 316), (313, 312), (311, 155), (307, 306), (293, 292), (283, 282), (281, 280), (277, 276), (271, 270), (269, 268), (263, 262), (257, 256), (251, 250), (241, 240), (239, 238), (233, 232), (229, 228), (227, 226), (223, 222), (211, 210), (199, 198), (197, 196), (193, 192), (191, 190), (181, 180), (179, 178), (173, 172), (167, 166), (163, 162), (157, 156), (151, 150), (149, 148), (139, 138), (137, 136), (131, 130), (127, 126), (113, 112), (109, 108), (107, 106), (103, 102), (101, 100), (97, 96), (89, 88), (83, 82), (79, 78), (73, 72), (71, 70), (67, 66), (61, 60), (59, 58), (53, 52), (47, 46), (43, 42), (41, 40), (37, 36), (31, 30), (29, 28), (23, 22), (19, 18), (17, 16), (13, 12), (11, 10)]
def fOf_ (p : Nat) : Nat := if p < 16 then 2 else if p < 36 then 4 else if p < 121 then 9 else 30
set_option maxRecDepth 1000000
theorem tab_ok : (tab.all fun x => decide (2 ≤ x.1) && noDiv x.1 (fOf_ x.1) 2 && decide (x.1 < (fOf_ x.1 + 2) * (fOf_ x.1 + 2)) && okL x.1 x.2 && decide (0 < x.2) && decide (x.2 < 32768)) = true := by decide +kernel
theorem tab_all : ((List.range 501).all fun q => (tab.any fun x => x.1 == q) || decide (q < 11) || (List.range 32).any fun d => decide (2 ≤ d) && decide (d < q) && q % d == 0) = true := by decide +kernel
theorem tabOk : TabOk tab := ⟨fun x hx => by
  have h := List.all_eq_true.1 tab_ok x hx
  simp only [Bool.and_eq_true, decide_eq_true_eq] at h
  obtain ⟨⟨⟨⟨⟨h1, h2⟩, h3⟩, h4⟩, h5⟩, h6⟩ := h
  exact ⟨prm_of h1 h2 h3, h4, h5, h6⟩⟩
theorem tab_mem {q : Nat} (hq : Prm q) (h1 : 11 ≤ q) (h2 : q ≤ 500) : ∃ L, (q, L) ∈ tab := by
  have h := List.all_eq_true.1 tab_all q (List.mem_range.2 (by omega))
  simp only [Bool.or_eq_true, decide_eq_true_eq, List.any_eq_true, Bool.and_eq_true, beq_iff_eq] at h
  rcases h with (⟨x, hx, rfl⟩ | h) | ⟨d, _, ⟨h3, h4⟩, h5⟩
  · exact ⟨x.2, hx⟩
  · omega
  · rcases hq.2 d (Nat.dvd_of_mod_eq_zero h5) with e | e <;> omega
end Go.Proofs.YtjfphobfikadlaaDoor.Num
namespace Go.Proofs.YtjfphobfikadlaaDoor.Num
set_option maxRecDepth 1000000
theorem tops0 : tops 30 (tab.drop 0) = true := by decide +kernel
theorem tops1 : tops 30 (tab.drop 30) = true := by decide +kernel
theorem tops2 : tops 31 (tab.drop 60) = true := by decide +kernel
end Go.Proofs.YtjfphobfikadlaaDoor.Num
namespace Go.Proofs.YtjfphobfikadlaaDoor.Num
set_option maxRecDepth 1000000
theorem lvs0 : lvs 501 100 = true := by decide +kernel
theorem lvs1 : lvs 701 150 = true := by decide +kernel
theorem lvs2 : lvs 1001 1000 = true := by decide +kernel
theorem lvs3 : lvs 3001 14884 = true := by decide +kernel
theorem chks0 : frc (Mrec 32768) (chks 11 8000) = true := by decide +kernel
theorem chks1 : frc (Mrec 32768) (chks 16011 8379) = true := by decide +kernel
end Go.Proofs.YtjfphobfikadlaaDoor.Num
namespace Go.Proofs.YtjfphobfikadlaaDoor.Num

theorem tab_desc : tab.Pairwise (fun a b => b.1 < a.1) := by decide +kernel
theorem tab_len : tab.length = 91 := by decide +kernel
theorem no_small {n r : Nat} (hp : Psp n) (hr : Prm r) (hd : r ∣ n) (hmax : ∀ s, Prm s → s ∣ n → s ≤ r) (h : r ≤ 500) : False := by
  have h11 := hp.ge11 hr hd
  obtain ⟨L, hL⟩ := tab_mem hr h11 h
  obtain ⟨i, hi, he⟩ := List.getElem_of_mem hL
  have hdrop : tab.drop i = (r, L) :: tab.drop (i + 1) := by rw [List.drop_eq_getElem_cons hi, he]
  have hi91 := hi
  rw [tab_len] at hi91
  have hrun : dfs 300 1 r L ((r, L) :: tab.drop (i + 1)) = true := by
    rcases Nat.lt_or_ge i 30 with h1 | h1
    · exact tops_spec 30 (tab.drop 0) tops0 i (r, L) _ h1 (by rw [List.drop_zero]; exact hdrop)
    · rcases Nat.lt_or_ge i 60 with h2 | h2
      · exact tops_spec 30 (tab.drop 30) tops1 (i - 30) (r, L) _ (by omega) (by rw [List.drop_drop, show 30 + (i - 30) = i by omega]; exact hdrop)
      · exact tops_spec 31 (tab.drop 60) tops2 (i - 60) (r, L) _ (by omega) (by rw [List.drop_drop, show 60 + (i - 60) = i by omega]; exact hdrop)
  obtain ⟨_, hok, hL0, hL1⟩ := tabOk.all (r, L) hL
  have hsub : ∀ x ∈ (r, L) :: tab.drop (i + 1), x ∈ tab := fun x hx => by rw [← hdrop] at hx; exact List.mem_of_mem_drop hx
  refine dfs_spec hp 300 1 r L _ hrun (fun _ => .inr hr) (fun h => by omega) hd (okL_spec hok (by omega) hL0 hL1 (hp.all1 hr hd)) hL0 (fun s h1 h2 => ?_) ⟨fun x hx => tabOk.all x (hsub x hx)⟩
  have hsn : s ∣ n := Nat.dvd_trans h2 (Nat.div_dvd_of_dvd hd)
  have hsr := hmax s h1 hsn
  obtain ⟨Ls, hLs⟩ := tab_mem h1 (hp.ge11 h1 hsn) (by omega)
  refine ⟨Ls, ?_⟩
  rw [← hdrop]
  rw [← List.take_append_drop i tab, List.mem_append] at hLs
  rcases hLs with h3 | h3
  · exfalso
    have hpw := tab_desc
    rw [← List.take_append_drop i tab, List.pairwise_append] at hpw
    have := hpw.2.2 _ h3 (r, L) (by rw [hdrop]; simp)
    change r < s at this
    omega
  · exact h3
theorem no_mid {n r : Nat} (hp : Psp n) (hr : Prm r) (hd : r ∣ n) (hodd : n % 2 = 1) (h : 500 < r) (h2 : r < 32768) : False := by
  have ho : r % 2 = 1 := by
    rcases Nat.mod_two_eq_zero_or_one r with e | e
    · exfalso
      have := Nat.dvd_trans (Nat.dvd_of_mod_eq_zero e) hd
      have := Nat.mod_eq_zero_of_dvd this
      omega
    · exact e
  refine lv_spec ?_ hp hr hd (by omega) h2
  rcases Nat.lt_or_ge r 701 with h3 | h3
  · have := lvs_spec 100 lvs0 ((r - 501) / 2) (by omega)
    rwa [show 501 + 2 * ((r - 501) / 2) = r by omega] at this
  · rcases Nat.lt_or_ge r 1001 with h4 | h4
    · have := lvs_spec 150 lvs1 ((r - 701) / 2) (by omega)
      rwa [show 701 + 2 * ((r - 701) / 2) = r by omega] at this
    · rcases Nat.lt_or_ge r 3001 with h5 | h5
      · have := lvs_spec 1000 lvs2 ((r - 1001) / 2) (by omega)
        rwa [show 1001 + 2 * ((r - 1001) / 2) = r by omega] at this
      · have := lvs_spec 14884 lvs3 ((r - 3001) / 2) (by omega)
        rwa [show 3001 + 2 * ((r - 3001) / 2) = r by omega] at this
theorem chk_all (k : Nat) (h1 : 11 ≤ k) (h2 : k < 32768) (h3 : k % 2 = 1) (h4 : Nat.gcd k 105 = 1) : chkA (Mrec 32768) k = true := by
  rcases Nat.lt_or_ge k 16011 with h5 | h5
  · have c := chks0
    rw [frc_eq] at c
    have := chks_spec 8000 c ((k - 11) / 2) (by omega) (by rw [show 11 + 2 * ((k - 11) / 2) = k by omega]; exact h4)
    rwa [show 11 + 2 * ((k - 11) / 2) = k by omega] at this
  · have c := chks1
    rw [frc_eq] at c
    have := chks_spec 8379 c ((k - 16011) / 2) (by omega) (by rw [show 16011 + 2 * ((k - 16011) / 2) = k by omega]; exact h4)
    rwa [show 16011 + 2 * ((k - 16011) / 2) = k by omega] at this
/-- **What passes is prime.** -/
theorem mr_all {n : Nat} (h2 : 2 < n) (hle : n ≤ 1073741824) (hodd : n % 2 = 1) (h3 : n % 3 ≠ 0) (h5 : n % 5 ≠ 0) (h7 : n % 7 ≠ 0) (m2 : mrB n 2 = true) (m3 : mrB n 3 = true) (m5 : mrB n 5 = true) (m7 : mrB n 7 = true) : Prm n := by
  apply Classical.byContradiction
  intro hnp
  have hp : Psp n := by
    refine ⟨h2, hle, hnp, ?_, ?_, bad2_of h2 hodd m2 m3 m5 m7⟩
    · rintro b (rfl | rfl | rfl | rfl) hd <;> have := Nat.mod_eq_zero_of_dvd hd <;> omega
    · rintro b (rfl | rfl | rfl | rfl)
      · exact fer_mrB h2 hodd m2
      · exact fer_mrB h2 hodd m3
      · exact fer_mrB h2 hodd m5
      · exact fer_mrB h2 hodd m7
  obtain ⟨r, hr, hd, hmax⟩ := max_prm (n := n) (by omega)
  rcases Nat.lt_or_ge 32768 r with h | h
  · exact no_great chk_all hp hr hd h
  · rcases Nat.lt_or_ge 500 r with h1 | h1
    · refine no_mid hp hr hd hodd h1 ?_
      rcases Nat.eq_or_lt_of_le h with e | e
      · exfalso
        subst e
        rcases hr.2 2 ⟨16384, rfl⟩ with e | e <;> omega
      · exact e
    · exact no_small hp hr hd hmax h1
end Go.Proofs.YtjfphobfikadlaaDoor.Num
