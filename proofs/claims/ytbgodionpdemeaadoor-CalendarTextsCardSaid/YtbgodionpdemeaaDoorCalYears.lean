/- Plain numbers: adding years and being within years; how far they lead. No program stands in it. -/
import Derived.Test.YtbgodionpdemeaaDoorCalMath
set_option linter.unusedVariables false
set_option linter.unusedSimpArgs false
namespace Go.Proofs.YtbgodionpdemeaaDoor.Cal

theorem dby_far {y l : Int} (h1 : 1 ≤ y) (h : 0 ≤ l) : 365 * l ≤ dby (y + l) - dby y ∧ dby (y + l) - dby y ≤ 366 * l := by
  unfold dby
  constructor <;> omega
theorem cum_two {y y' m : Int} (h1 : 1 ≤ m) (h2 : m ≤ 2) : cum y m = cum y' m := by
  have : m = 1 ∨ m = 2 := by omega
  rcases this with rfl | rfl <;> rfl
theorem cum_feb {y y' m : Int} (h1 : 3 ≤ m) (h2 : m ≤ 12) : cum y m - feb y = cum y' m - feb y' := by
  rcases cases12 (by omega) h2 with rfl | rfl | rfl | rfl | rfl | rfl | rfl | rfl | rfl | rfl | rfl | rfl <;> simp [cum] <;> omega
theorem len_two {y y' m : Int} (h : m ≠ 2) : lenI y m = lenI y' m := by simp [lenI, h]
theorem feb_cases (y : Int) (h1 : 1 ≤ y) (h2 : y ≤ 9999) : feb y = 29 ∧ dby (y + 1) = dby y + 366 ∨ feb y = 28 ∧ dby (y + 1) = dby y + 365 := by
  have := dby_succ y h1 h2
  rcases feb_bd y with h | h <;> omega

theorem add_far {n l : Int} (h0 : okN n) (hl : 0 ≤ l) (hy : dtY n + l ≤ 9999) : addE n l = 0 ∧ n + 365 * l ≤ addN n l ∧ addN n l ≤ n + 366 * l := by
  obtain ⟨hv, hn⟩ := dt_ok h0
  obtain ⟨a, b, c, d, e, f⟩ := hv
  obtain ⟨e0, en⟩ := addE_0 h0 (l := l) (by omega) hy
  refine ⟨e0, ?_⟩
  rw [en]
  generalize dtY n = Y at *
  generalize dtM n = M at *
  generalize dtD n = D at *
  by_cases z : l = 0
  · subst z
    rw [Int.add_zero, show mn D (lenI Y M) = D from by unfold mn; rw [if_neg (by omega)], hn]; omega
  · have f1 := feb_cases Y a (by omega)
    have f2 := dby_far (y := Y + 1) (l := l - 1) (by omega) (by omega)
    rw [show Y + 1 + (l - 1) = Y + l from by omega] at f2
    have g := feb_bd (Y + l)
    unfold num at *
    by_cases m2 : M = 2
    · subst m2
      have k1 : lenI Y 2 = feb Y := rfl
      have k2 : lenI (Y + l) 2 = feb (Y + l) := rfl
      have k3 := cum_two (y := Y) (y' := Y + l) (m := 2) (by omega) (by omega)
      rw [k1] at f; rw [k2]
      unfold mn
      split <;> omega
    · have k1 := len_two (y := Y) (y' := Y + l) m2
      rw [show mn D (lenI (Y + l) M) = D from by unfold mn; rw [if_neg (by omega)]]
      by_cases m3 : M = 1
      · have k3 := cum_two (y := Y) (y' := Y + l) (m := M) (by omega) (by omega)
        omega
      · have k3 := cum_feb (y := Y) (y' := Y + l) (m := M) (by omega) (by omega)
        omega
theorem add_out {n l : Int} (h0 : okN n) (hl : 0 ≤ l) (hl2 : l ≤ 9999) (hy : 9999 < dtY n + l) : addE n l ≠ 0 ∧ 3652058 - 366 * l < n := by
  obtain ⟨hv, hn⟩ := dt_ok h0
  have b := num_bd hv
  rw [hn] at b
  rw [(addE_10 h0 (by omega) hl2 (Or.inr hy)).1]
  refine ⟨by decide, ?_⟩
  have f := dby_far (y := dtY n) (l := 10000 - dtY n) hv.1 (by have := hv.2.1; omega)
  rw [show dtY n + (10000 - dtY n) = 10000 from by omega, show dby 10000 = 3652059 from by decide] at f
  omega
theorem add_mono {n l l' : Int} (h0 : okN n) (hl : 0 ≤ l) (h : l ≤ l') (hl' : l' ≤ 9999) (hy : dtY n + l' ≤ 9999) : addE n l = 0 ∧ addE n l' = 0 ∧ addN n l ≤ addN n l' := by
  obtain ⟨hv, hn⟩ := dt_ok h0
  obtain ⟨e0, en⟩ := addE_0 h0 (l := l) (by have := hv.1; omega) (by omega)
  obtain ⟨e0', en'⟩ := addE_0 h0 (l := l') (by have := hv.1; omega) (by omega)
  refine ⟨e0, e0', ?_⟩
  by_cases z : l = l'
  · rw [z]; exact Int.le_refl _
  · have b := num_bd (add_vld (l := l) h0 (by have := hv.1; omega) (by omega))
    have b' := num_bd (add_vld (l := l') h0 (by have := hv.1; omega) (by omega))
    have := dby_mono (a := dtY n + l + 1) (b := dtY n + l') (by have := hv.1; omega) (by omega)
    rw [en, en']; omega

/-- All that CalendarWithin says, of two days and of years. -/
theorem within_all {x y n m : Int} (hx : okN x) (hy : okN y) (hn : 0 ≤ n) (hn' : n ≤ 89) (hm : 0 ≤ m) (hm' : m ≤ 9) :
    withinB y x n = withinB x y n ∧ (withinB x y n = true → withinB x y (n + m) = true) ∧ withinB x x n = true ∧
    (withinB x y n = false → 365 * n < mx x y - mn x y) ∧ (withinB x y n = true → 366 * n < mx x y - mn x y → 3652058 - 366 * n < mn x y) := by
  have c1 : mn y x = mn x y := by unfold mn; split <;> split <;> omega
  have c2 : mx y x = mx x y := by unfold mx; split <;> split <;> omega
  have c3 : mn x x = x := by unfold mn; split <;> omega
  have c4 : mx x x = x := by unfold mx; split <;> omega
  have o1 : okN (mn x y) := by unfold mn; split <;> assumption
  have o2 : okN (mx x y) := by unfold mx; split <;> assumption
  have le : mn x y ≤ mx x y := by unfold mn mx; split <;> split <;> omega
  unfold withinB
  rw [c1, c2, c3, c4]
  generalize mn x y = lo at *
  generalize mx x y = hi at *
  rw [withinL_t o1.1 o2.2 hn (by omega), withinL_t o1.1 o2.2 (by omega) (by omega), withinL_t hx.1 hx.2 hn (by omega)]
  have self : ∀ z, okN z → addE z n ≠ 0 ∨ z ≤ addN z n := fun z hz => by
    by_cases g : dtY z + n ≤ 9999
    · have := add_far hz hn g; right; omega
    · have := add_out hz hn (by omega) (by omega); exact Or.inl this.1
  refine ⟨rfl, ?_, decide_eq_true (self x hx), ?_, ?_⟩
  · intro h
    have h := of_decide_eq_true h
    refine decide_eq_true ?_
    by_cases g : dtY lo + (n + m) ≤ 9999
    · have := add_mono (l := n) (l' := n + m) o1 hn (by omega) (by omega) g
      rcases h with h | h
      · exact absurd this.1 h
      · right; omega
    · exact Or.inl (add_out (l := n + m) o1 (by omega) (by omega) (by omega)).1
  · intro h
    have h := of_decide_eq_false h
    by_cases g : dtY lo + n ≤ 9999
    · have := add_far (l := n) o1 hn g
      refine Int.not_le.1 fun hc => h (Or.inr ?_)
      omega
    · exact absurd (Or.inl (add_out (l := n) o1 hn (by omega) (by omega)).1) h
  · intro h hb
    have h := of_decide_eq_true h
    by_cases g : dtY lo + n ≤ 9999
    · have := add_far (l := n) o1 hn g
      rcases h with h | h
      · exact absurd this.1 h
      · omega
    · exact (add_out (l := n) o1 hn (by omega) (by omega)).2
end Go.Proofs.YtbgodionpdemeaaDoor.Cal
