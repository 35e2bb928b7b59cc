/- Plain numbers of the calendar: leap years, lengths of months, the number of a date, and that numbers and dates correspond. No program stands in it. -/
import Derived.KernelRfl
set_option linter.unusedVariables false
set_option linter.unusedSimpArgs false
namespace Go.Proofs.YtbgodionpdemeaaDoor.Cal

def lp (y : Int) : Prop := 1 ≤ y ∧ y ≤ 9999 ∧ y % 4 = 0 ∧ (y % 100 ≠ 0 ∨ y % 400 = 0)
instance (y : Int) : Decidable (lp y) := by unfold lp; infer_instance
def lpB (y : Int) : Bool := decide (lp y)
def yrB (y : Int) : Bool := decide (1 ≤ y ∧ y ≤ 9999)
def feb (y : Int) : Int := if lpB y = true then 29 else 28
def lenI (y m : Int) : Int := if m = 4 ∨ m = 6 ∨ m = 9 ∨ m = 11 then 30 else if m = 2 then feb y else 31
def dby (y : Int) : Int := 365 * (y - 1) + (y - 1) / 4 - (y - 1) / 100 + (y - 1) / 400
def cum (y m : Int) : Int :=
  if m ≤ 1 then 0 else if m = 2 then 31 else if m = 3 then 31 + feb y else if m = 4 then 62 + feb y else if m = 5 then 92 + feb y
  else if m = 6 then 123 + feb y else if m = 7 then 153 + feb y else if m = 8 then 184 + feb y else if m = 9 then 215 + feb y
  else if m = 10 then 245 + feb y else if m = 11 then 276 + feb y else if m = 12 then 306 + feb y else 337 + feb y
def vld (y m d : Int) : Prop := 1 ≤ y ∧ y ≤ 9999 ∧ 1 ≤ m ∧ m ≤ 12 ∧ 1 ≤ d ∧ d ≤ lenI y m
instance (y m d : Int) : Decidable (vld y m d) := by unfold vld; infer_instance
def vldB (y m d : Int) : Bool := decide (vld y m d)
def num (y m d : Int) : Int := dby y + cum y m + d - 1

theorem lpB_t {y : Int} (h : lp y) : lpB y = true := decide_eq_true h
theorem lpB_f {y : Int} (h : ¬ lp y) : lpB y = false := decide_eq_false h
theorem yrB_t {y : Int} (h : 1 ≤ y ∧ y ≤ 9999) : yrB y = true := decide_eq_true h
theorem yrB_f {y : Int} (h : ¬ (1 ≤ y ∧ y ≤ 9999)) : yrB y = false := decide_eq_false h
theorem vldB_t {y m d : Int} (h : vldB y m d = true) : vld y m d := of_decide_eq_true h
theorem vldB_f {y m d : Int} (h : vldB y m d = false) : ¬ vld y m d := of_decide_eq_false h
theorem feb_lp {y : Int} (h : lp y) : feb y = 29 := by simp [feb, lpB, h]
theorem feb_no {y : Int} (h : ¬ lp y) : feb y = 28 := by simp [feb, lpB, h]
theorem feb_bd (y : Int) : feb y = 28 ∨ feb y = 29 := by unfold feb; split <;> simp
theorem len_bd (y m : Int) : 28 ≤ lenI y m ∧ lenI y m ≤ 31 := by
  have := feb_bd y
  unfold lenI; split <;> (try split) <;> omega
theorem cum_1 (y : Int) : cum y 1 = 0 := rfl
theorem cum_13 (y : Int) : cum y 13 = 337 + feb y := by simp [cum]
theorem cases12 {m : Int} (h1 : 1 ≤ m) (h2 : m ≤ 12) : m = 1 ∨ m = 2 ∨ m = 3 ∨ m = 4 ∨ m = 5 ∨ m = 6 ∨ m = 7 ∨ m = 8 ∨ m = 9 ∨ m = 10 ∨ m = 11 ∨ m = 12 := by omega
theorem cum_succ (y m : Int) (h1 : 1 ≤ m) (h2 : m ≤ 12) : cum y (m + 1) = cum y m + lenI y m := by
  rcases cases12 h1 h2 with rfl | rfl | rfl | rfl | rfl | rfl | rfl | rfl | rfl | rfl | rfl | rfl <;> simp [cum, lenI] <;> omega
theorem cum_mono (y : Int) : ∀ (k : Nat) (m : Int), 1 ≤ m → m + k ≤ 13 → cum y m ≤ cum y (m + k) := by
  intro k
  induction k with
  | zero => intro m _ _; simp
  | succ k ih =>
    intro m h1 h2
    have a := ih m h1 (by omega)
    have b := cum_succ y (m + k) (by omega) (by omega)
    have c := len_bd y (m + k)
    have e : m + ((k + 1 : Nat) : Int) = m + k + 1 := by omega
    rw [e]; omega
theorem cum_le (y : Int) {a b : Int} (h1 : 1 ≤ a) (h : a ≤ b) (h2 : b ≤ 13) : cum y a ≤ cum y b := by
  have := cum_mono y (b - a).toNat a h1 (by omega)
  rwa [show a + ((b - a).toNat : Int) = b from by omega] at this
theorem cum_bd (y m : Int) (h1 : 1 ≤ m) (h2 : m ≤ 13) : 0 ≤ cum y m ∧ cum y m ≤ 366 := by
  have a := cum_le y (Int.le_refl 1) h1 h2
  have b := cum_le y h1 h2 (Int.le_refl 13)
  have c := feb_bd y
  rw [cum_1] at a; rw [cum_13] at b; omega

theorem dby_succ (y : Int) (h1 : 1 ≤ y) (h2 : y ≤ 9999) : dby (y + 1) = dby y + 337 + feb y := by
  by_cases h : lp y
  · rw [feb_lp h]; unfold lp at h; unfold dby; omega
  · rw [feb_no h]; unfold lp at h; unfold dby; omega
theorem dby_mono {a b : Int} (h0 : 1 ≤ a) (h : a ≤ b) : dby a ≤ dby b := by unfold dby; omega
theorem dby_bd {y : Int} (h0 : 1 ≤ y) (h : y ≤ 10000) : 0 ≤ dby y ∧ dby y ≤ 3652059 := by unfold dby; omega
theorem num_bd {y m d : Int} (h : vld y m d) : dby y ≤ num y m d ∧ num y m d < dby (y + 1) ∧ 0 ≤ num y m d ∧ num y m d ≤ 3652058 := by
  obtain ⟨h1, h2, h3, h4, h5, h6⟩ := h
  have a := cum_succ y m h3 h4
  have b := cum_le y (a := m + 1) (b := 13) (by omega) (by omega) (by omega)
  have c := cum_bd y m h3 (by omega)
  have d1 := dby_succ y h1 h2
  have e := dby_bd (y := y) h1 (by omega)
  have f := dby_bd (y := y + 1) (by omega) (by omega)
  rw [cum_13] at b
  unfold num; omega

theorem num_inj {y m d y' m' d' : Int} (h : vld y m d) (h' : vld y' m' d') (e : num y m d = num y' m' d') : y = y' ∧ m = m' ∧ d = d' := by
  have a := num_bd h
  have b := num_bd h'
  have ey : y = y' := by
    rcases Int.lt_trichotomy y y' with hlt | heq | hgt
    · have := dby_mono (a := y + 1) (b := y') (by have := h.1; omega) (by omega); omega
    · exact heq
    · have := dby_mono (a := y' + 1) (b := y) (by have := h'.1; omega) (by omega); omega
  subst ey
  obtain ⟨h1, h2, h3, h4, h5, h6⟩ := h
  obtain ⟨_, _, h3', h4', h5', h6'⟩ := h'
  have c := cum_succ y m h3 h4
  have c' := cum_succ y m' h3' h4'
  have em : m = m' := by
    unfold num at e
    rcases Int.lt_trichotomy m m' with hlt | heq | hgt
    · have := cum_le y (a := m + 1) (b := m') (by omega) (by omega) (by omega); omega
    · exact heq
    · have := cum_le y (a := m' + 1) (b := m) (by omega) (by omega) (by omega); omega
  subst em
  refine ⟨rfl, rfl, ?_⟩
  unfold num at e; omega

theorem year_ex (n : Int) (h0 : 0 ≤ n) : ∀ k : Nat, n < dby (k + 1) → ∃ y : Int, 1 ≤ y ∧ y ≤ k ∧ dby y ≤ n ∧ n < dby (y + 1) := by
  intro k
  induction k with
  | zero => intro h; simp [dby] at h; omega
  | succ k ih =>
    intro h
    by_cases hc : n < dby ((k : Int) + 1)
    · obtain ⟨y, a, b, c, d⟩ := ih hc
      exact ⟨y, a, by omega, c, d⟩
    · exact ⟨(k : Int) + 1, by omega, by omega, by omega, by rw [Int.natCast_succ] at h; exact h⟩
theorem month_ex (y r : Int) (h0 : 0 ≤ r) : ∀ k : Nat, k ≤ 12 → r < cum y (k + 1) → ∃ m : Int, 1 ≤ m ∧ m ≤ k ∧ cum y m ≤ r ∧ r < cum y (m + 1) := by
  intro k
  induction k with
  | zero => intro _ h; simp [cum] at h; omega
  | succ k ih =>
    intro hk h
    by_cases hc : r < cum y ((k : Int) + 1)
    · obtain ⟨m, a, b, c, d⟩ := ih (by omega) hc
      exact ⟨m, a, by omega, c, d⟩
    · exact ⟨(k : Int) + 1, by omega, by omega, by omega, by rw [Int.natCast_succ] at h; exact h⟩
theorem date_ex (n : Int) (h0 : 0 ≤ n) (h1 : n ≤ 3652058) : ∃ y m d : Int, vld y m d ∧ num y m d = n := by
  obtain ⟨y, a, b, c, d⟩ := year_ex n h0 9999 (by have : dby ((9999 : Nat) + 1 : Int) = 3652059 := by decide
                                                  omega)
  have e := dby_succ y a (by omega)
  obtain ⟨m, a', b', c', d'⟩ := month_ex y (n - dby y) (by omega) 12 (by omega) (by
    have : cum y ((12 : Nat) + 1 : Int) = 337 + feb y := cum_13 y
    omega)
  have f := cum_succ y m a' (by omega)
  refine ⟨y, m, n - dby y - cum y m + 1, ⟨a, by omega, a', by omega, by omega, by omega⟩, ?_⟩
  unfold num; omega

/-! The functions' values. -/
def dayN (y m d : Int) : Int := if vld y m d then num y m d else 0
def dayE (y m d : Int) : Int := if vld y m d then 0 else 10
noncomputable def dateOf (n : Int) : Int × Int × Int := Classical.epsilon fun p : Int × Int × Int => vld p.1 p.2.1 p.2.2 ∧ num p.1 p.2.1 p.2.2 = n
def okN (n : Int) : Prop := 0 ≤ n ∧ n ≤ 3652058
instance (n : Int) : Decidable (okN n) := by unfold okN; infer_instance
noncomputable def dtY (n : Int) : Int := if okN n then (dateOf n).1 else 0
noncomputable def dtM (n : Int) : Int := if okN n then (dateOf n).2.1 else 0
noncomputable def dtD (n : Int) : Int := if okN n then (dateOf n).2.2 else 0
def dtE (n : Int) : Int := if okN n then 0 else 2
theorem dt_ok {n : Int} (h : okN n) : vld (dtY n) (dtM n) (dtD n) ∧ num (dtY n) (dtM n) (dtD n) = n := by
  obtain ⟨y, m, d, hv, hn⟩ := date_ex n h.1 h.2
  have := Classical.epsilon_spec (p := fun p : Int × Int × Int => vld p.1 p.2.1 p.2.2 ∧ num p.1 p.2.1 p.2.2 = n) ⟨(y, m, d), hv, hn⟩
  simp only [dtY, dtM, dtD, if_pos h]
  exact this
theorem dtE_ok {n : Int} (h : okN n) : dtE n = 0 := if_pos h
theorem dtE_no {n : Int} (h : ¬ okN n) : dtE n = 2 := if_neg h
theorem dtY_no {n : Int} (h : ¬ okN n) : dtY n = 0 := if_neg h
theorem dtM_no {n : Int} (h : ¬ okN n) : dtM n = 0 := if_neg h
theorem dtD_no {n : Int} (h : ¬ okN n) : dtD n = 0 := if_neg h
def mn (a b : Int) : Int := if b < a then b else a
def mx (a b : Int) : Int := if a < b then b else a
noncomputable def addE (n l : Int) : Int := if ¬ okN n ∨ l < -9999 ∨ 9999 < l then 2 else if dtY n + l < 1 ∨ 9999 < dtY n + l then 10 else 0
noncomputable def addN (n l : Int) : Int := if addE n l = 0 then num (dtY n + l) (dtM n) (mn (dtD n) (lenI (dtY n + l) (dtM n))) else 0
noncomputable def withinL (a b l : Int) : Bool :=
  if a < 0 ∨ 3652058 < b ∨ l < 0 ∨ 100 < l then false else decide (addE a l ≠ 0 ∨ b ≤ addN a l)
noncomputable def withinB (a b l : Int) : Bool := withinL (mn a b) (mx a b) l
theorem withinL_f {a b l : Int} (h : a < 0 ∨ 3652058 < b ∨ l < 0 ∨ 100 < l) : withinL a b l = false := if_pos h
theorem withinL_t {a b l : Int} (h1 : 0 ≤ a) (h2 : b ≤ 3652058) (h3 : 0 ≤ l) (h4 : l ≤ 100) : withinL a b l = decide (addE a l ≠ 0 ∨ b ≤ addN a l) := if_neg (by omega)
theorem withinB_lt {a b l : Int} (h : b < a) : withinB a b l = withinL b a l := by unfold withinB mn mx; rw [if_pos h, if_neg (by omega)]
theorem withinB_ge {a b l : Int} (h : ¬ b < a) : withinB a b l = withinL a b l := by
  unfold withinB mn mx; rw [if_neg h]
  by_cases e : a < b
  · rw [if_pos e]
  · rw [if_neg e, show a = b from by omega]
theorem add_vld {n l : Int} (h : okN n) (h1 : 1 ≤ dtY n + l) (h2 : dtY n + l ≤ 9999) : vld (dtY n + l) (dtM n) (mn (dtD n) (lenI (dtY n + l) (dtM n))) := by
  obtain ⟨a, b, c, d, e, f⟩ := (dt_ok h).1
  have g := len_bd (dtY n + l) (dtM n)
  refine ⟨h1, h2, c, d, ?_, ?_⟩ <;> (unfold mn; split <;> omega)
theorem addE_2 {n l : Int} (h : ¬ okN n ∨ l < -9999 ∨ 9999 < l) : addE n l = 2 ∧ addN n l = 0 := by
  have : addE n l = 2 := if_pos h
  exact ⟨this, if_neg (by rw [this]; decide)⟩
theorem addE_10 {n l : Int} (h0 : okN n) (h1 : -9999 ≤ l) (h2 : l ≤ 9999) (h : dtY n + l < 1 ∨ 9999 < dtY n + l) : addE n l = 10 ∧ addN n l = 0 := by
  have : addE n l = 10 := by unfold addE; rw [if_neg (fun h => by rcases h with h | h | h <;> first | exact h h0 | omega), if_pos h]
  exact ⟨this, if_neg (by rw [this]; decide)⟩
theorem addE_0 {n l : Int} (h0 : okN n) (h1 : 1 ≤ dtY n + l) (h2 : dtY n + l ≤ 9999) : addE n l = 0 ∧ addN n l = num (dtY n + l) (dtM n) (mn (dtD n) (lenI (dtY n + l) (dtM n))) := by
  have hy := (dt_ok h0).1
  have a := hy.1
  have b := hy.2.1
  have : addE n l = 0 := by unfold addE; rw [if_neg (fun h => by rcases h with h | h | h <;> first | exact h h0 | omega), if_neg (by omega)]
  exact ⟨this, if_pos this⟩
theorem addN_bd (n l : Int) : 0 ≤ addN n l ∧ addN n l ≤ 3652058 := by
  by_cases h0 : ¬ okN n ∨ l < -9999 ∨ 9999 < l
  · rw [(addE_2 h0).2]; omega
  · have h00 : okN n := by by_cases h : okN n; exact h; exact absurd (Or.inl h) h0
    by_cases h : dtY n + l < 1 ∨ 9999 < dtY n + l
    · rw [(addE_10 h00 (by omega) (by omega) h).2]; omega
    · rw [(addE_0 h00 (by omega) (by omega)).2]
      have := num_bd (add_vld (l := l) h00 (by omega) (by omega)); omega
def kmod (n m : Int) : Int := n % m
theorem kmod_eq {n m : Int} (h : 1 ≤ m) : (n.tmod m + m) % m = kmod n m := by
  unfold kmod
  rw [Int.add_emod_right, Int.tmod_def, Int.sub_mul_emod_self_left]
theorem kmod_bd (n : Int) {m : Int} (h : 1 ≤ m) : 0 ≤ kmod n m ∧ kmod n m < m := ⟨Int.emod_nonneg _ (by omega), Int.emod_lt_of_pos _ (by omega)⟩

/-- The program's way to the year and the day of the year. -/
theorem alg_ok (n : Int) (h0 : 0 ≤ n) (h1 : n ≤ 3652058) (a r1 k1 r2 k2 r3 k3 r4 : Int)
    (ha : a = n / 146097) (hr1 : r1 = n % 146097) (hk1 : k1 = min (r1 / 36524) 3) (hr2 : r2 = r1 - k1 * 36524)
    (hk2 : k2 = min (r2 / 1461) 24) (hr3 : r3 = r2 - k2 * 1461) (hk3 : k3 = min (r3 / 365) 3) (hr4 : r4 = r3 - k3 * 365) :
    0 ≤ a ∧ a ≤ 24 ∧ 0 ≤ r1 ∧ r1 < 146097 ∧ 0 ≤ k1 ∧ k1 ≤ 3 ∧ 0 ≤ r2 ∧ r2 ≤ 36524 ∧ 0 ≤ k2 ∧ k2 ≤ 24 ∧ 0 ≤ r3 ∧ r3 ≤ 1460 ∧ 0 ≤ k3 ∧ k3 ≤ 3 ∧ 0 ≤ r4 ∧ r4 ≤ 365 ∧
    n = 146097 * a + r1 ∧ (k1 < 3 → r2 < 36524) ∧ (k2 < 24 → r3 < 1461) ∧ (k2 = 24 → r3 ≤ 1460) ∧ (k2 = 24 → k1 < 3 → r3 < 1460) ∧ (k3 < 3 → r4 < 365) := by
  omega
theorem alg_date (n a k1 k2 k3 r4 : Int) (hn : n = 146097 * a + 36524 * k1 + 1461 * k2 + 365 * k3 + r4) (h0 : 0 ≤ a) (ha : a ≤ 24)
    (b1 : 0 ≤ k1) (c1 : k1 ≤ 3) (b2 : 0 ≤ k2) (c2 : k2 ≤ 24) (b3 : 0 ≤ k3) (c3 : k3 ≤ 3) :
    dby (1 + a * 400 + k1 * 100 + k2 * 4 + k3 * 1) + r4 = n := by
  unfold dby; omega
theorem alg_len (a k1 k2 k3 r4 : Int) (h0 : 0 ≤ a) (ha : a ≤ 24) (b1 : 0 ≤ k1) (c1 : k1 ≤ 3) (b2 : 0 ≤ k2) (c2 : k2 ≤ 24) (b3 : 0 ≤ k3) (c3 : k3 ≤ 3)
    (h365 : r4 ≤ 365) (e3 : k3 < 3 → r4 < 365) (e2 : k2 = 24 → k1 < 3 → 365 * k3 + r4 < 1460)
    (hy : 1 + a * 400 + k1 * 100 + k2 * 4 + k3 * 1 ≤ 9999) :
    r4 < 337 + feb (1 + a * 400 + k1 * 100 + k2 * 4 + k3 * 1) := by
  by_cases h : lp (1 + a * 400 + k1 * 100 + k2 * 4 + k3 * 1)
  · rw [feb_lp h]; omega
  · rw [feb_no h]; unfold lp at h; omega
theorem year_eq {y m d n y0 r : Int} (hv : vld y m d) (hn : num y m d = n) (h1 : 1 ≤ y0) (h2 : y0 ≤ 9999) (e : dby y0 + r = n) (hr : 0 ≤ r) (hr' : r < 337 + feb y0) :
    y0 = y ∧ r = cum y m + d - 1 := by
  have b := num_bd hv
  have c := dby_succ y0 h1 h2
  have ey : y0 = y := by
    rcases Int.lt_trichotomy y0 y with hlt | heq | hgt
    · have := dby_mono (a := y0 + 1) (b := y) (by omega) (by omega); omega
    · exact heq
    · have := dby_mono (a := y + 1) (b := y0) (by have := hv.1; omega) (by omega); omega
  subst ey
  unfold num at hn
  exact ⟨rfl, by omega⟩
theorem alg_year {y m d n : Int} (hv : vld y m d) (hn : num y m d = n) (a k1 k2 k3 r4 : Int) (h1 : n ≤ 3652058)
    (hs : n = 146097 * a + 36524 * k1 + 1461 * k2 + 365 * k3 + r4) (h0 : 0 ≤ a) (ha : a ≤ 24) (b1 : 0 ≤ k1) (c1 : k1 ≤ 3) (b2 : 0 ≤ k2) (c2 : k2 ≤ 24) (b3 : 0 ≤ k3) (c3 : k3 ≤ 3)
    (h4 : 0 ≤ r4) (h365 : r4 ≤ 365) (e3 : k3 < 3 → r4 < 365) (e2 : k2 = 24 → k1 < 3 → 365 * k3 + r4 < 1460) :
    1 + a * 400 + k1 * 100 + k2 * 4 + k3 = y ∧ r4 = cum y m + d - 1 := by
  have e := alg_date n a k1 k2 k3 r4 hs h0 ha b1 c1 b2 c2 b3 c3
  rw [Int.mul_one] at e
  have hy : 1 + a * 400 + k1 * 100 + k2 * 4 + k3 ≤ 9999 := by
    refine Int.not_lt.1 fun hc => ?_
    have := dby_mono (a := 10000) (b := 1 + a * 400 + k1 * 100 + k2 * 4 + k3) (by omega) (by omega)
    have h10 : dby 10000 = 3652059 := by decide
    omega
  have hl := alg_len a k1 k2 k3 r4 h0 ha b1 c1 b2 c2 b3 c3 h365 e3 e2 (by rw [Int.mul_one]; exact hy)
  rw [Int.mul_one] at hl
  exact year_eq hv hn (by omega) hy e h4 hl
end Go.Proofs.YtbgodionpdemeaaDoor.Cal
