/- Plain facts: later days have greater texts; adding years and taking them away. No program stands in it. -/
import Derived.Test.YtbgodionpdemeaaDoorCalDig
import GoSem.Op.String
set_option linter.unusedVariables false
set_option linter.unusedSimpArgs false
namespace Go.Proofs.YtbgodionpdemeaaDoor.Cal
open Go

theorem less_cons (a b : UInt8) (x y : List UInt8) : Op.bytesLess (a :: x) (b :: y) = (decide (a < b) || (a == b && Op.bytesLess x y)) := rfl
theorem dg_lt (a b : Int) (k l : Nat) : (dg a k < dg b l) ↔ a.toNat / 10 ^ k % 10 < b.toNat / 10 ^ l % 10 := by
  rw [UInt8.lt_iff_toNat_lt, dg_nat, dg_nat]; omega
theorem dg_eq (a b : Int) (k l : Nat) : (dg a k = dg b l) ↔ a.toNat / 10 ^ k % 10 = b.toNat / 10 ^ l % 10 := by
  rw [← UInt8.toNat_inj, dg_nat, dg_nat]; omega
theorem less_same (c : UInt8) (x y : List UInt8) : Op.bytesLess (c :: x) (c :: y) = Op.bytesLess x y := by
  rw [less_cons]; simp
theorem less_dig2 {a b : Int} (ha : 0 ≤ a ∧ a < 100) (hb : 0 ≤ b ∧ b < 100) (x y : List UInt8) :
    Op.bytesLess (dig2 a ++ x) (dig2 b ++ y) = (decide (a < b) || (decide (a = b) && Op.bytesLess x y)) := by
  show Op.bytesLess (dg a 1 :: dg a 0 :: x) (dg b 1 :: dg b 0 :: y) = _
  rw [less_cons, less_cons, Bool.eq_iff_iff]
  simp only [Bool.or_eq_true, Bool.and_eq_true, decide_eq_true_eq, beq_iff_eq, dg_lt, dg_eq]
  generalize Op.bytesLess x y = t
  cases t <;> simp <;> omega
theorem digits4 (a : Int) (h0 : 0 ≤ a) (h : a < 10000) : a.toNat / 10 ^ 3 % 10 < 10 ∧ a.toNat / 10 ^ 2 % 10 < 10 ∧ a.toNat / 10 ^ 1 % 10 < 10 ∧ a.toNat / 10 ^ 0 % 10 < 10 ∧
    a = 1000 * (a.toNat / 10 ^ 3 % 10 : Nat) + 100 * (a.toNat / 10 ^ 2 % 10 : Nat) + 10 * (a.toNat / 10 ^ 1 % 10 : Nat) + (a.toNat / 10 ^ 0 % 10 : Nat) := by
  omega
theorem less_dig4 {a b : Int} (ha : 0 ≤ a ∧ a < 10000) (hb : 0 ≤ b ∧ b < 10000) (x y : List UInt8) :
    Op.bytesLess (dig4 a ++ x) (dig4 b ++ y) = (decide (a < b) || (decide (a = b) && Op.bytesLess x y)) := by
  show Op.bytesLess (dg a 3 :: dg a 2 :: dg a 1 :: dg a 0 :: x) (dg b 3 :: dg b 2 :: dg b 1 :: dg b 0 :: y) = _
  rw [less_cons, less_cons, less_cons, less_cons, Bool.eq_iff_iff]
  simp only [Bool.or_eq_true, Bool.and_eq_true, decide_eq_true_eq, beq_iff_eq, dg_lt, dg_eq]
  obtain ⟨p3, p2, p1, p0, ep⟩ := digits4 a ha.1 ha.2
  obtain ⟨q3, q2, q1, q0, eq⟩ := digits4 b hb.1 hb.2
  generalize a.toNat / 10 ^ 3 % 10 = a3 at *
  generalize a.toNat / 10 ^ 2 % 10 = a2 at *
  generalize a.toNat / 10 ^ 1 % 10 = a1 at *
  generalize a.toNat / 10 ^ 0 % 10 = a0 at *
  generalize b.toNat / 10 ^ 3 % 10 = b3 at *
  generalize b.toNat / 10 ^ 2 % 10 = b2 at *
  generalize b.toNat / 10 ^ 1 % 10 = b1 at *
  generalize b.toNat / 10 ^ 0 % 10 = b0 at *
  generalize Op.bytesLess x y = t
  subst ep eq
  cases t <;> simp <;> omega
theorem num_lt {y m d y' m' d' : Int} (h : vld y m d) (h' : vld y' m' d') (e : y < y' ∨ (y = y' ∧ (m < m' ∨ (m = m' ∧ d < d')))) : num y m d < num y' m' d' := by
  have a := num_bd h
  have b := num_bd h'
  rcases e with e | ⟨rfl, e | ⟨rfl, e⟩⟩
  · have := dby_mono (a := y + 1) (b := y') (by have := h.1; omega) (by omega); omega
  · obtain ⟨h1, h2, h3, h4, h5, h6⟩ := h
    obtain ⟨_, _, h3', h4', h5', h6'⟩ := h'
    have c := cum_succ y m h3 h4
    have := cum_le y (a := m + 1) (b := m') (by omega) (by omega) (by omega)
    unfold num; omega
  · unfold num; omega
theorem text_less {a b : Int} (ha : okN a) (hb : okN b) : Op.bytesLess (textN a) (textN b) = decide (a < b) := by
  rw [textN, textN, if_pos ha, if_pos hb]
  obtain ⟨va, na⟩ := dt_ok ha
  obtain ⟨vb, nb⟩ := dt_ok hb
  generalize dtY a = y at *; generalize dtM a = m at *; generalize dtD a = d at *
  generalize dtY b = y' at *; generalize dtM b = m' at *; generalize dtD b = d' at *
  have la := len_bd y m
  have lb := len_bd y' m'
  have h1 := va.1; have h2 := va.2.1; have h3 := va.2.2.1; have h4 := va.2.2.2.1; have h5 := va.2.2.2.2.1; have h6 := va.2.2.2.2.2
  have g1 := vb.1; have g2 := vb.2.1; have g3 := vb.2.2.1; have g4 := vb.2.2.2.1; have g5 := vb.2.2.2.2.1; have g6 := vb.2.2.2.2.2
  have e1 : Op.bytesLess (textL y m d) (textL y' m' d') = (decide (y < y') || (decide (y = y') && (decide (m < m') || (decide (m = m') && (decide (d < d') || (decide (d = d') && false)))))) := by
    have s1 : textL y m d = dig4 y ++ (45 :: (dig2 m ++ (45 :: (dig2 d ++ [])))) := by simp [textL]
    have s2 : textL y' m' d' = dig4 y' ++ (45 :: (dig2 m' ++ (45 :: (dig2 d' ++ [])))) := by simp [textL]
    rw [s1, s2, less_dig4 (by omega) (by omega), less_same, less_dig2 (by omega) (by omega), less_same, less_dig2 (by omega) (by omega)]
    rfl
  rw [e1, Bool.eq_iff_iff]
  simp only [Bool.or_eq_true, Bool.and_eq_true, decide_eq_true_eq, Bool.and_false, Bool.or_false]
  constructor
  · intro h
    have := num_lt va vb h
    omega
  · intro h
    rcases Int.lt_trichotomy y y' with c | c | c
    · exact Or.inl c
    · rcases Int.lt_trichotomy m m' with c' | c' | c'
      · exact Or.inr ⟨c, Or.inl c'⟩
      · rcases Int.lt_trichotomy d d' with c'' | c'' | c''
        · exact Or.inr ⟨c, Or.inr ⟨c', c''⟩⟩
        · subst c c' c''; omega
        · have := num_lt vb va (Or.inr ⟨c.symm, Or.inr ⟨c'.symm, c''⟩⟩); omega
      · have := num_lt vb va (Or.inr ⟨c.symm, Or.inl c'⟩); omega
    · have := num_lt vb va (Or.inl c); omega

theorem dt_of {y m d : Int} (h : vld y m d) : okN (num y m d) ∧ dtY (num y m d) = y ∧ dtM (num y m d) = m ∧ dtD (num y m d) = d := by
  have b := num_bd h
  have o : okN (num y m d) := ⟨b.2.2.1, b.2.2.2⟩
  obtain ⟨v, n⟩ := dt_ok o
  exact ⟨o, num_inj v h n⟩

/-- Some years later, and as many years back. -/
theorem back {x l : Int} (h : okN x) (hl : 0 ≤ l) (hl2 : l ≤ 9999) (h0 : addE x l = 0) :
    addE (addN x l) (-l) = 0 ∧ (addN (addN x l) (-l) = x ∨ addN (addN x l) (-l) = x - 1 ∧ dtM x = 2 ∧ dtD x = 29) := by
  have hy : dtY x + l ≤ 9999 := by
    refine Int.not_lt.1 fun hc => ?_
    exact (add_out h hl hl2 hc).1 h0
  obtain ⟨hv, hn⟩ := dt_ok h
  have hy1 := hv.1
  obtain ⟨_, en⟩ := addE_0 h (l := l) (by omega) hy
  have hv2 := add_vld (l := l) h (by omega) hy
  obtain ⟨o, ey, em, ed⟩ := dt_of hv2
  rw [en]
  have e3 := addE_0 o (l := -l) (by rw [ey]; omega) (by rw [ey]; have := hv.2.1; omega)
  rw [ey, em, ed, show dtY x + l + -l = dtY x from by omega] at e3
  refine ⟨e3.1, ?_⟩
  rw [e3.2]
  have hd := hv.2.2.2.2.2
  have hm := hv.2.2.1
  generalize dtY x = Y at *
  generalize dtM x = M at *
  generalize dtD x = D at *
  by_cases c : D ≤ lenI (Y + l) M
  · left
    rw [show mn D (lenI (Y + l) M) = D from if_neg (by omega), show mn D (lenI Y M) = D from if_neg (by omega), hn]
  · right
    by_cases m2 : M = 2
    · subst m2
      have k1 : lenI Y 2 = feb Y := rfl
      have k2 : lenI (Y + l) 2 = feb (Y + l) := rfl
      have f1 := feb_bd Y
      have f2 := feb_bd (Y + l)
      rw [k1] at hd ⊢; rw [k2] at c ⊢
      have d29 : D = 29 := by omega
      have f28 : feb (Y + l) = 28 := by omega
      rw [f28, d29, show mn 29 28 = 28 from rfl, show mn 28 (feb Y) = 28 from if_neg (by omega)]
      refine ⟨?_, rfl, rfl⟩
      rw [← hn, d29]; unfold num; omega
    · exact absurd (len_two (y := Y + l) (y' := Y) m2 ▸ hd) c
theorem leapday {x : Int} (h : okN x) (hm : dtM x = 2) (hd : dtD x = 29) : (textN x).drop 5 = [48, 50, 45, 50, 57] := by
  rw [textN, if_pos h, hm, hd]
  rfl
theorem text_len {x : Int} (h : okN x) : (textN x).length = 10 := by
  rw [textN, if_pos h]; rfl
end Go.Proofs.YtbgodionpdemeaaDoor.Cal
