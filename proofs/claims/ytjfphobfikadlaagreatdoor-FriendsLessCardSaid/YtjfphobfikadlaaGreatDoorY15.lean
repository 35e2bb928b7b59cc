/- A round of the elimination, in plain numbers. -/
import Derived.Test.YtjfphobfikadlaaGreatDoorY14
set_option linter.unusedVariables false
set_option linter.unusedSimpArgs false
namespace Go.Proofs.YtjfphobfikadlaaGreatDoor
open Go.RowKit Num

/-- A row behind the clearing of a column: b is the pivot's row. -/
def clrR (p c : Nat) (a b : List Int) : List Int := if a.getD c 0 = 0 then a else linL p ((0 - a.getD c 0) % p) a b
def clrS (p pl c : Nat) (R : List (List Int)) (k : Nat) : List (List Int) := if k = pl then R else R.set k (clrR p c (R.getD k []) (R.getD pl []))
/-- The rows after the first m have been looked at. -/
def clrM (p pl c : Nat) (M : List (List Int)) : Nat → List (List Int)
  | 0 => M
  | m + 1 => clrS p pl c (clrM p pl c M m) m
theorem clrM_len (p pl c : Nat) (M : List (List Int)) : ∀ m, (clrM p pl c M m).length = M.length := by
  intro m
  induction m with
  | zero => rfl
  | succ m ih => show (clrS p pl c (clrM p pl c M m) m).length = _; unfold clrS; split <;> simp [ih]
theorem clrM_get (p pl c : Nat) (M : List (List Int)) : ∀ m, m ≤ M.length → ∀ i, (clrM p pl c M m).getD i [] = if i < m ∧ i ≠ pl then clrR p c (M.getD i []) (M.getD pl []) else M.getD i [] := by
  intro m
  induction m with
  | zero => intro _ i; rw [if_neg (by omega)]; rfl
  | succ m ih =>
    intro hm i
    have h1 := ih (by omega) m
    have h2 := ih (by omega) pl
    rw [if_neg (by omega)] at h1 h2
    show (clrS p pl c (clrM p pl c M m) m).getD i [] = _
    unfold clrS
    by_cases hmp : m = pl
    · rw [if_pos hmp, ih (by omega)]
      by_cases h : i < m ∧ i ≠ pl
      · rw [if_pos h, if_pos (by omega)]
      · rw [if_neg h, if_neg (by omega)]
    · rw [if_neg hmp, h1, h2, getD_setR _ _ _ _ _ (by rw [clrM_len]; omega), ih (by omega)]
      by_cases him : i = m
      · subst him; rw [if_pos rfl, if_pos (by omega)]
      · rw [if_neg him]
        by_cases h : i < m ∧ i ≠ pl
        · rw [if_pos h, if_pos (by omega)]
        · rw [if_neg h, if_neg (by omega)]
theorem clrR_len (p c : Nat) (a b : List Int) (h : b.length = a.length) : (clrR p c a b).length = a.length := by
  unfold clrR; split
  · rfl
  · rw [linL_len]; omega
theorem clrR_bd {p : Nat} (c : Nat) (a b : List Int) (hp : 1 ≤ p) (ha : InF p a) : InF p (clrR p c a b) := by
  unfold clrR; split
  · exact ha
  · exact InF.of_mem (linL_bd p _ _ _ hp)
theorem clrR_cg (p c : Nat) (a b : List Int) (j : Nat) : Cg p ((clrR p c a b).getD j 0) (1 * a.getD j 0 + (-(a.getD c 0)) * b.getD j 0) := by
  unfold clrR; split
  · rename_i h; rw [h]; simp; exact Cg.refl _ _
  · refine (linL_cg p _ a b j).trans ?_
    rw [Int.one_mul]
    refine (Cg.refl p _).add (Cg.mul ?_ (Cg.refl p _))
    have := Cg.emod p (0 - a.getD c 0)
    rwa [Int.zero_sub] at this ⊢
theorem lin1_cg (p : Nat) (x : Int) (b : List Int) (j : Nat) : Cg p ((linL p x [] b).getD j 0) (x * b.getD j 0) := by
  have := linL_cg p x [] b j
  rwa [getD_none [] j (Nat.zero_le _), Int.zero_add] at this
theorem pivM_len (p : Nat) (M : List (List Int)) (pl k c : Nat) : (pivM p M pl k c).length = M.length := by simp [pivM]
theorem pivM_get (p : Nat) (M : List (List Int)) (pl k c i : Nat) (hpl : pl < M.length) (hk : k < M.length) :
    (pivM p M pl k c).getD i [] = if i = pl then linL p (invP p ((M.getD k []).getD c 0)) [] (M.getD k []) else if i = k then M.getD pl [] else M.getD i [] := by
  unfold pivM
  rw [getD_setR _ _ _ _ _ (by simp; exact hpl), getD_setR _ _ _ _ _ (by simp; exact hk), getD_setR _ _ _ _ _ hpl]
  by_cases h : i = pl
  · rw [if_pos h, if_pos h]
  · rw [if_neg h, if_neg h, if_neg h]
/-- The rows behind a round. -/
def rndM (p : Nat) (M : List (List Int)) (pl k c : Nat) : List (List Int) := clrM p pl c (pivM p M pl k c) M.length

theorem elim_round {p u c : Nat} {rows0 rows : List (List Int)} {lead : List Nat} (hp : Prm p) (h : Elim p u c rows0 rows lead) (hc : c < u) {k : Nat} (hk1 : lead.length ≤ k) (hk2 : k < rows.length)
    (hnz : (rows.getD k []).getD c 0 ≠ 0) : Elim p u (c + 1) rows0 (rndM p rows lead.length k c) (lead ++ [c]) := by
  have hp2 := hp.1
  have hl : lead.length < rows.length := by omega
  obtain ⟨pl, hpl⟩ : ∃ pl, lead.length = pl := ⟨_, rfl⟩
  obtain ⟨P, hP⟩ : ∃ P, pivM p rows pl k c = P := ⟨_, rfl⟩
  obtain ⟨R, hR⟩ : ∃ R, rndM p rows pl k c = R := ⟨_, rfl⟩
  have gP : ∀ i, P.getD i [] = if i = pl then linL p (invP p ((rows.getD k []).getD c 0)) [] (rows.getD k []) else if i = k then rows.getD pl [] else rows.getD i [] := fun i => by
    rw [← hP]; exact pivM_get p rows pl k c i (by omega) hk2
  have lP : P.length = rows.length := by rw [← hP]; exact pivM_len _ _ _ _ _
  have gR : ∀ i, R.getD i [] = if i < rows.length ∧ i ≠ pl then clrR p c (P.getD i []) (P.getD pl []) else P.getD i [] := fun i => by
    rw [← hR]; unfold rndM; rw [hP]; exact clrM_get p pl c P rows.length (by omega) i
  have lR : R.length = rows.length := by rw [← hR]; unfold rndM; rw [clrM_len]; exact pivM_len _ _ _ _ _
  rw [hpl, hR]
  have bM : ∀ i j, 0 ≤ (rows.getD i []).getD j 0 ∧ (rows.getD i []).getD j 0 < p := fun i j => by
    rcases Nat.lt_or_ge i rows.length with hi | hi
    · exact (InF.of_mem (h.elems i hi).2).get (by omega) j
    · rw [show rows.getD i [] = [] by rw [List.getD_eq_getElem?_getD, List.getElem?_eq_none hi]; rfl, getD_none [] j (Nat.zero_le _)]; omega
  have ePl : P.getD pl [] = linL p (invP p ((rows.getD k []).getD c 0)) [] (rows.getD k []) := by rw [gP, if_pos rfl]
  have lenM : ∀ i, i < rows.length → (rows.getD i []).length = u + 1 := fun i hi => (h.elems i hi).1
  have lenP : ∀ i, i < rows.length → (P.getD i []).length = u + 1 ∧ InF p (P.getD i []) := fun i hi => by
    rw [gP]
    split
    · exact ⟨by rw [linL_len, lenM k hk2]; simp, InF.of_mem (linL_bd p _ _ _ (by omega))⟩
    · split
      · exact ⟨lenM pl (by omega), InF.of_mem (h.elems pl (by omega)).2⟩
      · exact ⟨lenM i hi, InF.of_mem (h.elems i hi).2⟩
  have lenR : ∀ i, i < rows.length → (R.getD i []).length = u + 1 ∧ InF p (R.getD i []) := fun i hi => by
    rw [gR]
    split
    · refine ⟨?_, clrR_bd c _ _ (by omega) (lenP i hi).2⟩
      rw [clrR_len _ _ _ _ (by rw [(lenP i hi).1, (lenP pl (by omega)).1])]; exact (lenP i hi).1
    · exact lenP i hi
  have bR : ∀ i j, i < rows.length → 0 ≤ (R.getD i []).getD j 0 ∧ (R.getD i []).getD j 0 < p := fun i j hi => (lenR i hi).2.get (by omega) j
  obtain ⟨y, hy⟩ : ∃ y, (rows.getD k []).getD c 0 = y := ⟨_, rfl⟩
  have hyb := bM k c
  rw [hy] at hnz hyb
  have hinv : Cg p (y * invP p y) 1 := invP_cg hp hyb.1 (fun hd => hnz (Int.eq_zero_of_dvd_of_natAbs_lt_natAbs hd (by omega)))
  have cPl : ∀ j, Cg p ((P.getD pl []).getD j 0) (invP p y * (rows.getD k []).getD j 0) := fun j => by rw [ePl, hy]; exact lin1_cg p _ _ j
  have cMk : ∀ j, Cg p ((rows.getD k []).getD j 0) (y * (P.getD pl []).getD j 0 + 0 * (P.getD pl []).getD j 0) := fun j => by
    rw [Int.zero_mul, Int.add_zero]
    have h1 := (Cg.refl p y).mul (cPl j)
    rw [← Int.mul_assoc] at h1
    have h2 := h1.trans (hinv.mul (Cg.refl p _))
    rw [Int.one_mul] at h2
    exact h2.symm
  have eRpl : R.getD pl [] = P.getD pl [] := by rw [gR, if_neg (by omega)]
  have cR : ∀ i j, i < rows.length → i ≠ pl → Cg p ((R.getD i []).getD j 0) (1 * (P.getD i []).getD j 0 + (-((P.getD i []).getD c 0)) * (P.getD pl []).getD j 0) := fun i j hi hne => by
    rw [gR, if_pos ⟨hi, hne⟩]; exact clrR_cg p c _ _ j
  have one : (P.getD pl []).getD c 0 = 1 := by
    have h1 := cPl c
    rw [hy, Int.mul_comm] at h1
    have h2 := (lenP pl (by omega)).2.get (by omega : 1 ≤ p) c
    exact (h1.trans hinv).eq h2.1 h2.2 (by omega) (by omega)
  -- a column that has nothing from the place on stays as it is
  have keep : ∀ j, (∀ m, pl ≤ m → m < rows.length → (rows.getD m []).getD j 0 = 0) → ∀ i, i < rows.length → (R.getD i []).getD j 0 = (rows.getD i []).getD j 0 := by
    intro j hj i hi
    have h0 : Cg p ((P.getD pl []).getD j 0) 0 := by
      have := cPl j
      rwa [hj k (by omega) hk2, Int.mul_zero] at this
    have b1 := bR i j hi
    have b2 := bM i j
    by_cases hip : i = pl
    · rw [hip] at b1 b2 ⊢
      rw [eRpl] at b1 ⊢
      rw [hj pl (Nat.le_refl _) (by omega)]
      exact h0.eq b1.1 b1.2 (by omega) (by omega)
    · have h1 := cR i j hi hip
      have h2 : (P.getD i []).getD j 0 = (rows.getD i []).getD j 0 := by
        rw [gP, if_neg hip]
        split
        · rename_i hik; rw [hik, hj pl (Nat.le_refl _) (by omega), hj k (by omega) hk2]
        · rfl
      rw [h2, Int.one_mul] at h1
      have h3 := h1.trans ((Cg.refl p _).add ((Cg.refl p _).mul h0))
      rw [Int.mul_zero, Int.add_zero] at h3
      exact h3.eq b1.1 b1.2 b2.1 b2.2
  subst hpl
  refine Elim.clear h hc hl lR ?_ ?_ (by rw [eRpl]; exact one) ?_ ?_ ?_ (fun i hi => ⟨(lenR i (by omega)).1, (lenR i (by omega)).2.mem⟩)
  · intro v hv
    have sP : ∀ i, i < rows.length → sat p u (P.getD i []) v := fun i hi => by
      rw [gP]
      split
      · refine sat_lin (c := invP p y) (d := 0) (a := rows.getD k []) (b := rows.getD k []) (fun j _ => ?_) (hv _ (getD_mem hk2)) (hv _ (getD_mem hk2))
        rw [Int.zero_mul, Int.add_zero, hy]; exact lin1_cg p _ _ j
      · split
        · exact hv _ (getD_mem hl)
        · exact hv _ (getD_mem hi)
    intro r hr
    obtain ⟨i, hi, rfl⟩ := mem_getD (d := []) hr
    rw [lR] at hi
    by_cases hip : i = lead.length
    · rw [hip, eRpl]; exact sP _ hl
    · exact sat_lin (fun j _ => cR i j hi hip) (sP i hi) (sP _ hl)
  · intro v hv
    have sR : ∀ i, i < rows.length → sat p u (R.getD i []) v := fun i hi => hv _ (getD_mem (by omega))
    have sPl : sat p u (P.getD lead.length []) v := by rw [← eRpl]; exact sR _ hl
    have sP : ∀ i, i < rows.length → sat p u (P.getD i []) v := fun i hi => by
      by_cases hip : i = lead.length
      · rw [hip]; exact sPl
      · refine sat_lin (c := 1) (d := (P.getD i []).getD c 0) (a := R.getD i []) (b := P.getD lead.length []) (fun j _ => ?_) (sR i hi) sPl
        have h1 := ((Cg.refl p 1).mul (cR i j hi hip)).add (Cg.refl p ((P.getD i []).getD c 0 * (P.getD lead.length []).getD j 0))
        rw [Int.one_mul (1 * _ + _), Int.one_mul ((P.getD i []).getD j 0), Int.neg_mul] at h1
        rw [show (P.getD i []).getD j 0 + -((P.getD i []).getD c 0 * (P.getD lead.length []).getD j 0) + (P.getD i []).getD c 0 * (P.getD lead.length []).getD j 0 = (P.getD i []).getD j 0 by omega] at h1
        exact h1.symm
    intro r hr
    obtain ⟨i, hi, rfl⟩ := mem_getD (d := []) hr
    by_cases hik : i = k
    · rw [hik]; exact sat_lin (fun j _ => cMk j) sPl sPl
    · by_cases hip : i = lead.length
      · have := sP k hk2
        rw [gP, if_neg (by omega), if_pos rfl] at this
        rw [hip]; exact this
      · have := sP i hi
        rwa [gP, if_neg hip, if_neg hik] at this
  · intro i hi hne
    have h1 := cR i c hi hne
    rw [one, Int.one_mul, Int.mul_one, show (P.getD i []).getD c 0 + -((P.getD i []).getD c 0) = 0 by omega] at h1
    have b := bR i c hi
    exact h1.eq b.1 b.2 (by omega) (by omega)
  · intro i m hi hm
    have hb := h.below m hm
    rw [keep _ (fun q q1 q2 => h.rest q _ q1 q2 hb) i hi]
    by_cases him : i = m
    · rw [if_pos him, him]; exact h.one m hm
    · rw [if_neg him]; exact h.zero m i hm hi him
  · intro i j h1 h2 hj
    rw [keep j (fun q q1 q2 => h.rest q j q1 q2 hj) i h2]
    exact h.rest i j (by omega) h2 hj
/-- The rows behind a pivot are as long as before, and elements. -/
theorem pivM_elems {p u pl k c n : Nat} {M : List (List Int)} (hp : 1 ≤ p) (hl : M.length = n) (hpl : pl < n) (hk : k < n) (hM : ∀ i, i < n → (M.getD i []).length = u + 1 ∧ InF p (M.getD i [])) :
    ∀ i, i < n → ((pivM p M pl k c).getD i []).length = u + 1 ∧ InF p ((pivM p M pl k c).getD i []) := fun i hi => by
  rw [pivM_get _ _ _ _ _ _ (by omega) (by omega)]
  split
  · exact ⟨by rw [linL_len, (hM k hk).1]; simp, InF.of_mem (linL_bd p _ _ _ hp)⟩
  · split
    · exact hM pl hpl
    · exact hM i hi
theorem set_same (l : List (List Int)) (i : Nat) : l.set i (l.getD i []) = l := by
  apply List.ext_getElem (by simp)
  intro j h1 h2
  rw [List.getElem_set]
  split
  · rename_i h; subst h; rw [List.getD_eq_getElem?_getD, List.getElem?_eq_getElem h2]; rfl
  · rfl
theorem solV_set (u : Nat) (R : List (List Int)) (lead : List Nat) (k : Nat) (h : lead.getD k 0 < u) :
    ((List.range u).map (solV u R lead k)).set (lead.getD k 0) ((R.getD k []).getD u 0) = (List.range u).map (solV u R lead (k + 1)) := by
  apply List.ext_getElem (by simp)
  intro j h1 h2
  simp only [List.getElem_set, List.getElem_map, List.getElem_range]
  show _ = if j = lead.getD k 0 then (R.getD k []).getD u 0 else solV u R lead k j
  by_cases hj : lead.getD k 0 = j
  · rw [if_pos hj, if_pos hj.symm]
  · rw [if_neg hj, if_neg fun e => hj e.symm]
theorem solV_bd {p u : Nat} {R : List (List Int)} {lead : List Nat} (hp : 1 ≤ p) (hR : ∀ i, i < R.length → InF p (R.getD i [])) (j : Nat) : ∀ k, 0 ≤ solV u R lead k j ∧ solV u R lead k j < p := by
  intro k
  induction k with
  | zero => exact ⟨Int.le_refl 0, by show (0 : Int) < p; omega⟩
  | succ k ih =>
    show 0 ≤ (if j = lead.getD k 0 then (R.getD k []).getD u 0 else solV u R lead k j) ∧ (if j = lead.getD k 0 then (R.getD k []).getD u 0 else solV u R lead k j) < p
    split
    · rcases Nat.lt_or_ge k R.length with hk | hk
      · exact (hR k hk).get hp u
      · rw [show R.getD k [] = [] by rw [List.getD_eq_getElem?_getD, List.getElem?_eq_none hk]; rfl, getD_none [] u (Nat.zero_le _)]; omega
    · exact ih
theorem solL_get (u : Nat) (f : Nat → Int) (j : Nat) (h : j < u) : ((List.range u).map f).getD j 0 = f j := by
  rw [List.getD_eq_getElem?_getD, List.getElem?_map, List.getElem?_range h]; rfl
end Go.Proofs.YtjfphobfikadlaaGreatDoor
