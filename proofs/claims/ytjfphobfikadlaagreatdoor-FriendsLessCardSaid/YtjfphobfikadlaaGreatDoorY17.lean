/- The rows of the equations for the polynomial that most points have, in plain numbers. -/
import Derived.Test.YtjfphobfikadlaaGreatDoorY16
set_option linter.unusedVariables false
set_option linter.unusedSimpArgs false
namespace Go.Proofs.YtjfphobfikadlaaGreatDoor
open Go.RowKit Num

/-- A number times a power, step by step. -/
def pwr (p : Nat) (s x : Int) : Nat → Int
  | 0 => s
  | j + 1 => pwr p s x j * x % p
theorem pwr_cg (p : Nat) (s x : Int) : ∀ j, Cg p (pwr p s x j) (s * x ^ j) := by
  intro j
  induction j with
  | zero => show Cg p s (s * x ^ 0); simp; exact Cg.refl _ _
  | succ j ih =>
    show Cg p (pwr p s x j * x % p) (s * x ^ (j + 1))
    have h := (Cg.emod p (pwr p s x j * x)).trans (ih.mul (Cg.refl p x))
    rwa [Int.mul_assoc, ← Int.pow_succ] at h
theorem pwr_bd {p : Nat} {s x : Int} (hp : 1 ≤ p) (h0 : 0 ≤ s) (h1 : s < p) : ∀ j, 0 ≤ pwr p s x j ∧ pwr p s x j < p := by
  intro j
  cases j with
  | zero => exact ⟨h0, h1⟩
  | succ j => exact ⟨Int.emod_nonneg _ (by omega), Int.emod_lt_of_pos _ (by omega)⟩
/-- The first coefficients, and the others. -/
def rowA (p : Nat) (x : Int) (k : Nat) : List Int := (List.range k).map (pwr p 1 x)
def rowB (p : Nat) (x y : Int) (k : Nat) : List Int := (List.range k).map fun j => (0 - pwr p y x j) % p
def rowL (p : Nat) (above lies : Nat) (x y : Int) : List Int := (rowA p x above ++ rowB p x y lies) ++ [pwr p y x lies]
theorem rowA_len (p : Nat) (x : Int) (k : Nat) : (rowA p x k).length = k := by simp [rowA]
theorem rowB_len (p : Nat) (x y : Int) (k : Nat) : (rowB p x y k).length = k := by simp [rowB]
theorem rowA_succ (p : Nat) (x : Int) (k : Nat) : rowA p x (k + 1) = rowA p x k ++ [pwr p 1 x k] := by simp [rowA, List.range_succ]
theorem rowB_succ (p : Nat) (x y : Int) (k : Nat) : rowB p x y (k + 1) = rowB p x y k ++ [(0 - pwr p y x k) % p] := by simp [rowB, List.range_succ]
theorem rowL_len (p above lies : Nat) (x y : Int) : (rowL p above lies x y).length = above + lies + 1 := by simp [rowL, rowA_len, rowB_len]; omega
theorem rowL_bd {p : Nat} (above lies : Nat) (x y : Int) (hp : 2 ≤ p) (h0 : 0 ≤ y) (h1 : y < p) : InF p (rowL p above lies x y) := by
  apply InF.of_mem
  intro a ha
  unfold rowL at ha
  rcases List.mem_append.1 ha with ha | ha
  · rcases List.mem_append.1 ha with ha | ha
    · obtain ⟨j, _, rfl⟩ := List.mem_map.1 ha
      exact pwr_bd (by omega) (by omega) (by omega) j
    · obtain ⟨j, _, rfl⟩ := List.mem_map.1 ha
      exact ⟨Int.emod_nonneg _ (by omega), Int.emod_lt_of_pos _ (by omega)⟩
  · rw [List.mem_singleton.1 ha]
    exact pwr_bd (by omega) h0 h1 lies
theorem rowL_a (p above lies : Nat) (x y : Int) (j : Nat) (h : j < above) : Cg p ((rowL p above lies x y).getD j 0) (x ^ j) := by
  have e : (rowL p above lies x y).getD j 0 = pwr p 1 x j := by
    unfold rowL
    rw [List.getD_eq_getElem?_getD, List.append_assoc, List.getElem?_append_left (by rw [rowA_len]; exact h)]
    unfold rowA
    rw [List.getElem?_map, List.getElem?_range h]; rfl
  have := pwr_cg p 1 x j
  rwa [Int.one_mul, ← e] at this
theorem rowL_b (p above lies : Nat) (x y : Int) (j : Nat) (h : j < lies) : Cg p ((rowL p above lies x y).getD (above + j) 0) (-(y * x ^ j)) := by
  have e : (rowL p above lies x y).getD (above + j) 0 = (0 - pwr p y x j) % p := by
    unfold rowL
    rw [List.getD_eq_getElem?_getD, List.getElem?_append_left (by rw [List.length_append, rowA_len, rowB_len]; omega), List.getElem?_append_right (by rw [rowA_len]; omega), rowA_len, Nat.add_sub_cancel_left]
    unfold rowB
    rw [List.getElem?_map, List.getElem?_range h]; rfl
  rw [e]
  have h1 := (Cg.emod p (0 - pwr p y x j)).trans ((Cg.refl p 0).sub (pwr_cg p y x j))
  rwa [Int.zero_sub (y * x ^ j)] at h1
theorem rowL_c (p above lies : Nat) (x y : Int) : Cg p ((rowL p above lies x y).getD (above + lies) 0) (y * x ^ lies) := by
  have e : (rowL p above lies x y).getD (above + lies) 0 = pwr p y x lies := by
    unfold rowL
    rw [List.getD_eq_getElem?_getD, List.getElem?_append_right (by rw [List.length_append, rowA_len, rowB_len]; omega), List.length_append, rowA_len, rowB_len, Nat.sub_self]; rfl
  rw [e]; exact pwr_cg p y x lies
theorem map_range_succ (v : Nat → Int) (k : Nat) : (List.range (k + 1)).map v = (List.range k).map v ++ [v k] := by simp [List.range_succ]
theorem row_dot (p above lies : Nat) (x y : Int) (v : Nat → Int) : ∀ k, k ≤ above → Cg p (dot (rowL p above lies x y) v k) (ev ((List.range k).map v) x) := by
  intro k
  induction k with
  | zero => intro _; exact Cg.refl _ _
  | succ k ih =>
    intro hk
    show Cg p (dot (rowL p above lies x y) v k + (rowL p above lies x y).getD k 0 * v k) _
    rw [map_range_succ, ev_snoc, List.length_map, List.length_range]
    exact (ih (by omega)).add ((rowL_a p above lies x y k (by omega)).mul (Cg.refl p _))
theorem row_dot2 (p above lies : Nat) (x y : Int) (v : Nat → Int) : ∀ k, k ≤ lies → Cg p (dot (rowL p above lies x y) v (above + k)) (ev ((List.range above).map v) x - y * ev ((List.range k).map fun j => v (above + j)) x) := by
  intro k
  induction k with
  | zero =>
    intro _
    have := row_dot p above lies x y v above (Nat.le_refl _)
    simpa [ev] using this
  | succ k ih =>
    intro hk
    show Cg p (dot (rowL p above lies x y) v (above + k) + (rowL p above lies x y).getD (above + k) 0 * v (above + k)) _
    rw [map_range_succ, ev_snoc, List.length_map, List.length_range]
    have h := (ih (by omega)).add ((rowL_b p above lies x y k (by omega)).mul (Cg.refl p (v (above + k))))
    rwa [Int.neg_mul, Int.mul_assoc, show ev ((List.range above).map v) x - y * ev ((List.range k).map fun j => v (above + j)) x + -(y * (x ^ k * v (above + k))) = ev ((List.range above).map v) x - y * (ev ((List.range k).map fun j => v (above + j)) x + x ^ k * v (above + k)) by rw [Int.mul_add]; omega] at h
/-- A row is met just where the equation of the two polynomials holds. -/
theorem row_sat (p above lies : Nat) (x y : Int) (v : Nat → Int) : sat p (above + lies) (rowL p above lies x y) v ↔ Cg p (ev ((List.range above).map v) x) (y * ev (((List.range lies).map fun j => v (above + j)) ++ [1]) x) := by
  have h1 := row_dot2 p above lies x y v lies (Nat.le_refl _)
  have h2 := rowL_c p above lies x y
  rw [ev_snoc, List.length_map, List.length_range, Int.mul_one, Int.mul_add]
  generalize ev ((List.range above).map v) x = A at *
  generalize y * ev ((List.range lies).map fun j => v (above + j)) x = B at *
  generalize y * x ^ lies = C at *
  constructor
  · intro h
    have h3 := ((h1.symm.trans (h.trans h2)).add (Cg.refl p B))
    rwa [show A - B + B = A by omega, show C + B = B + C by omega] at h3
  · intro h
    have h3 := h.sub (Cg.refl p B)
    rw [show B + C - B = C by omega] at h3
    exact h1.trans (h3.trans h2.symm)
/-- The rows of all points. -/
def rowsM (p above lies : Nat) (X Y : List Int) (k : Nat) : List (List Int) := (List.range k).map fun i => rowL p above lies (X.getD i 0) (Y.getD i 0)
theorem rowsM_len (p above lies : Nat) (X Y : List Int) (k : Nat) : (rowsM p above lies X Y k).length = k := by simp [rowsM]
theorem rowsM_get (p above lies : Nat) (X Y : List Int) (k i : Nat) (h : i < k) : (rowsM p above lies X Y k).getD i [] = rowL p above lies (X.getD i 0) (Y.getD i 0) := by
  unfold rowsM
  rw [List.getD_eq_getElem?_getD, List.getElem?_map, List.getElem?_range h]; rfl
theorem rowsM_succ (p above lies : Nat) (X Y : List Int) (k : Nat) : rowsM p above lies X Y (k + 1) = rowsM p above lies X Y k ++ [rowL p above lies (X.getD k 0) (Y.getD k 0)] := by simp [rowsM, List.range_succ]
theorem rows_sol (p above lies : Nat) (X Y : List Int) (n : Nat) (v : Nat → Int) : Sol p (above + lies) (rowsM p above lies X Y n) v ↔ ∀ i, i < n → Cg p (ev ((List.range above).map v) (X.getD i 0)) (Y.getD i 0 * ev (((List.range lies).map fun j => v (above + j)) ++ [1]) (X.getD i 0)) := by
  constructor
  · intro h i hi
    exact (row_sat p above lies _ _ v).1 (h _ (List.mem_map.2 ⟨i, List.mem_range.2 hi, rfl⟩))
  · intro h r hr
    obtain ⟨i, hi, rfl⟩ := List.mem_map.1 hr
    exact (row_sat p above lies _ _ v).2 (h i (List.mem_range.1 hi))
theorem range_take (q E : List Int) : (List.range q.length).map (fun j => (q ++ E).getD j 0) = q ∧ (List.range E.length).map (fun j => (q ++ E).getD (q.length + j) 0) = E := by
  constructor
  · apply List.ext_getElem (by simp)
    intro i h1 h2
    rw [List.getElem_map, List.getElem_range, List.getD_eq_getElem?_getD, List.getElem?_append_left h2, List.getElem?_eq_getElem h2]; rfl
  · apply List.ext_getElem (by simp)
    intro i h1 h2
    rw [List.getElem_map, List.getElem_range, List.getD_eq_getElem?_getD, List.getElem?_append_right (by omega), Nat.add_sub_cancel_left, List.getElem?_eq_getElem h2]; rfl
/-- No solution: no polynomial has most of the points. -/
theorem rows_none {p : Nat} {n need lies : Nat} {X Y : List Int} (h : ∀ v, ¬ Sol p (need + lies + lies) (rowsM p (need + lies) lies X Y n) v) (F : List Int) (hF : F.length ≤ need) : ¬ n ≤ agr p F (fOf X) (fOf Y) n + lies := by
  intro hg
  obtain ⟨q, E, hq, hE, he⟩ := bw_solv (p := p) hF hg
  have hr := range_take q E
  rw [hq, hE] at hr
  exact h (fun j => (q ++ E).getD j 0) ((rows_sol p (need + lies) lies X Y n _).2 fun i hi => by rw [hr.1, hr.2]; exact he i hi)
/-- A solution: its quotient is the polynomial that most points have. -/
theorem rows_quot {p : Nat} (hp : Prm p) {n need lies : Nat} {X Y L Q R : List Int} (hn : need + 2 * lies ≤ n) (hA : ApartN p (fOf X) n) (hL : L.length = need + lies + lies) (hs : Sol p (need + lies + lies) (rowsM p (need + lies) lies X Y n) fun j => L.getD j 0)
    (cQ : Num.Can p Q) (cR : Num.Can p R) (hR : R.length ≤ lies) (hQ : Q.length ≤ need) (hd : ∀ x, Cg p (ev (L.take (need + lies)) x) (ev Q x * ev (L.drop (need + lies) ++ [1]) x + ev R x))
    (F : List Int) (hF : F.length ≤ need) (cF : Num.Can p F) (hg : n ≤ agr p F (fOf X) (fOf Y) n + lies) : Q = F ∧ R = [] := by
  have lt : (L.take (need + lies)).length = need + lies := by rw [List.length_take]; omega
  have ld : (L.drop (need + lies)).length = lies := by rw [List.length_drop]; omega
  have hr := range_take (L.take (need + lies)) (L.drop (need + lies))
  rw [List.take_append_drop, lt, ld] at hr
  have he := (rows_sol p (need + lies) lies X Y n _).1 hs
  rw [hr.1, hr.2] at he
  exact bw_quot hp hn hA hF cF hg (by omega) ld he cQ hQ cR hR hd
end Go.Proofs.YtjfphobfikadlaaGreatDoor
