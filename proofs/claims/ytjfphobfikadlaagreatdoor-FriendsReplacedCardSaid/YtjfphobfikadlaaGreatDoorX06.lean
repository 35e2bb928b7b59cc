/- Plain numbers: points of which most lie on one polynomial. No program stands in it. -/
import Derived.Test.YtjfphobfikadlaaGreatDoorX01
set_option linter.unusedVariables false
set_option linter.unusedSimpArgs false
namespace Go.Proofs.YtjfphobfikadlaaGreatDoor.Num

theorem dv_coef {p a : Int} : ∀ l : List Int, (∀ c ∈ dv a l, p ∣ c) → p ∣ ev l a → ∀ c ∈ l, p ∣ c := by
  intro l
  induction l with
  | nil => intro _ _ c hc; cases hc
  | cons c l ih =>
    cases l with
    | nil =>
      intro _ h d hd
      simp at hd; subst hd
      simpa [ev] using h
    | cons d l =>
      intro h1 h2
      have h3 : p ∣ ev (d :: l) a := h1 _ (by simp [dv])
      have h4 := ih (fun c hc => h1 c (by simp [dv]; exact Or.inr hc)) h3
      intro e he
      rcases List.mem_cons.1 he with rfl | he
      · have h5 : p ∣ e + a * ev (d :: l) a := h2
        have h6 := Int.dvd_sub h5 (Int.dvd_trans h3 (Int.dvd_mul_left a _))
        rwa [Int.add_sub_cancel] at h6
      · exact h4 e he
/-- A polynomial that is 0 modulo p at as many places as it has coefficients has none but 0. -/
theorem coef_zero {p : Nat} (hp : Prm p) : ∀ (xs l : List Int), l.length ≤ xs.length → Apart p xs → (∀ x ∈ xs, (p : Int) ∣ ev l x) → ∀ c ∈ l, (p : Int) ∣ c := by
  intro xs
  induction xs with
  | nil =>
    intro l hl _ _ c hc
    have : l = [] := List.eq_nil_of_length_eq_zero (by simpa using hl)
    subst this; cases hc
  | cons a xs ih =>
    intro l hl hA hr
    refine dv_coef l (ih (dv a l) ?_ hA.2 ?_) (hr a (by simp))
    · rw [dv_len]; simp at hl; omega
    · intro y hy
      have h1 := hr y (by simp [hy])
      rw [dv_ev a y l] at h1
      have h2 : (p : Int) ∣ ev (dv a l) y * (y - a) := by
        have := Int.dvd_sub h1 (hr a (by simp))
        rwa [Int.add_sub_cancel] at this
      rcases prm_dvd_int hp h2 with k | k
      · exact k
      · exact absurd k (hA.1 y hy)
theorem IsP.congr {n : Nat} {f g : Int → Int} (h : IsP n f) (e : ∀ x, g x = f x) : IsP n g := by
  obtain ⟨l, hl, hf⟩ := h
  exact ⟨l, hl, fun x => by rw [e, hf]⟩
theorem IsP.ofL (l : List Int) : IsP l.length fun x => ev l x := ⟨l, Nat.le_refl _, fun _ => rfl⟩
theorem IsP.shift {n : Nat} {g : Int → Int} (hg : IsP n g) : IsP (n + 1) fun x => x * g x :=
  (hg.lin 0).congr fun x => by simp
theorem IsP.mulL {m : Nat} {g : Int → Int} (hg : IsP m g) (hm : 1 ≤ m) : ∀ l : List Int, IsP (l.length + m - 1) fun x => ev l x * g x := by
  intro l
  induction l with
  | nil => exact ⟨[], by simp, fun x => by simp [ev]⟩
  | cons c l ih =>
    refine (IsP.add ((hg.smul c).mono (by simp)) ((ih.shift).mono (by simp; omega))).congr fun x => ?_
    show (c + x * ev l x) * g x = c * g x + x * (ev l x * g x)
    rw [Int.add_mul, Int.mul_assoc]
theorem IsP.pow {m : Nat} {g : Int → Int} (hg : IsP m g) : ∀ k, IsP (k + m) fun x => x ^ k * g x := by
  intro k
  induction k with
  | zero => exact (hg.mono (by omega)).congr fun x => by simp
  | succ k ih =>
    refine (ih.shift.mono (by omega)).congr fun x => ?_
    rw [Int.pow_succ, Int.mul_comm (x ^ k) x, Int.mul_assoc]
theorem ev_snoc (d x : Int) : ∀ l, ev (l ++ [d]) x = ev l x + x ^ l.length * d := by
  intro l
  induction l with
  | nil => simp [ev]
  | cons c l ih =>
    show c + x * ev (l ++ [d]) x = c + x * ev l x + x ^ (l.length + 1) * d
    rw [ih, Int.mul_add, Int.pow_succ, Int.mul_comm (x ^ l.length) x, Int.mul_assoc, Int.add_assoc]
theorem ev_pad (x : Int) : ∀ (l : List Int) k, ev (l ++ List.replicate k 0) x = ev l x := by
  intro l
  induction l with
  | nil =>
    intro k
    induction k with
    | zero => rfl
    | succ k ih =>
      show 0 + x * ev ([] ++ List.replicate k 0) x = _
      rw [ih]; simp [ev]
  | cons c l ih =>
    intro k
    show c + x * ev (l ++ List.replicate k 0) x = _
    rw [ih]; rfl
/-- A polynomial as a list of a given length. -/
theorem IsP.exact {n : Nat} {g : Int → Int} (h : IsP n g) : ∃ l : List Int, l.length = n ∧ ∀ x, g x = ev l x := by
  obtain ⟨l, hl, hg⟩ := h
  exact ⟨l ++ List.replicate (n - l.length) 0, by simp; omega, fun x => by rw [ev_pad, hg]⟩
theorem ring1 (A B E P X d R : Int) : (A + X * d) * (E + P * 1) - R = (A * (E + P * 1) + d * (X * E) - R) + X * P * d := by
  simp only [Int.add_mul, Int.mul_add, Int.mul_one]
  have h1 : X * d * E = d * (X * E) := by rw [Int.mul_comm X d, Int.mul_assoc]
  have h2 : X * d * P = X * P * d := by rw [Int.mul_assoc, Int.mul_comm d P, ← Int.mul_assoc]
  omega
theorem ring2 (A E P X d : Int) : A * (E + P * 1) = (A + X * d) * (E + P * 1) - d * (X * (E + P * 1)) := by
  rw [Int.add_mul, show X * d * (E + P * 1) = d * (X * (E + P * 1)) by rw [Int.mul_comm X d, Int.mul_assoc], Int.add_sub_cancel]
/-- A multiple of a polynomial with the first coefficient 1 that has a lower degree is 0. -/
theorem monic_div {p : Nat} (hp : Prm p) (xs : List Int) (hA : Apart p xs) (E : List Int) : ∀ (k : Nat) (D : List Int), D.length = k → ∀ R : List Int, R.length ≤ E.length → k + E.length ≤ xs.length →
    (∀ x ∈ xs, Cg p (ev D x * ev (E ++ [1]) x) (ev R x)) → ∀ c ∈ D, (p : Int) ∣ c := by
  intro k
  induction k with
  | zero =>
    intro D hD R _ _ _ c hc
    rw [List.eq_nil_of_length_eq_zero hD] at hc; cases hc
  | succ k ih =>
    intro D hD R hR hx h
    rcases List.eq_nil_or_concat D with rfl | ⟨D', d, rfl⟩
    · cases hD
    rw [List.concat_eq_append] at hD h ⊢
    have hk : D'.length = k := by simpa using hD
    have g1 : IsP (k + E.length) fun x => ev D' x * ev (E ++ [1]) x := ((IsP.ofL (E ++ [1])).mulL (by simp) D').mono (by simp; omega)
    have g2 : IsP (k + E.length) fun x => d * (x ^ k * ev E x) := ((IsP.ofL E).pow k).smul d
    have g3 : IsP (k + E.length) fun x => - ev R x := ((IsP.ofL R).neg).mono (by omega)
    obtain ⟨m, hm, hg⟩ := ((g1.add g2).add g3).exact
    have hev : ∀ x, ev (m ++ [d]) x = ev (D' ++ [d]) x * ev (E ++ [1]) x - ev R x := fun x => by
      rw [ev_snoc, ev_snoc, ← hg, hm, ev_snoc, hk]
      show ev D' x * (ev E x + x ^ E.length * 1) + d * (x ^ k * ev E x) + - ev R x + x ^ (k + E.length) * d = _
      rw [ring1 (ev D' x) 0, Int.pow_add]; omega
    have hall := coef_zero hp xs (m ++ [d]) (by simp; omega) hA (fun x hxm => by rw [hev]; exact Cg.iff_dvd.1 (h x hxm))
    have hd : (p : Int) ∣ d := hall d (by simp)
    have hD' := ih D' hk R hR (by omega) (fun x hxm => by
      have h1 := h x hxm
      have e1 : ev D' x * ev (E ++ [1]) x = ev (D' ++ [d]) x * ev (E ++ [1]) x - d * (x ^ k * ev (E ++ [1]) x) := by
        rw [ev_snoc, ev_snoc, hk]; exact ring2 _ _ _ _ _
      rw [e1]
      have e2 : Cg p (d * (x ^ k * ev (E ++ [1]) x)) 0 := Cg.zero_iff.2 (Int.dvd_trans hd (Int.dvd_mul_right _ _))
      have := h1.sub e2
      rwa [Int.sub_zero] at this)
    intro c hc
    rcases List.mem_append.1 hc with h' | h'
    · exact hD' c h'
    · simp at h'; subst h'; exact hd

/-! ### How many coefficients there are up to the last one that is not 0 -/
def degN : List Int → Nat
  | [] => 0
  | c :: l => if 0 < degN l then degN l + 1 else if c = 0 then 0 else 1
theorem degN_le : ∀ l, degN l ≤ l.length := by
  intro l
  induction l with
  | nil => exact Nat.le_refl 0
  | cons c l ih => unfold degN; simp only [List.length_cons]; split <;> (try split) <;> omega
def trim (l : List Int) : List Int := l.take (degN l)
theorem trim_len (l : List Int) : (trim l).length = degN l := by unfold trim; rw [List.length_take]; have := degN_le l; omega
theorem degN_zero : ∀ l, degN l = 0 → ∀ x, ev l x = 0 := by
  intro l
  induction l with
  | nil => intro _ _; rfl
  | cons c l ih =>
    intro h x
    unfold degN at h
    split at h
    · omega
    · split at h
      · show c + x * ev l x = 0
        rw [ih (by omega), ‹c = 0›]; simp
      · omega
theorem trim_ev (x : Int) : ∀ l, ev (trim l) x = ev l x := by
  intro l
  induction l with
  | nil => rfl
  | cons c l ih =>
    by_cases h : 0 < degN l
    · have e : trim (c :: l) = c :: trim l := by
        unfold trim
        rw [show degN (c :: l) = degN l + 1 by rw [degN, if_pos h]]; rfl
      rw [e]
      show c + x * ev (trim l) x = _
      rw [ih]; rfl
    · have hz := degN_zero l (by omega) x
      by_cases hc : c = 0
      · have e : trim (c :: l) = [] := by
          unfold trim
          rw [show degN (c :: l) = 0 by rw [degN, if_neg h, if_pos hc]]; rfl
        rw [e]
        show 0 = c + x * ev l x
        rw [hz, hc]; simp
      · have e : trim (c :: l) = [c] := by
          unfold trim
          rw [show degN (c :: l) = 1 by rw [degN, if_neg h, if_neg hc]]; rfl
        rw [e]
        show c + x * 0 = c + x * ev l x
        rw [hz]
theorem degN_trim (l : List Int) : degN (trim l) = degN l := by
  induction l with
  | nil => rfl
  | cons c l ih =>
    by_cases h : 0 < degN l
    · have e : trim (c :: l) = c :: trim l := by
        unfold trim
        rw [show degN (c :: l) = degN l + 1 by rw [degN, if_pos h]]; rfl
      rw [e, degN, degN, ih]
    · by_cases hc : c = 0
      · have e : trim (c :: l) = [] := by
          unfold trim
          rw [show degN (c :: l) = 0 by rw [degN, if_neg h, if_pos hc]]; rfl
        rw [e, show degN (c :: l) = 0 by rw [degN, if_neg h, if_pos hc]]; rfl
      · have e : trim (c :: l) = [c] := by
          unfold trim
          rw [show degN (c :: l) = 1 by rw [degN, if_neg h, if_neg hc]]; rfl
        rw [e, show degN (c :: l) = 1 by rw [degN, if_neg h, if_neg hc]]
        simp [degN, hc]
theorem degN_last : ∀ l : List Int, degN l = l.length → 0 < l.length → l.getD (l.length - 1) 0 ≠ 0 := by
  intro l
  induction l with
  | nil => intro _ h; exact absurd h (Nat.lt_irrefl 0)
  | cons c l ih =>
    intro h _
    have hle := degN_le l
    rw [degN] at h
    simp only [List.length_cons] at h ⊢
    by_cases h1 : 0 < degN l
    · rw [if_pos h1] at h
      have h2 : degN l = l.length := by omega
      have := ih h2 (by omega)
      obtain ⟨k, hk⟩ : ∃ k, l.length = k + 1 := ⟨l.length - 1, by omega⟩
      rw [hk] at this ⊢
      simpa using this
    · rw [if_neg h1] at h
      have hl : l.length = 0 := by split at h <;> omega
      rw [hl] at h ⊢
      by_cases hc : c = 0
      · rw [if_pos hc] at h; omega
      · simpa using hc
/-- Coefficients of the field, the last one not 0. -/
def Can (p : Int) (l : List Int) : Prop := (∀ c ∈ l, 0 ≤ c ∧ c < p) ∧ degN l = l.length
theorem can_trim {p : Int} {l : List Int} (h : ∀ c ∈ l, 0 ≤ c ∧ c < p) : Can p (trim l) :=
  ⟨fun c hc => h c (List.mem_of_mem_take hc), by rw [degN_trim, trim_len]⟩
theorem getD_bd {p : Int} (hp : 0 < p) {l : List Int} (h : ∀ c ∈ l, 0 ≤ c ∧ c < p) (i : Nat) : 0 ≤ l.getD i 0 ∧ l.getD i 0 < p := by
  rw [List.getD_eq_getElem?_getD]
  by_cases hi : i < l.length
  · rw [List.getElem?_eq_getElem hi]; exact h _ (List.getElem_mem hi)
  · rw [List.getElem?_eq_none (by omega)]; exact ⟨Int.le_refl 0, hp⟩
theorem getD_none (l : List Int) (i : Nat) (h : l.length ≤ i) : l.getD i 0 = 0 := by
  rw [List.getD_eq_getElem?_getD, List.getElem?_eq_none h]; rfl
theorem can_ext {p : Int} (hp : 0 < p) {l m : List Int} (hl : Can p l) (hm : Can p m) (h : ∀ i, Cg p (l.getD i 0) (m.getD i 0)) : l = m := by
  have he : ∀ i, l.getD i 0 = m.getD i 0 := fun i => (h i).eq (getD_bd hp hl.1 i).1 (getD_bd hp hl.1 i).2 (getD_bd hp hm.1 i).1 (getD_bd hp hm.1 i).2
  have hlen : l.length = m.length := by
    rcases Nat.lt_trichotomy l.length m.length with h1 | h1 | h1
    · exact absurd ((he (m.length - 1)).symm.trans (getD_none l _ (by omega))) (degN_last m hm.2 (by omega))
    · exact h1
    · exact absurd ((he (l.length - 1)).trans (getD_none m _ (by omega))) (degN_last l hl.2 (by omega))
  apply List.ext_getElem hlen
  intro i h1 h2
  have := he i
  rwa [List.getD_eq_getElem?_getD, List.getD_eq_getElem?_getD, List.getElem?_eq_getElem h1, List.getElem?_eq_getElem h2] at this
theorem addL_getD (i : Nat) : ∀ l m, (addL l m).getD i 0 = l.getD i 0 + m.getD i 0 := by
  intro l
  induction l generalizing i with
  | nil => intro m; cases m <;> simp [addL]
  | cons a l ih =>
    intro m
    cases m with
    | nil => simp [addL]
    | cons b m =>
      cases i with
      | zero => simp [addL]
      | succ i =>
        have := ih i m
        simpa [addL] using this
theorem map_getD (c : Int) (i : Nat) : ∀ l : List Int, (l.map (c * ·)).getD i 0 = c * l.getD i 0 := by
  intro l
  induction l generalizing i with
  | nil => simp
  | cons a l ih =>
    cases i with
    | zero => simp
    | succ i => simpa using ih i
/-- Two polynomials of the field that agree at enough places are the same list. -/
theorem can_same {p : Nat} (hp : Prm p) {l m : List Int} (hl : Can p l) (hm : Can p m) (xs : List Int) (h1 : l.length ≤ xs.length) (h2 : m.length ≤ xs.length) (hA : Apart p xs) (h : ∀ x ∈ xs, Cg p (ev l x) (ev m x)) : l = m := by
  have hp0 : (0 : Int) < p := by have := hp.1; omega
  refine can_ext hp0 hl hm fun i => ?_
  have hz := coef_zero hp xs (addL l (m.map ((-1) * ·))) (by rw [addL_len]; simp; omega) hA (fun x hx => by
    rw [addL_ev, smul_ev]
    have := Cg.iff_dvd.1 (h x hx)
    rwa [show ev l x + -1 * ev m x = ev l x - ev m x by omega])
  have hd : (p : Int) ∣ (addL l (m.map ((-1) * ·))).getD i 0 := by
    rw [List.getD_eq_getElem?_getD]
    by_cases hi : i < (addL l (m.map ((-1) * ·))).length
    · rw [List.getElem?_eq_getElem hi]; exact hz _ (List.getElem_mem hi)
    · rw [List.getElem?_eq_none (by omega)]; exact Int.dvd_zero _
  rw [addL_getD, map_getD] at hd
  exact Cg.iff_dvd.2 (by rwa [show l.getD i 0 + -1 * m.getD i 0 = l.getD i 0 - m.getD i 0 by omega] at hd)

/-! ### Points -/
/-- How many of the first points a polynomial has. -/
def agr (p : Int) (l : List Int) (xs ys : Nat → Int) : Nat → Nat
  | 0 => 0
  | k + 1 => agr p l xs ys k + (if ev l (xs k) % p = ys k then 1 else 0)
def good (p : Int) (l : List Int) (xs ys : Nat → Int) (i : Nat) : Bool := decide (ev l (xs i) % p = ys i)
theorem agr_filter (p : Int) (l : List Int) (xs ys : Nat → Int) : ∀ n, ((List.range n).filter (good p l xs ys)).length = agr p l xs ys n := by
  intro n
  induction n with
  | zero => rfl
  | succ n ih =>
    rw [List.range_succ, List.filter_append, List.length_append, ih]
    show _ = agr p l xs ys n + _
    by_cases h : ev l (xs n) % p = ys n
    · rw [if_pos h]; simp [good, h]
    · rw [if_neg h]; simp [good, h]
theorem agr_le (p : Int) (l : List Int) (xs ys : Nat → Int) (n : Nat) : agr p l xs ys n ≤ n := by
  rw [← agr_filter]
  have := List.length_filter_le (good p l xs ys) (List.range n)
  simpa using this
theorem two_filters (a b : Nat → Bool) : ∀ l : List Nat, (l.filter a).length + (l.filter b).length ≤ l.length + (l.filter fun i => a i && b i).length := by
  intro l
  induction l with
  | nil => simp
  | cons c l ih =>
    simp only [List.filter_cons]
    cases a c <;> cases b c <;> simp <;> omega
theorem apart_filter {p : Nat} {xs : Nat → Int} {n : Nat} (h : ApartN p xs n) (a : Nat → Bool) : Apart p (((List.range n).filter a).map xs) := by
  apply apart_map
  · exact List.Pairwise.filter _ List.nodup_range
  · intro i hi j hj hne
    have h1 := List.mem_range.1 (List.mem_filter.1 hi).1
    have h2 := List.mem_range.1 (List.mem_filter.1 hj).1
    exact h i j h1 h2 hne
/-- Only one polynomial has so many of the points. -/
theorem only_one {p : Nat} (hp : Prm p) {n need lies : Nat} (hn : need + 2 * lies ≤ n) {xs ys : Nat → Int} (hA : ApartN p xs n) {l m : List Int} (hl : Can p l) (hm : Can p m) (h1 : l.length ≤ need) (h2 : m.length ≤ need)
    (g1 : n ≤ agr p l xs ys n + lies) (g2 : n ≤ agr p m xs ys n + lies) : l = m := by
  have ht := two_filters (good p l xs ys) (good p m xs ys) (List.range n)
  rw [agr_filter, agr_filter, List.length_range] at ht
  refine can_same hp hl hm (((List.range n).filter fun i => good p l xs ys i && good p m xs ys i).map xs) (by rw [List.length_map]; omega) (by rw [List.length_map]; omega) (apart_filter hA _) fun x hx => ?_
  obtain ⟨i, hi, rfl⟩ := List.mem_map.1 hx
  have := (List.mem_filter.1 hi).2
  simp only [good, Bool.and_eq_true, decide_eq_true_eq] at this
  exact this.1.trans this.2.symm
end Go.Proofs.YtjfphobfikadlaaGreatDoor.Num
