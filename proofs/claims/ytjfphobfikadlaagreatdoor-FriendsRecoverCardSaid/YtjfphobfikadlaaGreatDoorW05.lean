/- Plain numbers: points of which most lie on one polynomial. No program stands in it. Plain numbers: the polynomial that is 0 at the wrong places, and linear equations modulo a prime. No program stands in it. Contracts: a slice backwards (slices.Backward), a polynomial's value, its degree. -/
import Derived.Test.YtjfphobfikadlaaGreatDoorW01
import Derived.Test.YtjfphobfikadlaaGreatDoorW04
import Derived.RangeFuncNested
import Derived.RangeFuncBound
import Derived.RangeFuncCalls
import Derived.RangeFuncLeaves
import Derived.RangeFuncWrites
import Derived.RangeFuncBox
import Derived.Shelf.Abstract
import Derived.Shelf.RegionOpen
import Derived.WalkKit
import Derived.OwnWalkIn
import Derived.TacticsInMore
import Derived.LoopNIn
import Derived.LoopIn
set_option linter.unusedVariables false
set_option linter.unusedSimpArgs false
namespace Go.Proofs.YtjfphobfikadlaaGreatDoor.Num

theorem dv_coef {p a : Int} : ∀ l : List Int, (∀ c ∈ dv a l, p ∣ c) → p ∣ ev l a → ∀ c ∈ l, p ∣ c := by
  intro l
  induction l with
  | nil => intro _ _ c hc; cases hc
  | cons c l ih =>
    cases l with
    | nil =>
      intro _ h d hd
      simp at hd; subst hd
      simpa [ev] using h
    | cons d l =>
      intro h1 h2
      have h3 : p ∣ ev (d :: l) a := h1 _ (by simp [dv])
      have h4 := ih (fun c hc => h1 c (by simp [dv]; exact Or.inr hc)) h3
      intro e he
      rcases List.mem_cons.1 he with rfl | he
      · have h5 : p ∣ e + a * ev (d :: l) a := h2
        have h6 := Int.dvd_sub h5 (Int.dvd_trans h3 (Int.dvd_mul_left a _))
        rwa [Int.add_sub_cancel] at h6
      · exact h4 e he
/-- A polynomial that is 0 modulo p at as many places as it has coefficients has none but 0. -/
theorem coef_zero {p : Nat} (hp : Prm p) : ∀ (xs l : List Int), l.length ≤ xs.length → Apart p xs → (∀ x ∈ xs, (p : Int) ∣ ev l x) → ∀ c ∈ l, (p : Int) ∣ c := by
  intro xs
  induction xs with
  | nil =>
    intro l hl _ _ c hc
    have : l = [] := List.eq_nil_of_length_eq_zero (by simpa using hl)
    subst this; cases hc
  | cons a xs ih =>
    intro l hl hA hr
    refine dv_coef l (ih (dv a l) ?_ hA.2 ?_) (hr a (by simp))
    · rw [dv_len]; simp at hl; omega
    · intro y hy
      have h1 := hr y (by simp [hy])
      rw [dv_ev a y l] at h1
      have h2 : (p : Int) ∣ ev (dv a l) y * (y - a) := by
        have := Int.dvd_sub h1 (hr a (by simp))
        rwa [Int.add_sub_cancel] at this
      rcases prm_dvd_int hp h2 with k | k
      · exact k
      · exact absurd k (hA.1 y hy)
theorem IsP.congr {n : Nat} {f g : Int → Int} (h : IsP n f) (e : ∀ x, g x = f x) : IsP n g := by
  obtain ⟨l, hl, hf⟩ := h
  exact ⟨l, hl, fun x => by rw [e, hf]⟩
theorem IsP.ofL (l : List Int) : IsP l.length fun x => ev l x := ⟨l, Nat.le_refl _, fun _ => rfl⟩
theorem IsP.shift {n : Nat} {g : Int → Int} (hg : IsP n g) : IsP (n + 1) fun x => x * g x :=
  (hg.lin 0).congr fun x => by simp
theorem IsP.mulL {m : Nat} {g : Int → Int} (hg : IsP m g) (hm : 1 ≤ m) : ∀ l : List Int, IsP (l.length + m - 1) fun x => ev l x * g x := by
  intro l
  induction l with
  | nil => exact ⟨[], by simp, fun x => by simp [ev]⟩
  | cons c l ih =>
    refine (IsP.add ((hg.smul c).mono (by simp)) ((ih.shift).mono (by simp; omega))).congr fun x => ?_
    show (c + x * ev l x) * g x = c * g x + x * (ev l x * g x)
    rw [Int.add_mul, Int.mul_assoc]
theorem IsP.pow {m : Nat} {g : Int → Int} (hg : IsP m g) : ∀ k, IsP (k + m) fun x => x ^ k * g x := by
  intro k
  induction k with
  | zero => exact (hg.mono (by omega)).congr fun x => by simp
  | succ k ih =>
    refine (ih.shift.mono (by omega)).congr fun x => ?_
    rw [Int.pow_succ, Int.mul_comm (x ^ k) x, Int.mul_assoc]
theorem ev_snoc (d x : Int) : ∀ l, ev (l ++ [d]) x = ev l x + x ^ l.length * d := by
  intro l
  induction l with
  | nil => simp [ev]
  | cons c l ih =>
    show c + x * ev (l ++ [d]) x = c + x * ev l x + x ^ (l.length + 1) * d
    rw [ih, Int.mul_add, Int.pow_succ, Int.mul_comm (x ^ l.length) x, Int.mul_assoc, Int.add_assoc]
theorem ev_pad (x : Int) : ∀ (l : List Int) k, ev (l ++ List.replicate k 0) x = ev l x := by
  intro l
  induction l with
  | nil =>
    intro k
    induction k with
    | zero => rfl
    | succ k ih =>
      show 0 + x * ev ([] ++ List.replicate k 0) x = _
      rw [ih]; simp [ev]
  | cons c l ih =>
    intro k
    show c + x * ev (l ++ List.replicate k 0) x = _
    rw [ih]; rfl
/-- A polynomial as a list of a given length. -/
theorem IsP.exact {n : Nat} {g : Int → Int} (h : IsP n g) : ∃ l : List Int, l.length = n ∧ ∀ x, g x = ev l x := by
  obtain ⟨l, hl, hg⟩ := h
  exact ⟨l ++ List.replicate (n - l.length) 0, by simp; omega, fun x => by rw [ev_pad, hg]⟩
theorem ring1 (A B E P X d R : Int) : (A + X * d) * (E + P * 1) - R = (A * (E + P * 1) + d * (X * E) - R) + X * P * d := by
  simp only [Int.add_mul, Int.mul_add, Int.mul_one]
  have h1 : X * d * E = d * (X * E) := by rw [Int.mul_comm X d, Int.mul_assoc]
  have h2 : X * d * P = X * P * d := by rw [Int.mul_assoc, Int.mul_comm d P, ← Int.mul_assoc]
  omega
theorem ring2 (A E P X d : Int) : A * (E + P * 1) = (A + X * d) * (E + P * 1) - d * (X * (E + P * 1)) := by
  rw [Int.add_mul, show X * d * (E + P * 1) = d * (X * (E + P * 1)) by rw [Int.mul_comm X d, Int.mul_assoc], Int.add_sub_cancel]
/-- A multiple of a polynomial with the first coefficient 1 that has a lower degree is 0. -/
theorem monic_div {p : Nat} (hp : Prm p) (xs : List Int) (hA : Apart p xs) (E : List Int) : ∀ (k : Nat) (D : List Int), D.length = k → ∀ R : List Int, R.length ≤ E.length → k + E.length ≤ xs.length →
    (∀ x ∈ xs, Cg p (ev D x * ev (E ++ [1]) x) (ev R x)) → ∀ c ∈ D, (p : Int) ∣ c := by
  intro k
  induction k with
  | zero =>
    intro D hD R _ _ _ c hc
    rw [List.eq_nil_of_length_eq_zero hD] at hc; cases hc
  | succ k ih =>
    intro D hD R hR hx h
    rcases List.eq_nil_or_concat D with rfl | ⟨D', d, rfl⟩
    · cases hD
    rw [List.concat_eq_append] at hD h ⊢
    have hk : D'.length = k := by simpa using hD
    have g1 : IsP (k + E.length) fun x => ev D' x * ev (E ++ [1]) x := ((IsP.ofL (E ++ [1])).mulL (by simp) D').mono (by simp; omega)
    have g2 : IsP (k + E.length) fun x => d * (x ^ k * ev E x) := ((IsP.ofL E).pow k).smul d
    have g3 : IsP (k + E.length) fun x => - ev R x := ((IsP.ofL R).neg).mono (by omega)
    obtain ⟨m, hm, hg⟩ := ((g1.add g2).add g3).exact
    have hev : ∀ x, ev (m ++ [d]) x = ev (D' ++ [d]) x * ev (E ++ [1]) x - ev R x := fun x => by
      rw [ev_snoc, ev_snoc, ← hg, hm, ev_snoc, hk]
      show ev D' x * (ev E x + x ^ E.length * 1) + d * (x ^ k * ev E x) + - ev R x + x ^ (k + E.length) * d = _
      rw [ring1 (ev D' x) 0, Int.pow_add]; omega
    have hall := coef_zero hp xs (m ++ [d]) (by simp; omega) hA (fun x hxm => by rw [hev]; exact Cg.iff_dvd.1 (h x hxm))
    have hd : (p : Int) ∣ d := hall d (by simp)
    have hD' := ih D' hk R hR (by omega) (fun x hxm => by
      have h1 := h x hxm
      have e1 : ev D' x * ev (E ++ [1]) x = ev (D' ++ [d]) x * ev (E ++ [1]) x - d * (x ^ k * ev (E ++ [1]) x) := by
        rw [ev_snoc, ev_snoc, hk]; exact ring2 _ _ _ _ _
      rw [e1]
      have e2 : Cg p (d * (x ^ k * ev (E ++ [1]) x)) 0 := Cg.zero_iff.2 (Int.dvd_trans hd (Int.dvd_mul_right _ _))
      have := h1.sub e2
      rwa [Int.sub_zero] at this)
    intro c hc
    rcases List.mem_append.1 hc with h' | h'
    · exact hD' c h'
    · simp at h'; subst h'; exact hd

/-! ### How many coefficients there are up to the last one that is not 0 -/
def degN : List Int → Nat
  | [] => 0
  | c :: l => if 0 < degN l then degN l + 1 else if c = 0 then 0 else 1
theorem degN_le : ∀ l, degN l ≤ l.length := by
  intro l
  induction l with
  | nil => exact Nat.le_refl 0
  | cons c l ih => unfold degN; simp only [List.length_cons]; split <;> (try split) <;> omega
def trim (l : List Int) : List Int := l.take (degN l)
theorem trim_len (l : List Int) : (trim l).length = degN l := by unfold trim; rw [List.length_take]; have := degN_le l; omega
theorem degN_zero : ∀ l, degN l = 0 → ∀ x, ev l x = 0 := by
  intro l
  induction l with
  | nil => intro _ _; rfl
  | cons c l ih =>
    intro h x
    unfold degN at h
    split at h
    · omega
    · split at h
      · show c + x * ev l x = 0
        rw [ih (by omega), ‹c = 0›]; simp
      · omega
theorem trim_ev (x : Int) : ∀ l, ev (trim l) x = ev l x := by
  intro l
  induction l with
  | nil => rfl
  | cons c l ih =>
    by_cases h : 0 < degN l
    · have e : trim (c :: l) = c :: trim l := by
        unfold trim
        rw [show degN (c :: l) = degN l + 1 by rw [degN, if_pos h]]; rfl
      rw [e]
      show c + x * ev (trim l) x = _
      rw [ih]; rfl
    · have hz := degN_zero l (by omega) x
      by_cases hc : c = 0
      · have e : trim (c :: l) = [] := by
          unfold trim
          rw [show degN (c :: l) = 0 by rw [degN, if_neg h, if_pos hc]]; rfl
        rw [e]
        show 0 = c + x * ev l x
        rw [hz, hc]; simp
      · have e : trim (c :: l) = [c] := by
          unfold trim
          rw [show degN (c :: l) = 1 by rw [degN, if_neg h, if_neg hc]]; rfl
        rw [e]
        show c + x * 0 = c + x * ev l x
        rw [hz]
theorem degN_trim (l : List Int) : degN (trim l) = degN l := by
  induction l with
  | nil => rfl
  | cons c l ih =>
    by_cases h : 0 < degN l
    · have e : trim (c :: l) = c :: trim l := by
        unfold trim
        rw [show degN (c :: l) = degN l + 1 by rw [degN, if_pos h]]; rfl
      rw [e, degN, degN, ih]
    · by_cases hc : c = 0
      · have e : trim (c :: l) = [] := by
          unfold trim
          rw [show degN (c :: l) = 0 by rw [degN, if_neg h, if_pos hc]]; rfl
        rw [e, show degN (c :: l) = 0 by rw [degN, if_neg h, if_pos hc]]; rfl
      · have e : trim (c :: l) = [c] := by
          unfold trim
          rw [show degN (c :: l) = 1 by rw [degN, if_neg h, if_neg hc]]; rfl
        rw [e, show degN (c :: l) = 1 by rw [degN, if_neg h, if_neg hc]]
        simp [degN, hc]
theorem degN_last : ∀ l : List Int, degN l = l.length → 0 < l.length → l.getD (l.length - 1) 0 ≠ 0 := by
  intro l
  induction l with
  | nil => intro _ h; exact absurd h (Nat.lt_irrefl 0)
  | cons c l ih =>
    intro h _
    have hle := degN_le l
    rw [degN] at h
    simp only [List.length_cons] at h ⊢
    by_cases h1 : 0 < degN l
    · rw [if_pos h1] at h
      have h2 : degN l = l.length := by omega
      have := ih h2 (by omega)
      obtain ⟨k, hk⟩ : ∃ k, l.length = k + 1 := ⟨l.length - 1, by omega⟩
      rw [hk] at this ⊢
      simpa using this
    · rw [if_neg h1] at h
      have hl : l.length = 0 := by split at h <;> omega
      rw [hl] at h ⊢
      by_cases hc : c = 0
      · rw [if_pos hc] at h; omega
      · simpa using hc
/-- Coefficients of the field, the last one not 0. -/
def Can (p : Int) (l : List Int) : Prop := (∀ c ∈ l, 0 ≤ c ∧ c < p) ∧ degN l = l.length
theorem can_trim {p : Int} {l : List Int} (h : ∀ c ∈ l, 0 ≤ c ∧ c < p) : Can p (trim l) :=
  ⟨fun c hc => h c (List.mem_of_mem_take hc), by rw [degN_trim, trim_len]⟩
theorem getD_bd {p : Int} (hp : 0 < p) {l : List Int} (h : ∀ c ∈ l, 0 ≤ c ∧ c < p) (i : Nat) : 0 ≤ l.getD i 0 ∧ l.getD i 0 < p := by
  rw [List.getD_eq_getElem?_getD]
  by_cases hi : i < l.length
  · rw [List.getElem?_eq_getElem hi]; exact h _ (List.getElem_mem hi)
  · rw [List.getElem?_eq_none (by omega)]; exact ⟨Int.le_refl 0, hp⟩
theorem getD_none (l : List Int) (i : Nat) (h : l.length ≤ i) : l.getD i 0 = 0 := by
  rw [List.getD_eq_getElem?_getD, List.getElem?_eq_none h]; rfl
theorem can_ext {p : Int} (hp : 0 < p) {l m : List Int} (hl : Can p l) (hm : Can p m) (h : ∀ i, Cg p (l.getD i 0) (m.getD i 0)) : l = m := by
  have he : ∀ i, l.getD i 0 = m.getD i 0 := fun i => (h i).eq (getD_bd hp hl.1 i).1 (getD_bd hp hl.1 i).2 (getD_bd hp hm.1 i).1 (getD_bd hp hm.1 i).2
  have hlen : l.length = m.length := by
    rcases Nat.lt_trichotomy l.length m.length with h1 | h1 | h1
    · exact absurd ((he (m.length - 1)).symm.trans (getD_none l _ (by omega))) (degN_last m hm.2 (by omega))
    · exact h1
    · exact absurd ((he (l.length - 1)).trans (getD_none m _ (by omega))) (degN_last l hl.2 (by omega))
  apply List.ext_getElem hlen
  intro i h1 h2
  have := he i
  rwa [List.getD_eq_getElem?_getD, List.getD_eq_getElem?_getD, List.getElem?_eq_getElem h1, List.getElem?_eq_getElem h2] at this
theorem addL_getD (i : Nat) : ∀ l m, (addL l m).getD i 0 = l.getD i 0 + m.getD i 0 := by
  intro l
  induction l generalizing i with
  | nil => intro m; cases m <;> simp [addL]
  | cons a l ih =>
    intro m
    cases m with
    | nil => simp [addL]
    | cons b m =>
      cases i with
      | zero => simp [addL]
      | succ i =>
        have := ih i m
        simpa [addL] using this
theorem map_getD (c : Int) (i : Nat) : ∀ l : List Int, (l.map (c * ·)).getD i 0 = c * l.getD i 0 := by
  intro l
  induction l generalizing i with
  | nil => simp
  | cons a l ih =>
    cases i with
    | zero => simp
    | succ i => simpa using ih i
/-- Two polynomials of the field that agree at enough places are the same list. -/
theorem can_same {p : Nat} (hp : Prm p) {l m : List Int} (hl : Can p l) (hm : Can p m) (xs : List Int) (h1 : l.length ≤ xs.length) (h2 : m.length ≤ xs.length) (hA : Apart p xs) (h : ∀ x ∈ xs, Cg p (ev l x) (ev m x)) : l = m := by
  have hp0 : (0 : Int) < p := by have := hp.1; omega
  refine can_ext hp0 hl hm fun i => ?_
  have hz := coef_zero hp xs (addL l (m.map ((-1) * ·))) (by rw [addL_len]; simp; omega) hA (fun x hx => by
    rw [addL_ev, smul_ev]
    have := Cg.iff_dvd.1 (h x hx)
    rwa [show ev l x + -1 * ev m x = ev l x - ev m x by omega])
  have hd : (p : Int) ∣ (addL l (m.map ((-1) * ·))).getD i 0 := by
    rw [List.getD_eq_getElem?_getD]
    by_cases hi : i < (addL l (m.map ((-1) * ·))).length
    · rw [List.getElem?_eq_getElem hi]; exact hz _ (List.getElem_mem hi)
    · rw [List.getElem?_eq_none (by omega)]; exact Int.dvd_zero _
  rw [addL_getD, map_getD] at hd
  exact Cg.iff_dvd.2 (by rwa [show l.getD i 0 + -1 * m.getD i 0 = l.getD i 0 - m.getD i 0 by omega] at hd)

/-! ### Points -/
/-- How many of the first points a polynomial has. -/
def agr (p : Int) (l : List Int) (xs ys : Nat → Int) : Nat → Nat
  | 0 => 0
  | k + 1 => agr p l xs ys k + (if ev l (xs k) % p = ys k then 1 else 0)
def good (p : Int) (l : List Int) (xs ys : Nat → Int) (i : Nat) : Bool := decide (ev l (xs i) % p = ys i)
theorem agr_filter (p : Int) (l : List Int) (xs ys : Nat → Int) : ∀ n, ((List.range n).filter (good p l xs ys)).length = agr p l xs ys n := by
  intro n
  induction n with
  | zero => rfl
  | succ n ih =>
    rw [List.range_succ, List.filter_append, List.length_append, ih]
    show _ = agr p l xs ys n + _
    by_cases h : ev l (xs n) % p = ys n
    · rw [if_pos h]; simp [good, h]
    · rw [if_neg h]; simp [good, h]
theorem agr_le (p : Int) (l : List Int) (xs ys : Nat → Int) (n : Nat) : agr p l xs ys n ≤ n := by
  rw [← agr_filter]
  have := List.length_filter_le (good p l xs ys) (List.range n)
  simpa using this
theorem two_filters (a b : Nat → Bool) : ∀ l : List Nat, (l.filter a).length + (l.filter b).length ≤ l.length + (l.filter fun i => a i && b i).length := by
  intro l
  induction l with
  | nil => simp
  | cons c l ih =>
    simp only [List.filter_cons]
    cases a c <;> cases b c <;> simp <;> omega
theorem apart_filter {p : Nat} {xs : Nat → Int} {n : Nat} (h : ApartN p xs n) (a : Nat → Bool) : Apart p (((List.range n).filter a).map xs) := by
  apply apart_map
  · exact List.Pairwise.filter _ List.nodup_range
  · intro i hi j hj hne
    have h1 := List.mem_range.1 (List.mem_filter.1 hi).1
    have h2 := List.mem_range.1 (List.mem_filter.1 hj).1
    exact h i j h1 h2 hne
/-- Only one polynomial has so many of the points. -/
theorem only_one {p : Nat} (hp : Prm p) {n need lies : Nat} (hn : need + 2 * lies ≤ n) {xs ys : Nat → Int} (hA : ApartN p xs n) {l m : List Int} (hl : Can p l) (hm : Can p m) (h1 : l.length ≤ need) (h2 : m.length ≤ need)
    (g1 : n ≤ agr p l xs ys n + lies) (g2 : n ≤ agr p m xs ys n + lies) : l = m := by
  have ht := two_filters (good p l xs ys) (good p m xs ys) (List.range n)
  rw [agr_filter, agr_filter, List.length_range] at ht
  refine can_same hp hl hm (((List.range n).filter fun i => good p l xs ys i && good p m xs ys i).map xs) (by rw [List.length_map]; omega) (by rw [List.length_map]; omega) (apart_filter hA _) fun x hx => ?_
  obtain ⟨i, hi, rfl⟩ := List.mem_map.1 hx
  have := (List.mem_filter.1 hi).2
  simp only [good, Bool.and_eq_true, decide_eq_true_eq] at this
  exact this.1.trans this.2.symm
end Go.Proofs.YtjfphobfikadlaaGreatDoor.Num
namespace Go.Proofs.YtjfphobfikadlaaGreatDoor.Num

/-- One factor more. -/
theorem monic_step (a : Int) (E : List Int) : ∃ E' : List Int, E'.length = E.length + 1 ∧ ∀ x, ev (E' ++ [1]) x = (x - a) * ev (E ++ [1]) x := by
  have g1 : IsP (E.length + 1) fun x => (x - a) * ev E x := (IsP.ofL E).lin a
  have g2 : IsP (E.length + 1) fun x => (-a) * (x ^ E.length * 1) := (((IsP.const (n := 1) 1 (Nat.le_refl 1)).pow E.length).smul (-a))
  obtain ⟨m, hm, hg⟩ := (g1.add g2).exact
  refine ⟨m, hm, fun x => ?_⟩
  rw [ev_snoc, ev_snoc, ← hg, hm]
  show (x - a) * ev E x + -a * (x ^ E.length * 1) + x ^ (E.length + 1) * 1 = (x - a) * (ev E x + x ^ E.length * 1)
  rw [Int.mul_add, Int.sub_mul x a (x ^ E.length * 1), Int.pow_succ, Int.mul_one, Int.mul_one, Int.mul_comm (x ^ E.length) x, Int.neg_mul]; omega
/-- A polynomial of a given degree, its first coefficient 1, that is 0 at some places. -/
theorem locator : ∀ (k : Nat) (l : List Int), l.length ≤ k → ∃ E : List Int, E.length = k ∧ ∀ a ∈ l, ev (E ++ [1]) a = 0 := by
  intro k
  induction k with
  | zero =>
    intro l hl
    rw [List.eq_nil_of_length_eq_zero (by omega : l.length = 0)]
    exact ⟨[], rfl, fun a ha => by cases ha⟩
  | succ k ih =>
    intro l hl
    obtain ⟨b, l', hb⟩ : ∃ (b : Int) (l' : List Int), l'.length ≤ k ∧ ∀ a ∈ l, a = b ∨ a ∈ l' := by
      cases l with
      | nil => exact ⟨0, [], Nat.zero_le _, fun a ha => by cases ha⟩
      | cons b l' => exact ⟨b, l', by simp at hl; omega, fun a ha => by simpa using ha⟩
    obtain ⟨E, hE, hz⟩ := ih l' hb.1
    obtain ⟨E', hE', he⟩ := monic_step b E
    refine ⟨E', by omega, fun a ha => ?_⟩
    rw [he]
    rcases hb.2 a ha with rfl | h
    · rw [Int.sub_self, Int.zero_mul]
    · rw [hz a h, Int.mul_zero]
theorem filter_split (a : Nat → Bool) : ∀ l : List Nat, (l.filter a).length + (l.filter fun i => !a i).length = l.length := by
  intro l
  induction l with
  | nil => rfl
  | cons c l ih =>
    simp only [List.filter_cons]
    cases a c <;> simp <;> omega
/-- Where most points lie on a polynomial, the equations have a solution. -/
theorem bw_solv {p : Nat} {n need lies : Nat} {xs ys : Nat → Int} {F : List Int} (hF : F.length ≤ need) (hg : n ≤ agr p F xs ys n + lies) :
    ∃ q E : List Int, q.length = need + lies ∧ E.length = lies ∧ ∀ i, i < n → Cg p (ev q (xs i)) (ys i * ev (E ++ [1]) (xs i)) := by
  have hs := filter_split (good p F xs ys) (List.range n)
  rw [agr_filter, List.length_range] at hs
  obtain ⟨E, hE, hz⟩ := locator lies (((List.range n).filter fun i => !good p F xs ys i).map xs) (by rw [List.length_map]; omega)
  obtain ⟨q, hq, he⟩ := (((IsP.ofL (E ++ [1])).mulL (by simp) F).mono (show F.length + (E ++ [1]).length - 1 ≤ need + lies by simp; omega)).exact
  refine ⟨q, E, hq, hE, fun i hi => ?_⟩
  rw [← he]
  cases hgi : good p F xs ys i with
  | true =>
    have h1 : ev F (xs i) % p = ys i := by simpa [good] using hgi
    have h2 : Cg p (ev F (xs i)) (ys i) := by rw [← h1]; exact (Cg.emod _ _).symm
    exact h2.mul (Cg.refl _ _)
  | false =>
    rw [hz (xs i) (List.mem_map.2 ⟨i, List.mem_filter.2 ⟨List.mem_range.2 hi, by simp [hgi]⟩, rfl⟩), Int.mul_zero, Int.mul_zero]
    exact Cg.refl _ _
/-- Each solution leads to the polynomial that most points lie on. -/
theorem bw_only {p : Nat} (hp : Prm p) {n need lies : Nat} (hn : need + 2 * lies ≤ n) {xs ys : Nat → Int} (hA : ApartN p xs n) {F q E : List Int} (hF : F.length ≤ need) (hg : n ≤ agr p F xs ys n + lies)
    (hq : q.length ≤ need + lies) (hE : E.length = lies) (h : ∀ i, i < n → Cg p (ev q (xs i)) (ys i * ev (E ++ [1]) (xs i))) (x : Int) : Cg p (ev q x) (ev F x * ev (E ++ [1]) x) := by
  refine same_poly hp (n := need + lies) ⟨q, hq, fun _ => rfl⟩ (((IsP.ofL (E ++ [1])).mulL (by simp) F).mono (by simp; omega)) (((List.range n).filter (good p F xs ys)).map xs) (by rw [List.length_map, agr_filter]; omega) (apart_filter hA _) (fun y hy => ?_) x
  obtain ⟨i, hi, rfl⟩ := List.mem_map.1 hy
  obtain ⟨h1, h2⟩ := List.mem_filter.1 hi
  have h3 : ev F (xs i) % p = ys i := by simpa [good] using h2
  have h4 : Cg p (ys i) (ev F (xs i)) := by rw [← h3]; exact Cg.emod _ _
  exact (h i (List.mem_range.1 h1)).trans (h4.mul (Cg.refl _ _))
/-- And the quotient is it. -/
theorem bw_quot {p : Nat} (hp : Prm p) {n need lies : Nat} (hn : need + 2 * lies ≤ n) {xs ys : Nat → Int} (hA : ApartN p xs n) {F q E Q R : List Int} (hF : F.length ≤ need) (cF : Can p F) (hg : n ≤ agr p F xs ys n + lies)
    (hq : q.length ≤ need + lies) (hE : E.length = lies) (h : ∀ i, i < n → Cg p (ev q (xs i)) (ys i * ev (E ++ [1]) (xs i)))
    (cQ : Can p Q) (hQ : Q.length ≤ need) (cR : Can p R) (hR : R.length ≤ lies) (hd : ∀ x, Cg p (ev q x) (ev Q x * ev (E ++ [1]) x + ev R x)) : Q = F ∧ R = [] := by
  have hb := bw_only hp hn hA hF hg hq hE h
  have hl := hA.list
  have e1 : ∀ x, Cg p (ev (addL F (Q.map ((-1) * ·))) x * ev (E ++ [1]) x) (ev R x) := fun x => by
    have h1 := (hb x).symm.trans (hd x)
    have h2 := h1.sub (Cg.refl p (ev Q x * ev (E ++ [1]) x))
    rw [addL_ev, smul_ev, show (ev F x + -1 * ev Q x) = ev F x - ev Q x by omega, Int.sub_mul]
    rwa [show ev Q x * ev (E ++ [1]) x + ev R x - ev Q x * ev (E ++ [1]) x = ev R x by omega] at h2
  have hz := monic_div hp ((List.range n).map xs) hl E _ (addL F (Q.map ((-1) * ·))) rfl R (by omega) (by rw [addL_len]; simp; omega) (fun x _ => e1 x)
  have hp0 : (0 : Int) < p := by have := hp.1; omega
  have hQF : Q = F := by
    refine (can_ext hp0 cF cQ fun i => ?_).symm
    have hdv : (p : Int) ∣ (addL F (Q.map ((-1) * ·))).getD i 0 := by
      rw [List.getD_eq_getElem?_getD]
      by_cases hi : i < (addL F (Q.map ((-1) * ·))).length
      · rw [List.getElem?_eq_getElem hi]; exact hz _ (List.getElem_mem hi)
      · rw [List.getElem?_eq_none (by omega)]; exact Int.dvd_zero _
    rw [addL_getD, map_getD] at hdv
    exact Cg.iff_dvd.2 (by rwa [show F.getD i 0 + -1 * Q.getD i 0 = F.getD i 0 - Q.getD i 0 by omega] at hdv)
  refine ⟨hQF, ?_⟩
  have hr : R = [] := by
    refine can_ext hp0 cR ⟨fun c hc => (by cases hc), rfl⟩ fun i => ?_
    have hrz := coef_zero hp ((List.range n).map xs) R (by simp; omega) hl (fun x hx => by
      have h1 := (hb x).symm.trans (hd x)
      rw [hQF] at h1
      have h2 := h1.sub (Cg.refl p (ev F x * ev (E ++ [1]) x))
      rw [Int.sub_self, show ev F x * ev (E ++ [1]) x + ev R x - ev F x * ev (E ++ [1]) x = ev R x by omega] at h2
      exact Cg.zero_iff.1 h2.symm)
    have hdv : (p : Int) ∣ R.getD i 0 := by
      rw [List.getD_eq_getElem?_getD]
      by_cases hi : i < R.length
      · rw [List.getElem?_eq_getElem hi]; exact hrz _ (List.getElem_mem hi)
      · rw [List.getElem?_eq_none (by omega)]; exact Int.dvd_zero _
    rw [getD_none [] i (Nat.zero_le _)]
    exact Cg.zero_iff.2 hdv
  exact hr

/-! ### Linear equations -/
/-- A row: the coefficients, and then what they have to give. -/
def dot (r : List Int) (v : Nat → Int) : Nat → Int
  | 0 => 0
  | j + 1 => dot r v j + r.getD j 0 * v j
def sat (p : Int) (u : Nat) (r : List Int) (v : Nat → Int) : Prop := Cg p (dot r v u) (r.getD u 0)
def Sol (p : Int) (u : Nat) (rows : List (List Int)) (v : Nat → Int) : Prop := ∀ r ∈ rows, sat p u r v
/-- A row that is congruent to a combination of two. -/
theorem dot_lin {p c d : Int} {a b r : List Int} {v : Nat → Int} (u : Nat) (h : ∀ j, j < u → Cg p (r.getD j 0) (c * a.getD j 0 + d * b.getD j 0)) : Cg p (dot r v u) (c * dot a v u + d * dot b v u) := by
  induction u with
  | zero => show Cg p 0 (c * 0 + d * 0); simp [Cg]
  | succ u ih =>
    show Cg p (dot r v u + r.getD u 0 * v u) (c * (dot a v u + a.getD u 0 * v u) + d * (dot b v u + b.getD u 0 * v u))
    have h1 := (ih fun j hj => h j (by omega)).add ((h u (Nat.lt_succ_self u)).mul (Cg.refl p (v u)))
    have e : c * dot a v u + d * dot b v u + (c * a.getD u 0 + d * b.getD u 0) * v u = c * (dot a v u + a.getD u 0 * v u) + d * (dot b v u + b.getD u 0 * v u) := by
      simp only [Int.mul_add, Int.add_mul, Int.mul_assoc]; omega
    rwa [e] at h1
theorem sat_lin {p c d : Int} {a b r : List Int} {v : Nat → Int} {u : Nat} (h : ∀ j, j ≤ u → Cg p (r.getD j 0) (c * a.getD j 0 + d * b.getD j 0)) (ha : sat p u a v) (hb : sat p u b v) : sat p u r v :=
  (dot_lin u fun j hj => h j (by omega)).trans ((((Cg.refl p c).mul ha).add ((Cg.refl p d).mul hb)).trans (h u (Nat.le_refl u)).symm)
theorem dot_upd (r : List Int) (v : Nat → Int) (l : Nat) (a : Int) (u : Nat) : dot r (fun j => if j = l then a else v j) u = dot r v u + (if l < u then r.getD l 0 * (a - v l) else 0) := by
  induction u with
  | zero => simp [dot]
  | succ u ih =>
    show dot r _ u + r.getD u 0 * (if u = l then a else v u) = dot r v u + r.getD u 0 * v u + _
    rw [ih]
    by_cases h : u = l
    · subst h
      rw [if_pos rfl, if_neg (Nat.lt_irrefl u), if_pos (Nat.lt_succ_self u), Int.mul_sub]; omega
    · rw [if_neg h]
      by_cases h2 : l < u
      · rw [if_pos h2, if_pos (by omega)]; omega
      · rw [if_neg h2, if_neg (by omega)]; omega
theorem dot_zero (r : List Int) : ∀ u, dot r (fun _ => 0) u = 0 := by
  intro u
  induction u with
  | zero => rfl
  | succ u ih => show dot r _ u + r.getD u 0 * 0 = 0; rw [ih]; simp
theorem dot_none {p : Int} (r : List Int) (v : Nat → Int) : ∀ u, (∀ j, j < u → r.getD j 0 = 0) → dot r v u = 0 := by
  intro u
  induction u with
  | zero => intro _; rfl
  | succ u ih =>
    intro h
    show dot r v u + r.getD u 0 * v u = 0
    rw [ih fun j hj => h j (by omega), h u (Nat.lt_succ_self u)]; simp
/-- The solution that the leads give, the first k of them. -/
def solV (u : Nat) (rows : List (List Int)) (lead : List Nat) : Nat → Nat → Int
  | 0, _ => 0
  | k + 1, j => if j = lead.getD k 0 then (rows.getD k []).getD u 0 else solV u rows lead k j
/-- What elimination keeps, where the columns before c have been looked at. -/
structure Elim (p : Int) (u c : Nat) (rows0 rows : List (List Int)) (lead : List Nat) : Prop where
  len : rows.length = rows0.length
  same : ∀ v, Sol p u rows v → Sol p u rows0 v
  back : ∀ v, Sol p u rows0 v → Sol p u rows v
  leads : lead.length ≤ rows.length
  below : ∀ i, i < lead.length → lead.getD i 0 < c
  apart : ∀ i j, i < lead.length → j < lead.length → i ≠ j → lead.getD i 0 ≠ lead.getD j 0
  one : ∀ i, i < lead.length → (rows.getD i []).getD (lead.getD i 0) 0 = 1
  zero : ∀ i k, i < lead.length → k < rows.length → k ≠ i → (rows.getD k []).getD (lead.getD i 0) 0 = 0
  rest : ∀ k j, lead.length ≤ k → k < rows.length → j < c → (rows.getD k []).getD j 0 = 0
  elems : ∀ k, k < rows.length → (rows.getD k []).length = u + 1 ∧ ∀ a ∈ rows.getD k [], 0 ≤ a ∧ a < p
theorem mem_getD {α : Type} {l : List α} {d a : α} (h : a ∈ l) : ∃ i, i < l.length ∧ l.getD i d = a := by
  obtain ⟨i, hi, rfl⟩ := List.getElem_of_mem h
  exact ⟨i, hi, by rw [List.getD_eq_getElem?_getD, List.getElem?_eq_getElem hi]; rfl⟩
theorem getD_mem {α : Type} {l : List α} {d : α} {i : Nat} (h : i < l.length) : l.getD i d ∈ l := by
  rw [List.getD_eq_getElem?_getD, List.getElem?_eq_getElem h]; exact List.getElem_mem h
/-- A row beyond the leads that gives something: no solution. -/
theorem Elim.none {p : Int} {u c : Nat} {rows0 rows : List (List Int)} {lead : List Nat} (h : Elim p u c rows0 rows lead) (hc : u ≤ c) {k : Nat} (h1 : lead.length ≤ k) (h2 : k < rows.length) (h3 : (rows.getD k []).getD u 0 ≠ 0) (v : Nat → Int) : ¬ Sol p u rows0 v := by
  intro hs
  have h4 := h.back v hs _ (getD_mem (d := []) h2)
  unfold sat at h4
  rw [dot_none (p := p) _ v u fun j hj => h.rest k j h1 h2 (by omega)] at h4
  have h5 := h.elems k h2
  have h6 := h5.2 ((rows.getD k []).getD u 0) (getD_mem (by omega))
  exact h3 (h4.eq (Int.le_refl 0) (by omega) h6.1 h6.2).symm
theorem solV_dot {p : Int} {u c : Nat} {rows0 rows : List (List Int)} {lead : List Nat} (h : Elim p u c rows0 rows lead) (hc : c ≤ u) (i : Nat) (hi : i < rows.length) :
    ∀ k, k ≤ lead.length → dot (rows.getD i []) (solV u rows lead k) u = if i < k then (rows.getD i []).getD u 0 else 0 := by
  intro k
  induction k with
  | zero => intro _; exact dot_zero _ u
  | succ k ih =>
    intro hk
    have e : solV u rows lead (k + 1) = fun j => if j = lead.getD k 0 then (rows.getD k []).getD u 0 else solV u rows lead k j := rfl
    have hl := h.below k (by omega)
    have hz : ∀ m, m ≤ k → solV u rows lead m (lead.getD k 0) = 0 := by
      intro m
      induction m with
      | zero => intro _; rfl
      | succ m ihm =>
        intro hm
        show (if lead.getD k 0 = lead.getD m 0 then _ else _) = _
        rw [if_neg (h.apart k m (by omega) (by omega) (by omega))]
        exact ihm (by omega)
    have hlu : lead.getD k 0 < u := by omega
    rw [e, dot_upd, ih (by omega), if_pos hlu, hz k (Nat.le_refl k), Int.sub_zero]
    by_cases hik : i = k
    · subst hik
      rw [h.one i (by omega), if_neg (Nat.lt_irrefl i), if_pos (Nat.lt_succ_self i)]; simp
    · rw [h.zero k i (by omega) hi hik]
      by_cases h2 : i < k
      · rw [if_pos h2, if_pos (by omega)]; simp
      · rw [if_neg h2, if_neg (by omega)]; simp
/-- No such row: the leads give a solution. -/
theorem Elim.solves {p : Int} {u c : Nat} {rows0 rows : List (List Int)} {lead : List Nat} (h : Elim p u c rows0 rows lead) (hc : c ≤ u) (h0 : ∀ k, lead.length ≤ k → k < rows.length → (rows.getD k []).getD u 0 = 0) :
    Sol p u rows0 (solV u rows lead lead.length) := by
  apply h.same
  intro r hr
  obtain ⟨i, hi, rfl⟩ := mem_getD (d := []) hr
  unfold sat
  rw [solV_dot h hc i hi lead.length (Nat.le_refl _)]
  by_cases h1 : i < lead.length
  · rw [if_pos h1]; exact Cg.refl _ _
  · rw [if_neg h1, h0 i (by omega) hi]; exact Cg.refl _ _
/-- At the start. -/
theorem Elim.start {p : Int} {u : Nat} {rows : List (List Int)} (he : ∀ k, k < rows.length → (rows.getD k []).length = u + 1 ∧ ∀ a ∈ rows.getD k [], 0 ≤ a ∧ a < p) : Elim p u 0 rows rows [] where
  len := rfl
  same := fun _ h => h
  back := fun _ h => h
  leads := Nat.zero_le _
  below := fun i hi => absurd hi (Nat.not_lt_zero i)
  apart := fun i _ hi => absurd hi (Nat.not_lt_zero i)
  one := fun i hi => absurd hi (Nat.not_lt_zero i)
  zero := fun i _ hi => absurd hi (Nat.not_lt_zero i)
  rest := fun _ j _ _ hj => absurd hj (Nat.not_lt_zero j)
  elems := he
/-- No row has something in the column: nothing is done. -/
theorem Elim.skip {p : Int} {u c : Nat} {rows0 rows : List (List Int)} {lead : List Nat} (h : Elim p u c rows0 rows lead) (h0 : ∀ k, lead.length ≤ k → k < rows.length → (rows.getD k []).getD c 0 = 0) : Elim p u (c + 1) rows0 rows lead where
  len := h.len
  same := h.same
  back := h.back
  leads := h.leads
  below := fun i hi => by have := h.below i hi; omega
  apart := h.apart
  one := h.one
  zero := h.zero
  rest := fun k j h1 h2 hj => by
    rcases Nat.lt_or_ge j c with h3 | h3
    · exact h.rest k j h1 h2 h3
    · rw [show j = c by omega]; exact h0 k h1 h2
  elems := h.elems
/-- A column is cleared: rows' is rows, the row number r with something there made 1 there and brought to its place, and taken from all others so that they have 0 there. -/
theorem Elim.clear {p : Int} {u c : Nat} {rows0 rows rows' : List (List Int)} {lead : List Nat} (h : Elim p u c rows0 rows lead) (hc : c < u) (hl : lead.length < rows.length)
    (hlen : rows'.length = rows.length) (fwd : ∀ v, Sol p u rows v → Sol p u rows' v) (bwd : ∀ v, Sol p u rows' v → Sol p u rows v)
    (h1 : (rows'.getD lead.length []).getD c 0 = 1) (h2 : ∀ k, k < rows.length → k ≠ lead.length → (rows'.getD k []).getD c 0 = 0)
    (hold : ∀ k i, k < rows.length → i < lead.length → (rows'.getD k []).getD (lead.getD i 0) 0 = if k = i then 1 else 0)
    (hrest : ∀ k j, lead.length < k → k < rows.length → j < c → (rows'.getD k []).getD j 0 = 0)
    (he : ∀ k, k < rows'.length → (rows'.getD k []).length = u + 1 ∧ ∀ a ∈ rows'.getD k [], 0 ≤ a ∧ a < p) : Elim p u (c + 1) rows0 rows' (lead ++ [c]) := by
  have hll : (lead ++ [c]).length = lead.length + 1 := by simp
  have g1 : ∀ i, i < lead.length → (lead ++ [c]).getD i 0 = lead.getD i 0 := fun i hi => by
    rw [List.getD_eq_getElem?_getD, List.getD_eq_getElem?_getD, List.getElem?_append_left hi]
  have g2 : (lead ++ [c]).getD lead.length 0 = c := by
    rw [List.getD_eq_getElem?_getD, List.getElem?_append_right (Nat.le_refl _)]; simp
  refine ⟨by rw [hlen]; exact h.len, fun v hv => h.same v (bwd v hv), fun v hv => fwd v (h.back v hv), by omega, fun i hi => ?_, fun i j hi hj hne => ?_, fun i hi => ?_, fun i k hi hk hne => ?_, fun k j hk1 hk2 hj => ?_, he⟩
  · rcases Nat.lt_or_ge i lead.length with h3 | h3
    · rw [g1 i h3]; have := h.below i h3; omega
    · rw [show i = lead.length by omega, g2]; omega
  · rcases Nat.lt_or_ge i lead.length with h3 | h3 <;> rcases Nat.lt_or_ge j lead.length with h4 | h4
    · rw [g1 i h3, g1 j h4]; exact h.apart i j h3 h4 hne
    · rw [g1 i h3, show j = lead.length by omega, g2]; have := h.below i h3; omega
    · rw [g1 j h4, show i = lead.length by omega, g2]; have := h.below j h4; omega
    · omega
  · rcases Nat.lt_or_ge i lead.length with h3 | h3
    · rw [g1 i h3]; have := hold i i (by omega) h3; rwa [if_pos rfl] at this
    · rw [show i = lead.length by omega, g2]; exact h1
  · rcases Nat.lt_or_ge i lead.length with h3 | h3
    · rw [g1 i h3]; have := hold k i (by omega) h3; rwa [if_neg hne] at this
    · have hi2 : i = lead.length := by omega
      rw [hi2, g2]; exact h2 k (by omega) (by omega)
  · rcases Nat.lt_or_ge j c with h3 | h3
    · exact hrest k j (by omega) (by omega) h3
    · rw [show j = c by omega]; exact h2 k (by omega) (by omega)
end Go.Proofs.YtjfphobfikadlaaGreatDoor.Num
namespace Go.Proofs.YtjfphobfikadlaaGreatDoor
open Go.RowKit Go.Shelf Num

attribute [local go_sem] Oper.semAt_some

/-- What has come when k rounds are over. -/
def upF {α : Type} (f : Nat → α) (k : Nat) : List α := (List.range k).map f
theorem upF_succ {α : Type} (f : Nat → α) (k : Nat) : upF f (k + 1) = upF f k ++ [f k] := by simp [upF, List.range_succ]
theorem upF_length {α : Type} (f : Nat → α) (k : Nat) : (upF f k).length = k := by simp [upF]
/-- What a round keeps. -/
def BKp (n₀ Bs : Nat) (W W' : World) : Prop := Below n₀ W W' ∧ W'.heap[Bs]? = W.heap[Bs]?
theorem BKp.trans {n₀ Bs : Nat} {A B C : World} (h : BKp n₀ Bs A B) (k : BKp n₀ Bs B C) : BKp n₀ Bs A C := ⟨h.1.trans k.1, k.2.trans h.2⟩
theorem bkp_b {n₀ Bs : Nat} {w : World} (hn : n₀ ≤ w.heap.size) (hB : Bs < w.heap.size) (W : World) (l : Nat) (o o' : Obj) (hl : w.heap.size ≤ l) (h : W.heap[l]? = some o) (h1 : o.isCells = false) (h2 : o.isWalk = false) : BKp n₀ Bs W (W.putObj l o') :=
  ⟨belowK_b hn W l o o' hl h h1 h2, World.putObj_heap_other (by omega)⟩

set_option maxRecDepth 100000 in
set_option maxHeartbeats 2000000 in
theorem back1_in {α : Type} (eN : α → Nat) (eI : α → Int) (f : Nat → α) (F : Fence) (n : Nat) (hF : F.fn 172) (hro : F.round = none) (hn : 1 ≤ n) (l Bs n₀ len cap : Nat) (A : Option Addr) (zs : List Int) (hreach : len ≤ 1000000) (hlen : len = zs.length) (hf : ∀ k, k < len → eN (f k) = len - 1 - k ∧ eI (f k) = zs.getD (len - 1 - k) 0) (J Jx : List α → World → Prop)
    (hY : ∀ pre x W, J pre W → pre.length < len → YieldAt F (n - 1) Tryz.prog l #[.int .i64 (eN x : Int), .int .i64 (eI x)] W fun e W' =>
      (e = .returned (.bool true) ∧ J (pre ++ [x]) W' ∧ BKp n₀ Bs W W') ∨ (e = .returned (.bool false) ∧ Jx (pre ++ [x]) W'))
    (W : World) (hBs : W.cell? ⟨Bs, 0, none⟩ = some (.slice A len cap)) (hc : 0 < len → ∃ b off, A = some ⟨b, off, none⟩ ∧ b < n₀ ∧ ∀ j, j < len → W.cell? ⟨b, off + j, none⟩ = some (.int .i64 (zs.getD j 0))) (h0 : J [] W) :
    CallsIn F n Tryz.prog 172 #[.func (.yield l) #[] #[], .pointer (some ⟨Bs, 0, none⟩)] W fun e W' => (∃ v, e = .returned v) ∧
      ((∃ ys, ys = upF f len ∧ J ys W') ∨ (∃ pre, (∃ k, k ≤ len ∧ pre = upF f k) ∧ Jx pre W')) := by
  refine callsIn_of_wp Tryz.func172 rfl hF ?_ hro
  simp only [Tryz.ntmps172, List.size_toArray, List.length_cons, List.length_nil, Nat.reduceAdd, Nat.reduceSub, Array.replicate_succ, Array.replicate_zero, List.push_toArray, List.append_toArray, List.nil_append, List.cons_append]
  have HLEN := Lib.hid hlen
  clear hlen
  gi_wp2
  gi_loopw [3] (fun i wr => ∃ k m : Nat, m + k = len ∧ i = .int .i64 ((m : Int) - 1) ∧ J (upF f k) wr ∧ BKp n₀ Bs W wr)
    (fun i _ => (intOf i + 1).toNat)
  case atStart => exact ⟨0, len, by omega, rfl, h0, Below.refl _ _, rfl⟩
  case round =>
    obtain ⟨k, m, hk, rfl, hJs, hnx⟩ := hrel
    have hbx : wr.cell? ⟨Bs, 0, none⟩ = some (.slice A len cap) := (World.cell?_of_block (a := ⟨Bs, 0, none⟩) hnx.2).trans hBs
    by_cases hlt : 0 < m
    · obtain ⟨m', rfl⟩ : ∃ m', m = m' + 1 := ⟨m - 1, by omega⟩
      obtain ⟨b, off, rfl, hb, hcs⟩ := hc (by omega)
      have hcx := (hnx.1.cell (p := ⟨b, off + m', none⟩) hb).trans (hcs m' (by omega))
      have HDS := Lib.hid (upF_succ f k)
      obtain ⟨hf1, hf2⟩ := hf k (by omega)
      rw [show len - 1 - k = m' by omega] at hf1 hf2
      obtain ⟨y, hy0⟩ : ∃ y, zs.getD m' 0 = y := ⟨_, rfl⟩
      rw [hy0] at hcx hf2
      obtain ⟨fn, tmps, assign, body, hy, hR⟩ := hY _ (f k) wr hJs (by rw [upF_length]; omega)
      rw [hf1, hf2] at hy
      clear hy0 hf1 hf2
      have q0 : ((m' + 1 : Nat) : Int) - 1 = (m' : Int) := by omega
      rw [q0]
      have q1 : (m' : Int) < (len : Int) := by omega
      have q2 : (0 : Int) ≤ (m' : Int) := by omega
      gi_wp2
      refine hR.mono ?_
      rintro e W3 (⟨rfl, hJ3, hk3⟩ | ⟨rfl, hJx3⟩)
      · gi_wp2
        go_roundw
        case rel => exact ⟨k + 1, m', by omega, rfl, by rw [HDS.out]; exact hJ3, hnx.trans hk3⟩
        case measure => simp [intOf]
      · gi_wp2
        refine bodyPost_ret (results_none rfl _ _ _) rfl ?_
        exact ⟨⟨_, rfl⟩, .inr ⟨_, ⟨k + 1, by omega, HDS.out.symm⟩, hJx3⟩⟩
    · obtain rfl : m = 0 := by omega
      obtain rfl : k = len := by omega
      gi_wp2
      go_end0
      exact ⟨⟨_, rfl⟩, .inl ⟨_, rfl, hJs⟩⟩

set_option maxHeartbeats 1000000 in
theorem back_in (F : Fence) (n : Nat) (hF : F.fn 136) (hro : F.round = none) (a : Option Addr) (len cap : Nat) (w : World) :
    CallsIn F n Tryz.prog 136 #[.slice a len cap] w fun e w' => e = .returned (.func (.func 172) #[] #[.pointer (some ⟨w.heap.size, 0, none⟩)]) ∧ w' = w.alloc (.cells #[.slice a len cap] 24) := by
  refine callsIn_of_wp Tryz.func136 rfl hF ?_ hro
  simp only [Tryz.ntmps136, List.size_toArray, List.length_cons, List.length_nil, Nat.reduceAdd, Nat.reduceSub, Array.replicate_succ, Array.replicate_zero, List.push_toArray, List.append_toArray, List.nil_append, List.cons_append]
  gi_wp2
  go_ret
  exact ⟨rfl, rfl⟩
theorem back_stops {α : Type} (eN : α → Nat) (eI : α → Int) (f : Nat → α) (F : Fence) (n : Nat) (hF : F.fn 172) (hro : F.round = none) (hn : 1 ≤ n) (Bs n₀ len cap : Nat) (A : Option Addr) (zs : List Int) (hreach : len ≤ 1000000) (hlen : len = zs.length) (hf : ∀ k, k < len → eN (f k) = len - 1 - k ∧ eI (f k) = zs.getD (len - 1 - k) 0) (w : World) (hBs : Bs < w.heap.size) (hn₀ : n₀ ≤ w.heap.size)
    (hcb : w.cell? ⟨Bs, 0, none⟩ = some (.slice A len cap)) (hc : 0 < len → ∃ b off, A = some ⟨b, off, none⟩ ∧ b < n₀ ∧ ∀ j, j < len → w.cell? ⟨b, off + j, none⟩ = some (.int .i64 (zs.getD j 0))) :
    SeqStopsK F n Tryz.prog 172 #[.pointer (some ⟨Bs, 0, none⟩)] (fun x : α => #[Value.int .i64 (eN x : Int), Value.int .i64 (eI x)]) (BKp n₀ Bs) (fun ys => ys = upF f len)
      (fun pre => ∃ k, k ≤ len ∧ pre = upF f k) len w := fun l J Jx W hW _ _ hY h0 =>
  back1_in eN eI f F n hF hro hn l Bs n₀ len cap A zs hreach hlen hf J Jx hY W ((hW.cell (p := ⟨Bs, 0, none⟩) hBs).trans hcb)
    (fun h => by obtain ⟨b, off, e, hb, hcs⟩ := hc h; exact ⟨b, off, e, hb, fun j hj => (hW.cell (p := ⟨b, off + j, none⟩) (by show b < _; omega)).trans (hcs j hj)⟩) h0
end Go.Proofs.YtjfphobfikadlaaGreatDoor
