/- Plain numbers: polynomials modulo a prime, roots and Lagrange's sums. No program stands in it. Contracts of field and handle: numbers modulo a number. The test of Miller and Rabin: a prime passes it. No program stands in it. -/
import Derived.Test.YtgeahbmaeaoeeaaGreatDoorQ01
import Derived.Test.YtgeahbmaeaoeeaaGreatDoorRows
import Derived.WalkKit
import Derived.WalkSpells
import Derived.WalkLawsBesides
import Derived.Deep.QuietTactic
import Derived.BigQuiet
import Derived.Lib.Hide
import Derived.Laws.BitsLemmas
set_option linter.unusedVariables false
set_option linter.unusedSimpArgs false
namespace Go.Proofs.YtgeahbmaeaoeeaaGreatDoor.Num

/-- Equal modulo p. -/
def Cg (p a b : Int) : Prop := a % p = b % p
theorem Cg.refl (p a : Int) : Cg p a a := rfl
theorem Cg.symm {p a b : Int} (h : Cg p a b) : Cg p b a := Eq.symm h
theorem Cg.trans {p a b c : Int} (h : Cg p a b) (k : Cg p b c) : Cg p a c := Eq.trans h k
theorem Cg.add {p a b c d : Int} (h : Cg p a b) (k : Cg p c d) : Cg p (a + c) (b + d) := by
  unfold Cg at *; rw [Int.add_emod, h, k, ← Int.add_emod]
theorem Cg.mul {p a b c d : Int} (h : Cg p a b) (k : Cg p c d) : Cg p (a * c) (b * d) := by
  unfold Cg at *; rw [Int.mul_emod, h, k, ← Int.mul_emod]
theorem Cg.sub {p a b c d : Int} (h : Cg p a b) (k : Cg p c d) : Cg p (a - c) (b - d) := by
  unfold Cg at *; rw [Int.sub_emod, h, k, ← Int.sub_emod]
theorem Cg.emod (p a : Int) : Cg p (a % p) a := Int.emod_emod_of_dvd a (Int.dvd_refl p)
theorem Cg.of_emod {p a b : Int} (h : Cg p a b) : Cg p (a % p) b := (Cg.emod p a).trans h
theorem Cg.zero_iff {p a : Int} : Cg p a 0 ↔ p ∣ a := by
  unfold Cg; rw [Int.zero_emod]; exact (Int.dvd_iff_emod_eq_zero).symm
theorem Cg.iff_dvd {p a b : Int} : Cg p a b ↔ p ∣ a - b := by
  unfold Cg; exact Int.emod_eq_emod_iff_emod_sub_eq_zero.trans (Int.dvd_iff_emod_eq_zero).symm
theorem Cg.eq {p a b : Int} (h : Cg p a b) (ha : 0 ≤ a) (ha' : a < p) (hb : 0 ≤ b) (hb' : b < p) : a = b := by
  unfold Cg at h; rwa [Int.emod_eq_of_lt ha ha', Int.emod_eq_of_lt hb hb'] at h

/-- A prime that divides a product of whole numbers divides one of them. -/
theorem prm_dvd_int {p : Nat} (h : Prm p) {a b : Int} (hd : (p : Int) ∣ a * b) : (p : Int) ∣ a ∨ (p : Int) ∣ b := by
  rw [← Int.natAbs_dvd_natAbs, Int.natAbs_mul, Int.natAbs_natCast] at hd
  rcases prm_dvd h hd with k | k
  · left; exact Int.natAbs_dvd_natAbs.1 (by rwa [Int.natAbs_natCast])
  · right; exact Int.natAbs_dvd_natAbs.1 (by rwa [Int.natAbs_natCast])

/-- The value of a polynomial, its coefficients from the lowest on. -/
def ev : List Int → Int → Int
  | [], _ => 0
  | c :: l, x => c + x * ev l x
/-- What is left when a polynomial is divided by x - a. -/
def dv (a : Int) : List Int → List Int
  | [] => []
  | [_] => []
  | _ :: l => ev l a :: dv a l
theorem dv_len (a : Int) : ∀ l, (dv a l).length = l.length - 1 := by
  intro l
  induction l with
  | nil => rfl
  | cons c l ih =>
    cases l with
    | nil => rfl
    | cons d l =>
      show (dv a (d :: l)).length + 1 = _
      rw [ih]; simp
theorem dv_ev (a x : Int) : ∀ l, ev l x = ev (dv a l) x * (x - a) + ev l a := by
  intro l
  induction l with
  | nil => simp [ev, dv]
  | cons c l ih =>
    cases l with
    | nil => simp [ev, dv]
    | cons d l =>
      show c + x * ev (d :: l) x = (ev (d :: l) a + x * ev (dv a (d :: l)) x) * (x - a) + (c + a * ev (d :: l) a)
      rw [ih]
      generalize ev (dv a (d :: l)) x = q
      generalize ev (d :: l) a = r
      simp only [Int.mul_add, Int.add_mul, Int.mul_sub, Int.sub_mul]
      have e1 : x * (q * x) = x * q * x := by rw [Int.mul_assoc]
      have e2 : x * (q * a) = x * q * a := by rw [Int.mul_assoc]
      rw [e1, e2, Int.mul_comm r x, Int.mul_comm r a]; omega
/-- Places that differ modulo p. -/
def Apart (p : Int) : List Int → Prop
  | [] => True
  | x :: l => (∀ y ∈ l, ¬ p ∣ y - x) ∧ Apart p l
theorem roots {p : Nat} (hp : Prm p) : ∀ (xs l : List Int), l.length ≤ xs.length → Apart p xs → (∀ x ∈ xs, (p : Int) ∣ ev l x) → ∀ x, (p : Int) ∣ ev l x := by
  intro xs
  induction xs with
  | nil =>
    intro l hl _ _ x
    have : l = [] := List.eq_nil_of_length_eq_zero (by simpa using hl)
    subst this; exact Int.dvd_zero _
  | cons a xs ih =>
    intro l hl hA hr x
    rw [dv_ev a x l]
    refine Int.dvd_add ?_ (hr a (by simp))
    refine Int.dvd_trans (ih (dv a l) ?_ hA.2 ?_ x) (Int.dvd_mul_right _ _)
    · rw [dv_len]; simp at hl; omega
    · intro y hy
      have h1 := hr y (by simp [hy])
      rw [dv_ev a y l] at h1
      have h2 : (p : Int) ∣ ev (dv a l) y * (y - a) := by
        have := Int.dvd_sub h1 (hr a (by simp))
        rwa [Int.add_sub_cancel] at this
      rcases prm_dvd_int hp h2 with k | k
      · exact k
      · exact absurd k (hA.1 y hy)

/-- A function that is a polynomial of less than n coefficients. -/
def IsP (n : Nat) (g : Int → Int) : Prop := ∃ l : List Int, l.length ≤ n ∧ ∀ x, g x = ev l x
theorem IsP.mono {n m : Nat} {g : Int → Int} (h : IsP n g) (hm : n ≤ m) : IsP m g := by
  obtain ⟨l, hl, hg⟩ := h; exact ⟨l, by omega, hg⟩
theorem IsP.const {n : Nat} (c : Int) (h : 1 ≤ n) : IsP n fun _ => c := ⟨[c], h, fun x => by simp [ev]⟩
def addL : List Int → List Int → List Int
  | [], m => m
  | l, [] => l
  | a :: l, b :: m => (a + b) :: addL l m
theorem addL_ev (x : Int) : ∀ l m, ev (addL l m) x = ev l x + ev m x := by
  intro l
  induction l with
  | nil => intro m; cases m <;> simp [addL, ev]
  | cons a l ih =>
    intro m
    cases m with
    | nil => simp [addL, ev]
    | cons b m =>
      show (a + b) + x * ev (addL l m) x = (a + x * ev l x) + (b + x * ev m x)
      rw [ih, Int.mul_add]; omega
theorem addL_len : ∀ l m, (addL l m).length = max l.length m.length := by
  intro l
  induction l with
  | nil => intro m; cases m <;> simp [addL]
  | cons a l ih =>
    intro m
    cases m with
    | nil => simp [addL]
    | cons b m => simp [addL, ih]; try omega
theorem IsP.add {n : Nat} {g h : Int → Int} (hg : IsP n g) (hh : IsP n h) : IsP n fun x => g x + h x := by
  obtain ⟨l, hl, hg⟩ := hg
  obtain ⟨m, hm, hh⟩ := hh
  exact ⟨addL l m, by rw [addL_len]; omega, fun x => by show g x + h x = _; rw [addL_ev, hg, hh]⟩
theorem smul_ev (c x : Int) : ∀ l, ev (l.map (c * ·)) x = c * ev l x := by
  intro l
  induction l with
  | nil => simp [ev]
  | cons a l ih => simp only [List.map_cons, ev, ih, Int.mul_add]; rw [Int.mul_left_comm]
theorem IsP.smul {n : Nat} {g : Int → Int} (c : Int) (hg : IsP n g) : IsP n fun x => c * g x := by
  obtain ⟨l, hl, hg⟩ := hg
  exact ⟨l.map (c * ·), by simpa using hl, fun x => by show c * g x = _; rw [smul_ev, hg]⟩
theorem IsP.lin {n : Nat} {g : Int → Int} (a : Int) (hg : IsP n g) : IsP (n + 1) fun x => (x - a) * g x := by
  obtain ⟨l, hl, hg⟩ := hg
  refine ⟨addL (0 :: l) (l.map ((-a) * ·)), by rw [addL_len]; simp; omega, fun x => ?_⟩
  show (x - a) * g x = _
  rw [addL_ev, smul_ev, hg]
  show (x - a) * ev l x = 0 + x * ev l x + -a * ev l x
  rw [Int.sub_mul, Int.neg_mul]; omega
theorem IsP.neg {n : Nat} {g : Int → Int} (hg : IsP n g) : IsP n fun x => - g x := by
  obtain ⟨l, hl, h⟩ := hg.smul (-1)
  exact ⟨l, hl, fun x => by rw [← h]; show - g x = -1 * g x; omega⟩
/-- Two polynomials that agree modulo p at as many places as they have coefficients agree everywhere. -/
theorem same_poly {p : Nat} (hp : Prm p) {n : Nat} {f g : Int → Int} (hf : IsP n f) (hg : IsP n g) (xs : List Int) (hx : n ≤ xs.length) (hA : Apart p xs) (h : ∀ x ∈ xs, Cg p (f x) (g x)) (x : Int) : Cg p (f x) (g x) := by
  obtain ⟨l, hl, hd⟩ := hf.add hg.neg
  have hr := roots hp xs l (by omega) hA (fun y hy => by rw [← hd]; have := Cg.iff_dvd.1 (h y hy); rwa [Int.sub_eq_add_neg] at this) x
  rw [← hd] at hr
  exact Cg.iff_dvd.2 (by rwa [Int.sub_eq_add_neg])

/-- The product of the differences of x to the first k places, but number i. -/
def pbut (xs : Nat → Int) (i : Nat) (x : Int) : Nat → Int
  | 0 => 1
  | k + 1 => if k = i then pbut xs i x k else pbut xs i x k * (x - xs k)
theorem pbut_isP (xs : Nat → Int) (i : Nat) : ∀ k, IsP (if i < k then k else k + 1) fun x => pbut xs i x k := by
  intro k
  induction k with
  | zero => simpa [pbut] using IsP.const 1 (Nat.le_refl 1)
  | succ k ih =>
    by_cases h : k = i
    · subst h
      rw [if_neg (Nat.lt_irrefl k)] at ih
      rw [if_pos (Nat.lt_succ_self k)]
      obtain ⟨l, hl, hg⟩ := ih
      exact ⟨l, hl, fun x => by show (if k = k then _ else _) = _; rw [if_pos rfl]; exact hg x⟩
    · have ih' := ih.lin (xs k)
      have e : (if i < k then k else k + 1) + 1 = if i < k + 1 then k + 1 else k + 1 + 1 := by
        by_cases hi : i < k
        · rw [if_pos hi, if_pos (by omega)]
        · rw [if_neg hi, if_neg (by omega)]
      rw [e] at ih'
      obtain ⟨l, hl, hg⟩ := ih'
      exact ⟨l, hl, fun x => by show (if k = i then _ else _) = _; rw [if_neg h, ← hg, Int.mul_comm]⟩
theorem pbut_zero (xs : Nat → Int) (i j : Nat) (hij : j ≠ i) : ∀ k, j < k → pbut xs i (xs j) k = 0 := by
  intro k
  induction k with
  | zero => intro h; omega
  | succ k ih =>
    intro h
    by_cases hj : j = k
    · subst hj; show (if j = i then _ else _) = _; rw [if_neg hij, Int.sub_self, Int.mul_zero]
    · show (if k = i then _ else _) = _
      rw [ih (by omega)]
      split
      · rfl
      · rw [Int.zero_mul]
theorem pbut_ne {p : Nat} (hp : Prm p) (xs : Nat → Int) (i : Nat) (x : Int) : ∀ k, (∀ j, j < k → j ≠ i → ¬ (p : Int) ∣ x - xs j) → ¬ (p : Int) ∣ pbut xs i x k := by
  intro k
  induction k with
  | zero =>
    intro _ h
    have := Int.le_of_dvd (by decide) (show (p : Int) ∣ 1 from h)
    have := hp.1; omega
  | succ k ih =>
    intro h hd
    have h' := ih fun j hj hi => h j (by omega) hi
    by_cases hk : k = i
    · have e : pbut xs i x (k + 1) = pbut xs i x k := if_pos hk
      rw [e] at hd; exact h' hd
    · have e : pbut xs i x (k + 1) = pbut xs i x k * (x - xs k) := if_neg hk
      rw [e] at hd
      rcases prm_dvd_int hp hd with c | c
      · exact h' c
      · exact h k (by omega) hk c
/-- A sum of products of weights and values. -/
def wsum (ws ys : Nat → Int) : Nat → Int
  | 0 => 0
  | k + 1 => wsum ws ys k + ws k * ys k
/-- Places that differ modulo p: the first n of them. -/
def ApartN (p : Nat) (xs : Nat → Int) (n : Nat) : Prop := ∀ i j, i < n → j < n → i ≠ j → ¬ (p : Int) ∣ xs i - xs j
theorem apart_map {p : Nat} (xs : Nat → Int) : ∀ (l : List Nat), l.Nodup → (∀ i ∈ l, ∀ j ∈ l, i ≠ j → ¬ (p : Int) ∣ xs i - xs j) → Apart p (l.map xs) := by
  intro l
  induction l with
  | nil => intro _ _; trivial
  | cons a l ih =>
    intro hn h
    rw [List.nodup_cons] at hn
    refine ⟨fun y hy => ?_, ih hn.2 fun i hi j hj => h i (by simp [hi]) j (by simp [hj])⟩
    obtain ⟨b, hb, rfl⟩ := List.mem_map.1 hy
    exact h b (by simp [hb]) a (by simp) (by rintro rfl; exact hn.1 hb)
theorem ApartN.list {p : Nat} {xs : Nat → Int} {n : Nat} (h : ApartN p xs n) : Apart p ((List.range n).map xs) :=
  apart_map xs _ List.nodup_range fun i hi j hj => h i j (List.mem_range.1 hi) (List.mem_range.1 hj)
theorem wsum_isP {n : Nat} (W : Nat → Int → Int) (ys : Nat → Int) : ∀ k, (∀ i, i < k → IsP n (W i)) → 1 ≤ n → IsP n fun x => wsum (fun i => W i x) ys k := by
  intro k
  induction k with
  | zero => intro _ h; exact ⟨[], by simp, fun x => by simp [wsum, ev]⟩
  | succ k ih =>
    intro h h1
    have := (ih (fun i hi => h i (by omega)) h1).add ((h k (by omega)).smul (ys k))
    obtain ⟨l, hl, hg⟩ := this
    exact ⟨l, hl, fun x => by rw [← hg]; show wsum _ ys k + W k x * ys k = _; rw [Int.mul_comm (W k x)]⟩
theorem wsum_one {p : Int} (ws ys : Nat → Int) (i : Nat) : ∀ k, (∀ j, j < k → j ≠ i → Cg p (ws j) 0) → (i < k → Cg p (ws i) 1) → Cg p (wsum ws ys k) (if i < k then ys i else 0) := by
  intro k
  induction k with
  | zero => intro _ _; simp [wsum]; exact Cg.refl _ _
  | succ k ih =>
    intro h0 h1
    have ih' := ih (fun j hj hi => h0 j (by omega) hi) (fun hi => h1 (by omega))
    show Cg p (wsum ws ys k + ws k * ys k) _
    by_cases hk : k = i
    · subst hk
      rw [if_neg (Nat.lt_irrefl k)] at ih'
      rw [if_pos (Nat.lt_succ_self k)]
      have := ih'.add ((h1 (by omega)).mul (Cg.refl p (ys k)))
      simpa using this
    · have := ih'.add ((h0 k (by omega) hk).mul (Cg.refl p (ys k)))
      have e : (if i < k + 1 then ys i else 0) = if i < k then ys i else 0 := by
        by_cases hi : i < k
        · rw [if_pos hi, if_pos (by omega)]
        · rw [if_neg hi, if_neg (by omega)]
      rw [e]
      simpa using this
/-- Lagrange: the sum of the values times their weights is the polynomial's value. -/
theorem lagrange {p : Nat} (hp : Prm p) {n : Nat} (h1 : 1 ≤ n) (xs inv : Nat → Int) (hA : ApartN p xs n) (hinv : ∀ i, i < n → Cg p (pbut xs i (xs i) n * inv i) 1) {f : Int → Int} (hf : IsP n f) (x : Int) :
    Cg p (wsum (fun i => pbut xs i x n * inv i) (fun i => f (xs i)) n) (f x) := by
  have hW : ∀ i, i < n → IsP n (fun x => pbut xs i x n * inv i) := fun i hi => by
    have := pbut_isP xs i n
    rw [if_pos hi] at this
    obtain ⟨l, hl, hg⟩ := this.smul (inv i)
    exact ⟨l, hl, fun x => by rw [← hg]; exact Int.mul_comm _ _⟩
  refine same_poly hp (wsum_isP (fun i x => pbut xs i x n * inv i) (fun i => f (xs i)) n hW h1) hf ((List.range n).map xs) (by simp) hA.list ?_ x
  intro y hy
  obtain ⟨i, hi, rfl⟩ := List.mem_map.1 hy
  have hi := List.mem_range.1 hi
  have := wsum_one (p := p) (fun j => pbut xs j (xs i) n * inv j) (fun j => f (xs j)) i n (fun j hj hne => ?_) (fun _ => hinv i hi)
  · rwa [if_pos hi] at this
  · rw [pbut_zero xs j i (fun e => hne e.symm) n hi, Int.zero_mul]; exact Cg.refl _ _
/-- What has the product 1 with a number: its power. -/
theorem inv_pow {p : Nat} (hp : Prm p) {a : Nat} (ha : ¬ p ∣ a) : Cg p ((a : Int) * ((a ^ (p - 2) % p : Nat) : Int)) 1 := by
  have h2 := hp.1
  have e := fermat1 hp ha
  have e2 : a * a ^ (p - 2) = a ^ (p - 1) := by rw [← Nat.pow_succ']; congr 1; omega
  have e3 : a * (a ^ (p - 2) % p) % p = 1 := by rw [Nat.mul_mod, Nat.mod_mod, ← Nat.mul_mod, e2, e]
  unfold Cg
  have e4 : ((a * (a ^ (p - 2) % p) : Nat) : Int) % (p : Int) = 1 := by rw [← Int.natCast_emod, e3]; rfl
  rw [← Int.natCast_mul, e4, Int.emod_eq_of_lt (by decide) (by omega)]
end Go.Proofs.YtgeahbmaeaoeeaaGreatDoor.Num
namespace Go.Proofs.YtgeahbmaeaoeeaaGreatDoor
open Go.RowKit Num

theorem wraps_i64_63 (n : Int) (h₀ : 0 ≤ n) (h₁ : n < 2 ^ 63) : IntKind.i64.wrap n = n := by rw [IntKind.wrap_i64]; omega
theorem and_1 (t : Nat) (ht : t < 9223372036854775808) : bits .and .i64 (t : Int) 1 = ((t % 2 : Nat) : Int) := by
  have h := bits_mask .i64 63 (by decide) wraps_i64_63 1 (by decide) (t : Int) (by omega) (by omega)
  have e : ((2 : Int) ^ 1 - 1) = 1 := by decide
  have e2 : ((2 : Int) ^ 1) = 2 := by decide
  rw [e, e2] at h
  rw [h]; omega
theorem emod_tmod (n p : Int) : n % p = n.tmod p % p := by
  conv => lhs; rw [← Int.mul_tdiv_add_tmod n p, Int.add_comm, Int.add_mul_emod_self_left]
theorem emod_lo {n p : Int} (h : 1 ≤ p) (h1 : -p < n.tmod p) (h2 : n.tmod p < 0) : n.tmod p + p = n % p := by
  rw [emod_tmod, ← Int.add_emod_right, Int.emod_eq_of_lt (by omega) (by omega)]
theorem emod_hi {n p : Int} (h : 1 ≤ p) (h1 : n.tmod p < p) (h2 : 0 ≤ n.tmod p) : n.tmod p = n % p := by
  rw [emod_tmod, Int.emod_eq_of_lt (by omega) (by omega)]
theorem ret_int {k : IntKind} {a b : Int} (h : a = b) : Ending.returned (.int k a) = .returned (.int k b) := by rw [h]
theorem int_eq {k : IntKind} {a b : Int} (h : a = b) : Value.int k a = .int k b := by rw [h]
theorem ret_bool {a b : Bool} (h : a = b) : Ending.returned (.bool a) = .returned (.bool b) := by rw [h]

set_option maxHeartbeats 400000 in
theorem f_modulo (p n : Int) (w : World) (h1 : 1 ≤ p) (h2 : p ≤ 2147483648) :
    Calls Tryz.prog 110 #[.int .i64 p, .int .i64 n] w fun e w' => e = .returned (.int .i64 (n % p)) ∧ w = w' := by
  have ht := Int.tmod_lt_of_pos n (b := p) (by omega)
  have ht' : -p < n.tmod p := Int.lt_tmod_of_pos n (by omega)
  go_enter Tryz.func110, Tryz.ntmps110
  go_wp2
  all_goals go_ret
  · exact ⟨ret_int (emod_lo h1 ht' (by assumption)), rfl⟩
  · exact ⟨ret_int (emod_hi h1 ht (by assumption)), rfl⟩

set_option maxHeartbeats 400000 in
theorem f_Mul (p a b : Nat) (w : World) (h1 : 1 ≤ p) (h2 : p ≤ 2147483648) (ha : a < 2147483648) (hb : b < 2147483648) :
    Calls Tryz.prog 94 #[.int .i64 (p : Int), .int .i64 (a : Int), .int .i64 (b : Int)] w fun e w' => e = .returned (.int .i64 ((a * b % p : Nat) : Int)) ∧ w = w' := by
  have hm := mul_bd ha hb (Nat.le_refl _)
  go_enter Tryz.func94, Tryz.ntmps94
  go_wp2_with (go_at_call 110; refine (f_modulo _ _ _ (by omega) (by omega)).mono ?_; rintro e w' ⟨rfl, rfl⟩)
  go_ret
  exact ⟨ret_int (by rw [← Int.natCast_mul]; exact (Int.natCast_emod _ _).symm), rfl⟩

set_option maxHeartbeats 400000 in
theorem f_Element (p : Nat) (n : Int) (w : World) (h1 : 1 ≤ p) (h2 : p ≤ 2147483648) :
    Calls Tryz.prog 90 #[.int .i64 (p : Int), .int .i64 n] w fun e w' => e = .returned (.int .i64 (n % p)) ∧ w = w' := by
  go_enter Tryz.func90, Tryz.ntmps90
  go_wp2_with (go_at_call 110; refine (f_modulo _ _ _ (by omega) (by omega)).mono ?_; rintro e w' ⟨rfl, rfl⟩)
  go_ret
  exact ⟨rfl, rfl⟩

set_option maxHeartbeats 400000 in
theorem f_Add (p a b : Nat) (w : World) (h1 : 1 ≤ p) (h2 : p ≤ 2147483648) (ha : a < 2305843009213693952) (hb : b < 2305843009213693952) :
    Calls Tryz.prog 112 #[.int .i64 (p : Int), .int .i64 (a : Int), .int .i64 (b : Int)] w fun e w' => e = .returned (.int .i64 (((a + b) % p : Nat) : Int)) ∧ w = w' := by
  go_enter Tryz.func112, Tryz.ntmps112
  go_wp2_with (go_at_call 110; refine (f_modulo _ _ _ (by omega) (by omega)).mono ?_; rintro e w' ⟨rfl, rfl⟩)
  go_ret
  exact ⟨ret_int (by rw [← Int.natCast_add]; exact (Int.natCast_emod _ _).symm), rfl⟩

theorem quiet_left {P : Program} {f : FuncId} {args : Array Value} {w : World} {n : Nat} {v : Value}
    (h : Calls P f args (w.drewN n) fun e w' => e = .returned v ∧ w.drewN n = w') : Calls P f args (w.drewN n) fun e w' => e = .returned v ∧ ∃ m, w' = w.drewN m :=
  h.mono fun _ _ ⟨he, hm⟩ => ⟨he, n, hm.symm⟩

/-- No block below n turns, and the world may have drawn. -/
theorem below_dn {n : Nat} {w w' : World} (h : Below n w w') (k : Nat) : Below n w (w'.drewN k) := by
  exact ⟨h.os, h.tape, h.output, h.size, h.block⟩

/-- A number is of the group: above 0, below the modulus, and its power is 1. -/
def inG (p m : Nat) (x : Int) : Bool := decide (0 < x ∧ x < m ∧ pw m x.toNat p = 1)
theorem inG_f {p m : Nat} {x : Int} (h : ¬ (0 < x ∧ x < m)) : inG p m x = false := decide_eq_false fun hc => h ⟨hc.1, hc.2.1⟩
theorem inG_n {p m n : Nat} (h0 : 0 < n) (h : n < m) : (((pw m n p : Nat) : Int) == 1) = inG p m (n : Int) := by
  rw [Bool.eq_iff_iff, beq_iff_eq, inG, decide_eq_true_eq, Int.toNat_natCast]; omega

end Go.Proofs.YtgeahbmaeaoeeaaGreatDoor
namespace Go.Proofs.YtgeahbmaeaoeeaaGreatDoor.Num
open Classical

theorem sqrt_one {p y : Nat} (h : Prm p) (hy : y < p) (h1 : y * y % p = 1) : y = 1 ∨ y = p - 1 := by
  have h2 := h.1
  have y1 : 1 ≤ y := by
    cases y with
    | zero => rw [Nat.zero_mul, Nat.zero_mod] at h1; omega
    | succ y => omega
  have y2 : 1 ≤ y * y := Nat.mul_pos (by omega) (by omega)
  have d : p ∣ (y - 1) * (y + 1) := by
    have e : (y - 1) * (y + 1) = y * y - 1 := by
      obtain ⟨z, rfl⟩ : ∃ z, y = z + 1 := ⟨y - 1, by omega⟩
      have a : (z + 1) * (z + 1) = z * (z + 1) + (z + 1) := Nat.succ_mul _ _
      have b : z * (z + 1 + 1) = z * (z + 1) + z := Nat.mul_succ _ _
      rw [Nat.add_sub_cancel, b, a]; omega
    rw [e]
    apply Nat.dvd_of_mod_eq_zero
    apply Nat.sub_mod_eq_zero_of_mod_eq
    rw [h1]; exact (Nat.mod_eq_of_lt (by omega)).symm
  rcases prm_dvd h d with d | d
  · by_cases h0 : y = 1
    · exact .inl h0
    · have := Nat.le_of_dvd (by omega) d; omega
  · have := Nat.le_of_dvd (by omega) d; omega

/-- What the test asks, of the odd part o and of t twos. -/
def MRat (m b o t : Nat) : Prop := pw m b o = 1 ∨ ∃ i, i < t ∧ pw m b (o * 2 ^ i) = m - 1
def MRp (m b : Nat) : Prop := ∃ o t, o * 2 ^ t = m - 1 ∧ o % 2 = 1 ∧ MRat m b o t
noncomputable def mrB (m b : Nat) : Bool := decide (MRp m b)

theorem odd_uniq {o t o' t' : Nat} (h : o % 2 = 1) (h' : o' % 2 = 1) (he : o * 2 ^ t = o' * 2 ^ t') : o = o' ∧ t = t' := by
  have key : ∀ {o t o' t' : Nat}, o % 2 = 1 → o * 2 ^ t = o' * 2 ^ t' → ¬ t < t' := by
    intro o t o' t' ho he hlt
    have e : 2 ^ t' = 2 ^ (t' - t - 1) * 2 * 2 ^ t := by
      rw [← Nat.pow_succ, ← Nat.pow_add]; congr 1; omega
    rw [e, ← Nat.mul_assoc] at he
    have := Nat.eq_of_mul_eq_mul_right (Nat.two_pow_pos t) he
    rw [this, ← Nat.mul_assoc] at ho
    omega
  have ht : t = t' := by
    rcases Nat.lt_trichotomy t t' with hl | hl | hl
    · exact (key h he hl).elim
    · exact hl
    · exact (key h' he.symm hl).elim
  subst ht
  exact ⟨Nat.eq_of_mul_eq_mul_right (Nat.two_pow_pos t) he, rfl⟩
theorem mrB_at {m b o t : Nat} (he : o * 2 ^ t = m - 1) (ho : o % 2 = 1) : mrB m b = true ↔ MRat m b o t := by
  unfold mrB
  rw [decide_eq_true_eq]
  constructor
  · rintro ⟨o', t', he', ho', h⟩
    obtain ⟨rfl, rfl⟩ := odd_uniq ho ho' (he.trans he'.symm)
    exact h
  · intro h; exact ⟨o, t, he, ho, h⟩
theorem mrB_f {m b o t : Nat} (he : o * 2 ^ t = m - 1) (ho : o % 2 = 1) (h : ¬ MRat m b o t) : mrB m b = false := by
  cases hb : mrB m b with
  | false => rfl
  | true => exact absurd ((mrB_at he ho).1 hb) h

theorem odd_part : ∀ n : Nat, 0 < n → ∃ o t, o * 2 ^ t = n ∧ o % 2 = 1 := by
  intro n
  induction n using Nat.strongRecOn with
  | _ n ih =>
    intro hn
    rcases Nat.mod_two_eq_zero_or_one n with h | h
    · obtain ⟨o, t, he, ho⟩ := ih (n / 2) (by omega) (by omega)
      exact ⟨o, t + 1, by rw [Nat.pow_succ, ← Nat.mul_assoc, he]; omega, ho⟩
    · exact ⟨n, 0, by simp, h⟩

theorem mr_prime {p b : Nat} (h : Prm p) (h3 : 3 ≤ p) (hb : ¬ p ∣ b) : mrB p b = true := by
  have h2 := h.1
  obtain ⟨o, t, he, ho⟩ := odd_part (p - 1) (by omega)
  rw [mrB_at he ho]
  have hf : pw p b (o * 2 ^ t) = 1 := by rw [he]; exact fermat1 h hb
  clear he
  induction t with
  | zero => left; rwa [Nat.pow_zero, Nat.mul_one] at hf
  | succ t ih =>
    have e : o * 2 ^ (t + 1) = o * 2 ^ t + o * 2 ^ t := by rw [Nat.pow_succ, ← Nat.mul_assoc]; omega
    rw [e, ← pw_add] at hf
    rcases sqrt_one h (pw_lt (by omega) _ _) hf with h1 | h1
    · rcases ih h1 with h4 | ⟨i, hi, h4⟩
      · exact .inl h4
      · exact .inr ⟨i, by omega, h4⟩
    · exact .inr ⟨t, by omega, h1⟩
end Go.Proofs.YtgeahbmaeaoeeaaGreatDoor.Num
