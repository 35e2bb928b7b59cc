/- Plain: the values that are dealt over a small field, counted. -/
import Derived.Test.YtgeahbmaeaoeeaaGreatDoorPwPl
import Derived.Test.YtgeahbmaeaoeeaaGreatDoorRefDeal
set_option linter.unusedVariables false
set_option linter.unusedSimpArgs false
namespace Go.Proofs.YtgeahbmaeaoeeaaGreatDoor
open Go.RowKit Num

theorem evN_evH (p h : Nat) : ∀ l : List Nat, evH p h (l.map Int.ofNat) = ((evN p h l : Nat) : Int)
  | [] => rfl
  | c :: l => by
    show (evH p h (l.map Int.ofNat) * (h : Int) + (c : Int)) % (p : Int) = (((evN p h l * h + c) % p : Nat) : Int)
    rw [evN_evH p h l, Int.natCast_emod]; rfl
theorem evN_lt (p h : Nat) (hp : 1 ≤ p) : ∀ l, evN p h l < p
  | [] => hp
  | c :: l => Nat.mod_lt _ hp
/-- The value that a holder is dealt. -/
theorem dealV_evN (p k h s r : Nat) (hk : k = 1 ∨ k = 2) : dealV p k h [(s : Int)] ((rndN p k r).map Int.ofNat) 0 = ((evN p h (s :: rndN p k r) : Nat) : Int) := by
  have e : (((rndN p k r).map Int.ofNat).drop (0 * k)).take k = (rndN p k r).map Int.ofNat := by
    rw [Nat.zero_mul, List.drop_zero]
    apply List.take_of_length_le
    rw [List.length_map]
    unfold rndN
    rcases hk with rfl | rfl <;> simp
  unfold dealV
  rw [e]
  exact evN_evH p h (s :: rndN p k r)
theorem evN_rnd_lt {p : Nat} (hp : 1 ≤ p) (h : Nat) (l : List Nat) : evN p h l < p := evN_lt p h hp l
/-- The fields and numbers that PairWays draws. -/
def PwP (p k : Nat) : Prop := (p = 5 ∨ p = 7 ∨ p = 11) ∧ (k = 1 ∨ k = 2) ∧ (p = 11 → k = 1)
/-- Holders that ascend, with what they have seen. -/
def PwL (p : Nat) : List (Nat × Nat) → Prop
  | [] => True
  | [(h, y)] => 1 ≤ h ∧ h ≤ 4 ∧ y < p
  | [(g, z), (h, y)] => 1 ≤ g ∧ g < h ∧ h ≤ 4 ∧ y < p ∧ z < p
  | _ => False
theorem cnt_good {p k s : Nat} (h : PwP p k) (hs : s < p) (l : List (Nat × Nat)) (hl : PwL p l) (hn : l.length ≤ k) : cntN p k s l (p ^ k) = p ^ (k - l.length) := by
  obtain ⟨hp, hk, h11⟩ := h
  match l, hl with
  | [], _ =>
    have hz : zeroB p k = true := by
      rcases hp with rfl | rfl | rfl <;> rcases hk with rfl | rfl
      · exact zero_5_1
      · exact zero_5_2
      · exact zero_7_1
      · exact zero_7_2
      · exact zero_11_1
      · exact absurd (h11 rfl) (by decide)
    exact Nat.eq_of_beq_eq_true (allB_spec hz s hs)
  | [(h, y)], ⟨h1, h4, hy⟩ =>
    have hz : oneB p k = true := by
      rcases hp with rfl | rfl | rfl <;> rcases hk with rfl | rfl
      · exact one_5_1
      · exact one_5_2
      · exact one_7_1
      · exact one_7_2
      · exact one_11_1
      · exact absurd (h11 rfl) (by decide)
    have := Nat.eq_of_beq_eq_true (allB_spec (allB_spec (allB_spec hz s hs) (h - 1) (by omega)) y hy)
    rw [show h - 1 + 1 = h by omega] at this
    exact this
  | [(g, z), (h, y)], ⟨h1, hgh, h4, hy, hz'⟩ =>
    have hk2 : k = 2 := by have : ([(g, z), (h, y)] : List (Nat × Nat)).length = 2 := rfl; omega
    subst hk2
    have hz : twoB p 2 = true := by
      rcases hp with rfl | rfl | rfl
      · exact two_5_2
      · exact two_7_2
      · exact absurd (h11 rfl) (by decide)
    have := Nat.eq_of_beq_eq_true (allB_spec (allB_spec (allB_spec (allB_spec (allB_spec hz s hs) (h - 1) (by omega)) (g - 1) (by omega)) y hy) z hz')
    rw [show h - 1 + 1 = h by omega, show g - 1 + 1 = g by omega] at this
    rw [this]; simp
theorem cnt_le (p k s : Nat) (l : List (Nat × Nat)) : ∀ r, cntN p k s l r ≤ r
  | 0 => Nat.le_refl _
  | r + 1 => by
    have := cnt_le p k s l r
    show cntN p k s l r + (if hitN p k s r l then 1 else 0) ≤ r + 1
    split <;> omega
theorem cnt_succ (p k s : Nat) (l : List (Nat × Nat)) (r : Nat) : cntN p k s l (r + 1) = cntN p k s l r + (if hitN p k s r l then 1 else 0) := rfl
theorem rnd_lt {p k r : Nat} (hp : 1 ≤ p) (hk : k = 1 ∨ k = 2) (hr : r < p ^ k) : ∀ x ∈ rndN p k r, x < p := by
  intro x hx
  unfold rndN at hx
  rcases hk with rfl | rfl
  · rw [if_pos rfl] at hx
    simp only [List.mem_cons, List.not_mem_nil, or_false] at hx
    subst hx
    exact Nat.mod_lt _ hp
  · rw [if_neg (by decide)] at hx
    simp only [List.mem_cons, List.not_mem_nil, or_false] at hx
    rcases hx with rfl | rfl
    · exact Nat.mod_lt _ hp
    · exact Nat.div_lt_of_lt_mul (by rw [Nat.pow_two] at hr; exact hr)
theorem rnd_len {p k r : Nat} (hk : k = 1 ∨ k = 2) : (rndN p k r).length = k := by
  unfold rndN
  rcases hk with rfl | rfl <;> simp
theorem rnd_in {p k r : Nat} (hp : 1 ≤ p) (hk : k = 1 ∨ k = 2) (hr : r < p ^ k) : InF p ((rndN p k r).map Int.ofNat) := by
  intro j hj
  rw [List.length_map] at hj
  have hm : (rndN p k r)[j] ∈ rndN p k r := List.getElem_mem hj
  have := rnd_lt hp hk hr _ hm
  rw [List.getD_eq_getElem?_getD, List.getElem?_map, List.getElem?_eq_getElem hj]
  show (0 : Int) ≤ ((rndN p k r)[j] : Int) ∧ ((rndN p k r)[j] : Int) < (p : Int)
  omega
end Go.Proofs.YtgeahbmaeaoeeaaGreatDoor
