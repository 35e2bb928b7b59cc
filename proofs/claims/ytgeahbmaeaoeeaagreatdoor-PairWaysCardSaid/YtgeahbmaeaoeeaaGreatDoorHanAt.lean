/- Contracts: what parts give together. -/
import Derived.Test.YtgeahbmaeaoeeaaGreatDoorPolV
import Derived.Test.YtgeahbmaeaoeeaaGreatDoorArr
import Derived.Lib.Repeat
import Derived.Test.YtgeahbmaeaoeeaaGreatDoorHanSha
import Derived.Lib.Builder
import Derived.Lib.UnsafeStr
import Derived.Lib.FrozenHead2
import Derived.Deep.RegionHeld3
import Derived.Test.YtgeahbmaeaoeeaaGreatDoorKitDice
import Derived.Lib.ConvBytes
import Derived.OwnWalk
import Derived.Laws.OwnMore
set_option linter.unusedVariables false
set_option linter.unusedSimpArgs false
namespace Go.Proofs.YtgeahbmaeaoeeaaGreatDoor
open Go.RowKit Num

def hsOf (L : List Sh) : List Int := L.map (·.1)
def vOf (L : List Sh) (k : Nat) : Nat := ((shAt L k).2.getD 0 0).toNat
/-- The product of parts to the powers of their weights. -/
def hAt (p : Nat) (L : List Sh) (x : Int) : Nat → Nat
  | 0 => 1
  | k + 1 => hAt p L x k * pw (2 * p + 1) (vOf L k) (wt p (fOf (hsOf L)) L.length k x).toNat % (2 * p + 1)
theorem hAt_lt (p : Nat) (L : List Sh) (x : Int) (hp : 1 ≤ p) : ∀ k, hAt p L x k < 2 * p + 1 := by
  intro k
  cases k with
  | zero => show 1 < _; omega
  | succ k => exact Nat.mod_lt _ (by omega)
theorem wt_bd (p : Nat) (xs : Nat → Int) (n i : Nat) (x : Int) (hp : 1 ≤ p) : 0 ≤ wt p xs n i x ∧ wt p xs n i x < p :=
  ⟨Int.emod_nonneg _ (by omega), Int.emod_lt_of_pos _ (by omega)⟩
theorem hsOf_get (L : List Sh) (k : Nat) (h : k < L.length) : fOf (hsOf L) k = (shAt L k).1 := by
  unfold fOf hsOf shAt
  rw [List.getD_eq_getElem?_getD, List.getElem?_map, List.getD_eq_getElem?_getD, List.getElem?_eq_getElem h]; rfl
/-- Shares that may be parts: holders of the plan, each once, one value each, below the modulus. -/
structure PartsOk (p hold : Nat) (L : List Sh) : Prop where
  holder : ∀ k, k < L.length → 1 ≤ (shAt L k).1 ∧ (shAt L k).1 ≤ hold
  once : ∀ i j, i < L.length → j < L.length → i ≠ j → (shAt L i).1 ≠ (shAt L j).1
  one : ∀ k, k < L.length → (shAt L k).2.length = 1
  grp : ∀ k, k < L.length → inG p (2 * p + 1) ((shAt L k).2.getD 0 0) = true
theorem inG_bd {p m : Nat} {x : Int} (h : inG p m x = true) : 0 < x ∧ x < m := by
  simp only [inG, decide_eq_true_eq] at h; exact ⟨h.1, h.2.1⟩
theorem PartsOk.apart {p hold : Nat} {L : List Sh} (h : PartsOk p hold L) (hp : hold < p) : ApartN p (fOf (hsOf L)) (hsOf L).length := by
  intro i j hi hj hne hd
  have hl : (hsOf L).length = L.length := by simp [hsOf]
  rw [hl] at hi hj
  rw [hsOf_get L i hi, hsOf_get L j hj] at hd
  have h1 := h.holder i hi
  have h2 := h.holder j hj
  have h3 := h.once i j hi hj hne
  obtain ⟨c, hc⟩ := hd
  rcases Int.lt_trichotomy c 0 with hc0 | hc0 | hc0
  · have : (p : Int) * c ≤ (p : Int) * (-1) := Int.mul_le_mul_of_nonneg_left (by omega) (by omega)
    omega
  · subst hc0; omega
  · have : (p : Int) * 1 ≤ (p : Int) * c := Int.mul_le_mul_of_nonneg_left (by omega) (by omega)
    omega
end Go.Proofs.YtgeahbmaeaoeeaaGreatDoor
