/- Contracts of the kit: plans and elements by the dice. -/
import Derived.Test.YtgeahbmaeaoeeaaGreatDoorPolV
set_option linter.unusedVariables false
set_option linter.unusedSimpArgs false
namespace Go.Proofs.YtgeahbmaeaoeeaaGreatDoor
open Go.RowKit Num

def PlanPost (b p : Nat) (w : World) (e : Ending) (w' : World) : Prop :=
  ∃ need hold : Nat, 1 ≤ need ∧ need ≤ hold ∧ hold ≤ 7 ∧ hold < p ∧ e = .returned (planV p need hold) ∧ Dc w' b ∧ w.grownBy w' (some b)
def ElemPost (b p n : Nat) (w : World) (e : Ending) (w' : World) : Prop :=
  ∃ v xs, e = .returned v ∧ IntsAt w' (fun g => w.heap.size ≤ g ∧ g < w'.heap.size) v xs ∧ xs.length = n ∧ InF p xs ∧ Dc w' b ∧ w.grownBy w' (some b)
theorem InF.snoc {p : Nat} {xs : List Int} {y : Int} (h : InF p xs) (h0 : 0 ≤ y) (h1 : y < p) : InF p (xs ++ [y]) := by
  intro k hk
  rcases Nat.lt_or_ge k xs.length with hl | hl
  · have := h k hl; rwa [List.getD_eq_getElem?_getD, List.getElem?_append_left hl, ← List.getD_eq_getElem?_getD]
  · have hk2 : k = xs.length := by simp at hk; omega
    subst hk2
    rw [List.getD_eq_getElem?_getD, List.getElem?_append_right (Nat.le_refl _)]; simpa using ⟨h0, h1⟩
theorem k_ModE (p : Nat) (x : Int) (w : World) (h1 : 1 ≤ p) (h2 : p ≤ 1073741824) :
    Calls Tryz.prog 21 #[.int .i64 x, .int .i64 (p : Int)] w fun e w' => ∃ y : Int, 0 ≤ y ∧ y < p ∧ e = .returned (.int .i64 y) ∧ w = w' :=
  (k_Mod x p w (by omega) (by omega)).mono fun e w' ⟨he, hw⟩ => ⟨x % p, Int.emod_nonneg _ (by omega), Int.emod_lt_of_pos _ (by omega), he, hw⟩
end Go.Proofs.YtgeahbmaeaoeeaaGreatDoor
