/- Contracts of the reference's field, polynomials and plans. -/
import Derived.Test.YthfmmememdlekaaDoorPlyNum
import Derived.Test.YthfmmememdlekaaDoorKitDice
set_option linter.unusedVariables false
set_option linter.unusedSimpArgs false
namespace Go.Proofs.YthfmmememdlekaaDoor
open Go.RowKit Num

/-- A slice of numbers, its cells in a block of S. -/
def IntsAt (w : World) (S : Nat → Prop) (v : Value) (xs : List Int) : Prop :=
  ∃ (A : Option Addr) (n c : Nat), v = .slice A n c ∧ n = xs.length ∧ n ≤ c ∧ (0 < n → ∃ b off, A = some ⟨b, off, none⟩ ∧ S b ∧ ∀ k, k < n → w.cell? ⟨b, off + k, none⟩ = some (.int .i64 (xs.getD k 0)))
theorem IntsAt.keep {w w' : World} {S : Nat → Prop} {v : Value} {xs : List Int} (h : IntsAt w S v xs) (hk : ∀ b, S b → w'.heap[b]? = w.heap[b]?) : IntsAt w' S v xs := by
  obtain ⟨A, n, c, h1, h2, h3, h4⟩ := h
  refine ⟨A, n, c, h1, h2, h3, fun hn => ?_⟩
  obtain ⟨b, off, hA, hS, hc⟩ := h4 hn
  exact ⟨b, off, hA, hS, fun k hk' => (World.cell?_of_block (hk b hS)).trans (hc k hk')⟩
theorem IntsAt.mono {w : World} {S T : Nat → Prop} {v : Value} {xs : List Int} (h : IntsAt w S v xs) (hk : ∀ b, S b → T b) : IntsAt w T v xs := by
  obtain ⟨A, n, c, h1, h2, h3, h4⟩ := h
  refine ⟨A, n, c, h1, h2, h3, fun hn => ?_⟩
  obtain ⟨b, off, hA, hS, hc⟩ := h4 hn
  exact ⟨b, off, hA, hk b hS, hc⟩
/-- The blocks of a world. -/
def Old (w : World) (b : Nat) : Prop := b < w.heap.size
theorem IntsAt.below {w w' : World} {B : Nat} {v : Value} {xs : List Int} (h : IntsAt w (· < B) v xs) (hb : Below B w w') : IntsAt w' (· < B) v xs := h.keep fun b hB => hb.block b hB
theorem IntsAt.of_own {w : World} {B : Nat} {v : Value} {n : Nat} {xs : List Int} (h : w.ownsRow B 3 1 v n (xs.map (Value.int .i64))) : IntsAt w (fun b => B ≤ b ∧ b < w.heap.size) v xs := by
  have hl : n = xs.length := by have := h.1; simp at this; omega
  rcases h.2 with ⟨rfl, h0⟩ | ⟨g, cap, cur, rfl, hB, hh, hnc, hm, hs, ht⟩
  · exact ⟨none, 0, 0, rfl, by omega, Nat.le_refl _, fun h => by omega⟩
  · refine ⟨_, n, cap, rfl, hl, hnc, fun hn => ⟨g, 0, rfl, ⟨hB, (Array.getElem?_eq_some_iff.1 hh).1⟩, fun k hk => ?_⟩⟩
    have hc := h.cells (g := g) rfl k (.int .i64 (xs.getD k 0)) (by rw [List.getElem?_map, List.getElem?_eq_getElem (show k < xs.length by omega), List.getD_eq_getElem?_getD, List.getElem?_eq_getElem (show k < xs.length by omega)]; rfl)
    have ha : (⟨g, 0, none⟩ : Addr).add k = ⟨g, 0 + k, none⟩ := by unfold Addr.add; split <;> simp_all
    rwa [ha] at hc

/-- All are elements. -/
def InF (p : Nat) (xs : List Int) : Prop := ∀ k, k < xs.length → 0 ≤ xs.getD k 0 ∧ xs.getD k 0 < p

/-- A polynomial's value by Horner's way, modulo p at each step. -/
def evH (p x : Int) : List Int → Int
  | [] => 0
  | c :: l => (evH p x l * x + c) % p
theorem evH_cg (p x : Int) : ∀ l, Cg p (evH p x l) (ev l x) := by
  intro l
  induction l with
  | nil => exact Cg.refl _ _
  | cons c l ih =>
    show Cg p ((evH p x l * x + c) % p) (c + x * ev l x)
    have := (ih.mul (Cg.refl p x)).add (Cg.refl p c)
    rw [Int.mul_comm (ev l x), Int.add_comm (x * ev l x)] at this
    exact Cg.of_emod this
theorem evH_bd (p : Nat) (x : Int) (hp : 1 ≤ p) : ∀ l, 0 ≤ evH p x l ∧ evH p x l < p := by
  intro l
  cases l with
  | nil => exact ⟨Int.le_refl _, by show (0 : Int) < p; omega⟩
  | cons c l => exact ⟨Int.emod_nonneg _ (by omega), Int.emod_lt_of_pos _ (by omega)⟩
theorem drop_get (l : List Int) (k : Nat) (h : k < l.length) : l.drop k = l.getD k 0 :: l.drop (k + 1) := by
  rw [List.drop_eq_getElem_cons h, List.getD_eq_getElem?_getD, List.getElem?_eq_getElem h]; rfl
/-- A plan as a value; it is valid over a prime. -/
def planV (p need hold : Nat) : Value := .agg #[.int .i64 (p : Int), .int .i64 (need : Int), .int .i64 (hold : Int)]
end Go.Proofs.YthfmmememdlekaaDoor
