/- Contracts: the handle of a name. -/
import Derived.Test.YtjfphobfikadlaaDoorHanAt
set_option linter.unusedVariables false
set_option linter.unusedSimpArgs false
namespace Go.Proofs.YtjfphobfikadlaaDoor
open Go.RowKit Num

theorem shAt_take (L : List Sh) (n k : Nat) (h : k < n) : shAt (L.take n) k = shAt L k := by
  unfold shAt; rw [List.getD_eq_getElem?_getD, List.getD_eq_getElem?_getD, List.getElem?_take, if_pos h]
theorem ShAt.take {w : World} {S : Nat → Prop} {A : Option Addr} {n c m : Nat} {L : List Sh} (h : ShAt w S (.slice A n c) L) (hm : m ≤ n) : ShAt w S (.slice A m c) (L.take m) := by
  obtain ⟨A', n', c', hv, h2, h3, h4⟩ := h
  injection hv with e1 e2 e3
  subst e1 e2 e3
  refine ⟨_, m, _, rfl, by rw [List.length_take]; omega, by omega, fun hm' => ?_⟩
  obtain ⟨b, off, hA, hS, hc⟩ := h4 (by omega)
  refine ⟨b, off, hA, hS, fun k hk => ?_⟩
  rw [shAt_take L m k hk]
  exact hc k (by omega)
theorem PartsOk.take {p hold : Nat} {L : List Sh} (h : PartsOk p hold L) (m : Nat) : PartsOk p hold (L.take m) := by
  have hl : (L.take m).length ≤ L.length := by rw [List.length_take]; omega
  have hm : (L.take m).length ≤ m := by rw [List.length_take]; omega
  refine ⟨fun k hk => ?_, fun i j hi hj hne => ?_, fun k hk => ?_, fun k hk => ?_⟩
  · rw [shAt_take L m k (by omega)]; exact h.holder k (by omega)
  · rw [shAt_take L m i (by omega), shAt_take L m j (by omega)]; exact h.once i j (by omega) (by omega) hne
  · rw [shAt_take L m k (by omega)]; exact h.one k (by omega)
  · rw [shAt_take L m k (by omega)]; exact h.grp k (by omega)
def Int2Below (a b : Int) (w : World) (e : Ending) (w' : World) : Prop := e = .returned (.tuple #[.int .i64 a, .int .i64 b]) ∧ Below w.heap.size w w'
/-- One share: its holder, one value below p. -/
def PartPost (p x h y : Nat) (w : World) (e : Ending) (w' : World) : Prop :=
  ∃ v, e = .returned (.tuple #[.agg #[.int .i64 (h : Int), v], .int .i64 0]) ∧ w'.ownsRow w.heap.size 3 1 v 1 [.int .i64 (pw (2 * p + 1) x y : Int)] ∧ Below w.heap.size w w'
end Go.Proofs.YtjfphobfikadlaaDoor
