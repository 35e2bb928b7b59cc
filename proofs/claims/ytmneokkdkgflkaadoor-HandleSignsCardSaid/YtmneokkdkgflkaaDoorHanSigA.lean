/- What an argument that is a struct of two integers holds. -/
import Derived.Test.YtmneokkdkgflkaaDoorHanInts
import Derived.WideShapes
import Derived.ChangeSame
import Derived.ChangeArms
set_option linter.unusedVariables false
namespace Go.Proofs.YtmneokkdkgflkaaDoor
open Go.ChangeShapes Go.WideShapes Go.RowKit

theorem pair_fact {H : Type} {enc : TypeId × Value → H} {P : Program} {w : World} {base : Nat} {spare : Nat → Bool} {held : Bool} {t : TypeId} {f0 f1 : Field} {cs : Array Value} {d : DataW H} {ps : List MemPlace}
    (ht : P.underlying t = some (.struct #[f0, f1])) (o0 : f0.offset = 0) (o1 : f1.offset = 1) (c0 : P.cellsOf f0.type = 1) (c1 : P.cellsOf f1.type = 1) (ct : P.cellsOf t = 2)
    (i0 : P.underlying f0.type = some (.int .i64)) (i1 : P.underlying f1.type = some (.int .i64)) (h : DataW.Trod enc P w base spare held t (.agg cs) d ps) :
    ∃ a b : Int, cs = #[.int .i64 a, .int .i64 b] ∧ (Lit.int .i64 a).wf = true ∧ (Lit.int .i64 b).wf = true := by
  obtain ⟨fuel, hf⟩ := h
  obtain ⟨y0, y1, n, _, hl, h0, h1⟩ := trod_struct2 ht hf
  rw [o0, c0] at h0
  rw [o1, c1] at h1
  rw [ct] at hl
  obtain ⟨a, e0, _, wa⟩ := DataW.trod_int i0 h0
  obtain ⟨b, e1, _, wb⟩ := DataW.trod_int i1 h1
  refine ⟨a, b, ?_, wa, wb⟩
  have hc : (Value.agg cs).cells.toList = cs.toList := rfl
  rw [hc] at e0 e1 hl
  apply Array.toList_inj.1
  match hcs : cs.toList, hl with
  | [x, y], _ =>
    rw [hcs] at e0 e1
    simp at e0 e1
    rw [e0, e1]
end Go.Proofs.YtmneokkdkgflkaaDoor
