/- What an argument that is an array of two integers holds. -/
import Derived.Test.YtgbhaaongmlpkaaGreatDoorX38
import Derived.WideShapes
import Derived.ChangeSame
import Derived.ChangeArms
import Derived.OpenShut
set_option linter.unusedVariables false
set_option linter.unusedSimpArgs false
namespace Go.Proofs.YtgbhaaongmlpkaaGreatDoor
open Go.ChangeShapes Go.WideShapes Go.RowKit

theorem okWide_arr {P : Program} {w : World} {r : Reach} {base n : Nat} {t e : TypeId} {v : Value} (ht : P.underlying t = some (.array n e)) (h : Value.okWide P w r base t v) : ∃ cs, v = .agg cs ∧ cs.size = P.cellsOf t := by
  simp only [Value.okWide, ht] at h
  obtain ⟨cs, h1, h2, _⟩ := h
  exact ⟨cs, h1, h2⟩
theorem arr2_fact {H : Type} {enc : TypeId × Value → H} {P : Program} {w : World} {base : Nat} {spare : Nat → Bool} {held : Bool} {t e : TypeId} {cs : Array Value} {d : DataW H} {ps : List MemPlace}
    (ht : P.underlying t = some (.array 2 e)) (ce : P.cellsOf e = 1) (ct : P.cellsOf t = 2) (ie : P.underlying e = some (.int .i64)) (h : DataW.Trod enc P w base spare held t (.agg cs) d ps) :
    ∃ a b : Int, cs = #[.int .i64 a, .int .i64 b] ∧ (Lit.int .i64 a).wf = true ∧ (Lit.int .i64 b).wf = true := by
  obtain ⟨fuel, hf⟩ := h
  obtain ⟨xs, m, _, _, hl, hxl, hx⟩ := DataW.trod_array ht hf
  have hc : (Value.agg cs).cells.toList = cs.toList := rfl
  rw [hc, ct] at hl
  rw [ce] at hx
  rw [hc] at hx
  obtain ⟨y0, y1, rfl⟩ : ∃ y0 y1, xs = [y0, y1] := by
    match xs, hxl with
    | [a, b], _ => exact ⟨a, b, rfl⟩
  have h0 := hx 0 (by decide)
  have h1 := hx 1 (by decide)
  obtain ⟨a, e0, _, wa⟩ := DataW.trod_int ie (h0.trans rfl)
  obtain ⟨b, e1, _, wb⟩ := DataW.trod_int ie (h1.trans rfl)
  refine ⟨a, b, ?_, wa, wb⟩
  apply Array.toList_inj.1
  match hcs : cs.toList, hl with
  | [x, y], _ =>
    rw [hcs] at e0 e1
    simp at e0 e1
    rw [e0, e1]
end Go.Proofs.YtgbhaaongmlpkaaGreatDoor
