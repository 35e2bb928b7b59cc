/- What a slice of ints that is read as data gives. -/
import Derived.Test.YtgeahbmaeaoeeaaGreatDoorKitDice
import Derived.ProofKit
import Derived.SizedLaws
set_option linter.unusedVariables false
set_option linter.unusedSimpArgs false
namespace Go.Proofs.YtgeahbmaeaoeeaaGreatDoor
open Go.ChangeShapes Go.WideShapes Go.ChangeAt Go.RowKit

theorem ints_fact {H : Type} {enc : TypeId × Value → H} {W : World} {t e : TypeId} {a : Option Addr} {n c : Nat} {d : DataW H} {p : List MemPlace} (ht : Tryz.prog.underlying t = some (.slice e)) (he : Tryz.prog.underlying e = some (.int .i64)) (hc : Tryz.prog.cellsOf e = 1)
    (h : DataW.Trod enc Tryz.prog W 0 (fun _ => true) true t (.slice a n c) d p) (hlt : ∀ x ∈ p, x.block < W.heap.size) :
    n ≤ 9223372036854775807 ∧ (n ≤ 500 → ArgL W (.slice a n c)) := by
  obtain ⟨fu, hf⟩ := h
  rcases open_ints ht he hc hf with ⟨hcs, hx⟩ | ⟨b, len', cap', zs, hcs, _, hl, hm, hz, hx, hcell, hwz⟩
  · simp [Value.cells] at hcs
    obtain ⟨rfl, rfl, rfl⟩ := hcs
    exact ⟨by omega, fun _ => ⟨none, 0, 0, fun _ => 0, rfl, by omega, fun h => absurd h (by omega)⟩⟩
  · simp [Value.cells] at hcs
    obtain ⟨rfl, rfl, rfl⟩ := hcs
    simp only [Prod.mk.injEq] at hx
    obtain ⟨rfl, rfl⟩ := hx
    simp only [if_true] at hz
    unfold maxLen at hm
    refine ⟨by omega, fun h5 => ⟨some b, n, c, fun i => zs.getD i 0, rfl, h5, fun hn => ?_⟩⟩
    obtain ⟨b0, off, spot⟩ := b
    have hspot : spot = none := by simpa [Addr.add] using World.cell?_spot (hcell 0 (by omega))
    subst hspot
    refine ⟨b0, off, rfl, hlt (.cell b0 off) (MemPlace.mem_row.2 ⟨0, by omega, by simp⟩), fun i hi => ?_⟩
    rw [← add_plain]; exact hcell i (by omega)
end Go.Proofs.YtgeahbmaeaoeeaaGreatDoor
