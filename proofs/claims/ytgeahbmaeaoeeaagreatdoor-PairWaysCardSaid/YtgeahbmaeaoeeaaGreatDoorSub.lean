/- Slices of slices: their value under one name. -/
import Derived.Test.YtgeahbmaeaoeeaaGreatDoorMem
set_option linter.unusedVariables false
set_option linter.unusedSimpArgs false
namespace Go.Proofs.YtgeahbmaeaoeeaaGreatDoor
open Go.RowKit Num
/-- The head of a slice of a slice. -/
def subA (A : Option Addr) (cap k size : Nat) : Option Addr := if cap = k then A else A.map (·.add (k * size))
section
variable {P : Program} (w : World) (t e : TypeId) (i : TypeInfo) (size : Nat)
theorem run_slice_lohi (ht : P.underlying t = some (.slice e)) (hi : P.info? e = some i) (hz : i.size = size) (A : Option Addr) (n c lo hg : Nat) (h1 : lo ≤ hg) (h2 : hg ≤ c) (x y : Int) (hx : x = (lo : Int)) (hy : y = (hg : Int)) :
    (Instr.slice t (.slice A n c) (some (.int .i64 x)) (some (.int .i64 y)) none).run P w = .ok (.slice (subA A c lo size) (hg - lo) (c - lo)) w := by
  subst hx hy hz
  have e1 : (0 : Int) ≤ (hg : Int) ∧ (hg : Int) ≤ (c : Int) := by omega
  have e2 : (0 : Int) ≤ (lo : Int) ∧ (lo : Int) ≤ (hg : Int) := by omega
  simp [Instr.slice, run_underlying ht, Instr.sliceBounds, Instr.sliceBound, asIntOf, sizeOf, typeInfo, hi, subA, go_sem, h1, h2]
theorem run_slice_hi (ht : P.underlying t = some (.slice e)) (hi : P.info? e = some i) (A : Option Addr) (n c hg : Nat) (h2 : hg ≤ c) (y : Int) (hy : y = (hg : Int)) :
    (Instr.slice t (.slice A n c) none (some (.int .i64 y)) none).run P w = .ok (.slice A hg c) w := by
  subst hy
  have e1 : (0 : Int) ≤ (hg : Int) ∧ (hg : Int) ≤ (c : Int) := by omega
  simp [Instr.slice, run_underlying ht, Instr.sliceBounds, Instr.sliceBound, asIntOf, sizeOf, typeInfo, hi, go_sem, h2]
theorem run_slice_lo (ht : P.underlying t = some (.slice e)) (hi : P.info? e = some i) (hz : i.size = size) (A : Option Addr) (n c lo : Nat) (h1 : lo ≤ n) (h2 : n ≤ c) (x : Int) (hx : x = (lo : Int)) :
    (Instr.slice t (.slice A n c) (some (.int .i64 x)) none none).run P w = .ok (.slice (subA A c lo size) (n - lo) (c - lo)) w := by
  subst hx hz
  have e2 : (0 : Int) ≤ (lo : Int) ∧ (lo : Int) ≤ (n : Int) := by omega
  simp [Instr.slice, run_underlying ht, Instr.sliceBounds, Instr.sliceBound, asIntOf, sizeOf, typeInfo, hi, subA, go_sem, h1]
end
theorem Reads.sub {w : World} {B size n : Nat} {A : Option Addr} {xs : List Value} (h : Reads w B size A n xs) {lo hg cap : Nat} (h1 : lo ≤ hg) (h2 : hg ≤ n) (hc : n ≤ cap) :
    Reads w B size (subA A cap lo size) (hg - lo) ((xs.drop (lo * size)).take ((hg - lo) * size)) := by
  refine ⟨?_, fun hn => ?_⟩
  · rw [List.length_take, List.length_drop, h.1, ← Nat.sub_mul]
    exact Nat.min_eq_left (Nat.mul_le_mul_right size (by omega))
  obtain ⟨ad, rfl, hb, hcell⟩ := h.2 (by omega)
  unfold subA
  rw [if_neg (by omega)]
  refine ⟨ad.add (lo * size), rfl, by rw [block_of_add]; exact hb, fun j u hu => ?_⟩
  rw [add_of_add]
  rw [List.getElem?_take] at hu
  split at hu
  · exact hcell _ u (by rw [← hu, List.getElem?_drop])
  · cases hu
end Go.Proofs.YtgeahbmaeaoeeaaGreatDoor
