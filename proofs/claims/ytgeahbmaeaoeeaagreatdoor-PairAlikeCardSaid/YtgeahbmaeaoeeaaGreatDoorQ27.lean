/- Slices of slices: their value under one name. Contracts: the options of a field, the program's and the reference's. -/
import Derived.Test.YtgeahbmaeaoeeaaGreatDoorQ05
import Derived.Test.YtgeahbmaeaoeeaaGreatDoorQ12
set_option linter.unusedVariables false
set_option linter.unusedSimpArgs false
namespace Go.Proofs.YtgeahbmaeaoeeaaGreatDoor
open Go.RowKit Num
/-- The head of a slice of a slice. -/
def subA (A : Option Addr) (cap k size : Nat) : Option Addr := if cap = k then A else A.map (·.add (k * size))
section
variable {P : Program} (w : World) (t e : TypeId) (i : TypeInfo) (size : Nat)
theorem run_slice_lohi (ht : P.underlying t = some (.slice e)) (hi : P.info? e = some i) (hz : i.size = size) (A : Option Addr) (n c lo hg : Nat) (h1 : lo ≤ hg) (h2 : hg ≤ c) (x y : Int) (hx : x = (lo : Int)) (hy : y = (hg : Int)) :
    (Instr.slice t (.slice A n c) (some (.int .i64 x)) (some (.int .i64 y)) none).run P w = .ok (.slice (subA A c lo size) (hg - lo) (c - lo)) w := by
  subst hx hy hz
  have e1 : (0 : Int) ≤ (hg : Int) ∧ (hg : Int) ≤ (c : Int) := by omega
  have e2 : (0 : Int) ≤ (lo : Int) ∧ (lo : Int) ≤ (hg : Int) := by omega
  simp [Instr.slice, run_underlying ht, Instr.sliceBounds, Instr.sliceBound, asIntOf, sizeOf, typeInfo, hi, subA, go_sem, h1, h2]
theorem run_slice_hi (ht : P.underlying t = some (.slice e)) (hi : P.info? e = some i) (A : Option Addr) (n c hg : Nat) (h2 : hg ≤ c) (y : Int) (hy : y = (hg : Int)) :
    (Instr.slice t (.slice A n c) none (some (.int .i64 y)) none).run P w = .ok (.slice A hg c) w := by
  subst hy
  have e1 : (0 : Int) ≤ (hg : Int) ∧ (hg : Int) ≤ (c : Int) := by omega
  simp [Instr.slice, run_underlying ht, Instr.sliceBounds, Instr.sliceBound, asIntOf, sizeOf, typeInfo, hi, go_sem, h2]
theorem run_slice_lo (ht : P.underlying t = some (.slice e)) (hi : P.info? e = some i) (hz : i.size = size) (A : Option Addr) (n c lo : Nat) (h1 : lo ≤ n) (h2 : n ≤ c) (x : Int) (hx : x = (lo : Int)) :
    (Instr.slice t (.slice A n c) (some (.int .i64 x)) none none).run P w = .ok (.slice (subA A c lo size) (n - lo) (c - lo)) w := by
  subst hx hz
  have e2 : (0 : Int) ≤ (lo : Int) ∧ (lo : Int) ≤ (n : Int) := by omega
  simp [Instr.slice, run_underlying ht, Instr.sliceBounds, Instr.sliceBound, asIntOf, sizeOf, typeInfo, hi, subA, go_sem, h1]
end
theorem Reads.sub {w : World} {B size n : Nat} {A : Option Addr} {xs : List Value} (h : Reads w B size A n xs) {lo hg cap : Nat} (h1 : lo ≤ hg) (h2 : hg ≤ n) (hc : n ≤ cap) :
    Reads w B size (subA A cap lo size) (hg - lo) ((xs.drop (lo * size)).take ((hg - lo) * size)) := by
  refine ⟨?_, fun hn => ?_⟩
  · rw [List.length_take, List.length_drop, h.1, ← Nat.sub_mul]
    exact Nat.min_eq_left (Nat.mul_le_mul_right size (by omega))
  obtain ⟨ad, rfl, hb, hcell⟩ := h.2 (by omega)
  unfold subA
  rw [if_neg (by omega)]
  refine ⟨ad.add (lo * size), rfl, by rw [block_of_add]; exact hb, fun j u hu => ?_⟩
  rw [add_of_add]
  rw [List.getElem?_take] at hu
  split at hu
  · exact hcell _ u (by rw [← hu, List.getElem?_drop])
  · cases hu
end Go.Proofs.YtgeahbmaeaoeeaaGreatDoor
namespace Go.Proofs.YtgeahbmaeaoeeaaGreatDoor
open Go.RowKit Num

theorem infoTx : (Tryz.prog.info? 9).map (fun i => (i.zero, i.size, i.bytes)) = some (some (.string ⟨#[]⟩), 1, 16) := by kernel_rfl
theorem str_ne {s : ByteArray} (h0 : ¬ s.size = 0) : (s.toList == []) = false ∧ (!s.toList.isEmpty) = true ∧ ¬ s.toList = [] := by
  have z1 : (s.toList == []) = false := by
    rw [ByteArray.toList_eq]
    cases hl : s.data.toList with
    | nil => exact absurd (by rw [← blOf_len]; show s.data.toList.length = 0; rw [hl]; rfl) h0
    | cons a r => rfl
  have z2 : (!s.toList.isEmpty) = true := by
    rw [ByteArray.toList_eq]
    cases hl : s.data.toList with
    | nil => exact absurd (by rw [← blOf_len]; show s.data.toList.length = 0; rw [hl]; rfl) h0
    | cons a r => rfl
  exact ⟨z1, z2, by simpa using z1⟩
theorem str_nil {s : ByteArray} (h0 : s.size = 0) : s = ⟨#[]⟩ := blOf_inj (List.eq_nil_of_length_eq_zero (by rw [blOf_len]; exact h0))
theorem bsOf_bl (s : ByteArray) : bsOf (blOf s) = s := bsOf_blOf s
theorem optGood_step {L : List ByteArray} {k : Nat} (h : optGood L k) (h1 : 1 ≤ (L.getD k ⟨#[]⟩).size) (h2 : (L.getD k ⟨#[]⟩).size ≤ 256) (h3 : ∀ j, j < k → L.getD j ⟨#[]⟩ ≠ L.getD k ⟨#[]⟩) : optGood L (k + 1) := fun i hi => by
  by_cases e : i = k
  · subst e; exact ⟨h1, h2, h3⟩
  · exact h i (by omega)
theorem optsB_false {L : List ByteArray} {k : Nat} (hk : k < L.length) (h : ¬ (1 ≤ (L.getD k ⟨#[]⟩).size ∧ (L.getD k ⟨#[]⟩).size ≤ 256 ∧ ∀ j, j < k → L.getD j ⟨#[]⟩ ≠ L.getD k ⟨#[]⟩)) : optsB L = false :=
  decide_eq_false fun hg => h (hg.1 k hk)
theorem optsB_end {L : List ByteArray} (h : optGood L L.length) : optsB L = decide (1 ≤ L.length ∧ L.length ≤ 16) := by
  unfold optsB
  by_cases e : 1 ≤ L.length ∧ L.length ≤ 16
  · rw [decide_eq_true e]; exact decide_eq_true ⟨h, e⟩
  · rw [decide_eq_false e]; exact decide_eq_false fun hg => e hg.2
/-- A head of texts, as the look-up reads it. -/
theorem strs_head {w : World} {b off n c : Nat} {L : List ByteArray} (hc : ∀ k, k < n → w.cell? ⟨b, off + k, none⟩ = some (.string (L.getD k ⟨#[]⟩))) (hn : n = L.length) (hb : b < w.heap.size) (k : Nat) (hk : k ≤ n) :
    StrsAt' w (.slice (some ⟨b, off, none⟩) k c) ((L.take k).map blOf) := by
  refine ⟨b, off, k, c, rfl, by simp; omega, hb, fun j hj => ?_⟩
  rw [hc j (by omega)]
  have e : ((L.take k).map blOf).getD j [] = blOf (L.getD j ⟨#[]⟩) := by
    rw [List.getD_eq_getElem?_getD, List.getElem?_map, List.getElem?_take, if_pos hj, List.getElem?_eq_getElem (by omega), List.getD_eq_getElem?_getD, List.getElem?_eq_getElem (by omega)]
    rfl
  rw [e, bsOf_bl]
theorem head_has {L : List ByteArray} {k : Nat} (hk : k < L.length) {s : ByteArray} : ((L.take k).map blOf).contains (blOf s) = true ↔ ∃ j, j < k ∧ L.getD j ⟨#[]⟩ = s := by
  rw [List.contains_iff_mem, List.mem_map]
  constructor
  · rintro ⟨x, hx, he⟩
    obtain ⟨j, hj, rfl⟩ := List.getElem_of_mem hx
    rw [List.length_take] at hj
    refine ⟨j, by omega, ?_⟩
    rw [List.getD_eq_getElem?_getD, List.getElem?_eq_getElem (by omega)]
    rw [List.getElem_take] at he
    exact blOf_inj he
  · rintro ⟨j, hj, rfl⟩
    refine ⟨L.getD j ⟨#[]⟩, ?_, rfl⟩
    rw [List.getD_eq_getElem?_getD, List.getElem?_eq_getElem (by omega)]
    show L[j] ∈ L.take k
    rw [List.mem_take_iff_getElem]
    exact ⟨j, by omega, rfl⟩
end Go.Proofs.YtgeahbmaeaoeeaaGreatDoor
