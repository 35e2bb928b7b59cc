/- Words: all but two blocks is as it was; who has lied (as XHanBea has them, for a seat without its laws). -/
import Derived.Test.YtjfphobfikadlaaDoorN16
set_option linter.unusedVariables false
set_option linter.unusedSimpArgs false
namespace Go.Proofs.YtjfphobfikadlaaDoor
open Go.RowKit Num

/-- All but two blocks is as it was. -/
structure Far2 (d g : Nat) (w w' : World) : Prop where
  size : w.heap.size ≤ w'.heap.size
  os : w'.os = w.os
  tape : w'.tape = w.tape
  output : w'.output = w.output
  block : ∀ b, b < w.heap.size → b ≠ d → b ≠ g → w'.heap[b]? = w.heap[b]?
section
variable {d g : Nat} {a b c : World}
theorem Far2.refl (d g : Nat) (w : World) : Far2 d g w w := ⟨Nat.le_refl _, rfl, rfl, rfl, fun _ _ _ _ => rfl⟩
theorem Far2.trans (h : Far2 d g a b) (k : Far2 d g b c) : Far2 d g a c :=
  ⟨Nat.le_trans h.size k.size, k.os.trans h.os, k.tape.trans h.tape, k.output.trans h.output, fun i hi e1 e2 => (k.block i (Nat.lt_of_lt_of_le hi h.size) e1 e2).trans (h.block i hi e1 e2)⟩
theorem Far2.below (h : Far2 d g a b) (k : Below b.heap.size b c) : Far2 d g a c :=
  h.trans ⟨k.size, k.os, k.tape, k.output, fun i hi _ _ => k.block i hi⟩
theorem Far2.grown (h : Far2 d g a b) (k : b.grownBy c (some d)) : Far2 d g a c :=
  h.trans ⟨k.size, k.os, k.tape, k.output, fun i hi e _ => k.block i hi (by intro e'; injection e' with e'; exact e e')⟩
theorem Far2.alloc (h : Far2 d g a b) (o : Obj) : Far2 d g a (b.alloc o) := h.below ((Below.refl _ _).alloc (Nat.le_refl _) _)
theorem Far2.drew (h : Far2 d g a b) : Far2 d g a b.drew := ⟨h.size, h.os, h.tape, h.output, h.block⟩
theorem Far2.set_ (h : Far2 d g a b) {p : Addr} (hp : p.block = g ∨ a.heap.size ≤ p.block) (u : Value) : Far2 d g a (b.setCell p u) :=
  ⟨by have := h.size; simpa [World.setCell] using this, h.os, h.tape, h.output, fun i hi e1 e2 => (Below.heap_setCell b p u i (by rcases hp with h | h <;> omega)).trans (h.block i hi e1 e2)⟩
theorem Far2.cell (h : Far2 d g a b) {p : Addr} (h1 : p.block < a.heap.size) (h2 : p.block ≠ d) (h3 : p.block ≠ g) : b.cell? p = a.cell? p := World.cell?_of_block (h.block p.block h1 h2 h3)
/-- As seen from below both blocks. -/
theorem Far2.base {w : World} (h : Far2 d g a b) (k : Below d w a) (hd : d ≤ a.heap.size) (hdg : d ≤ g) : Below d w b :=
  ⟨h.os.trans k.os, h.tape.trans k.tape, h.output.trans k.output, Nat.le_trans k.size h.size, fun i hi => (h.block i (by omega) (by omega) (by omega)).trans (k.block i hi)⟩
end
theorem run_index_bools (CS : List Value) (f : Nat → Bool) (hl : CS.length = 17) (h : ∀ j, j < 17 → CS[j]? = some (.bool (f j))) (m : Nat) (W : World) (hm : m < 17) :
    (Instr.index 59 (.agg CS.toArray) (.int .i64 (m : Int))).run Tryd.prog W = .ok (.bool (f m)) W := by
  have h1 := h m hm
  have h2 : (0 : Int) ≤ (m : Int) ∧ (m : Int) < 17 := by omega
  have hu := Tryd.underlying59
  have hb := Tryd.underlying4
  obtain ⟨b0, hbi, hb0, hb1, hb2⟩ := info_parts (show (Tryd.prog.info? 4).map (fun i => (i.zero, i.size, i.bytes)) = some (some (.bool false), 1, 1) by kernel_rfl)
  simp [Instr.index, asIntOf, run_underlying hu, run_underlying hb, part, sizeOf, typeInfo, hbi, hb1, isAgg, h1, h2, hm, go_sem]
theorem own_keepB {w w' : World} {B : Nat} {e : TypeId} {s n : Nat} {v : Value} {xs : List Value} (h : w.ownsRow B e s v n xs) (hk : ∀ b, B ≤ b → b < w.heap.size → w'.heap[b]? = w.heap[b]?) : w'.ownsRow B e s v n xs := by
  refine ⟨h.1, ?_⟩
  rcases h.2 with ⟨rfl, h0⟩ | ⟨g, cap, cur, rfl, hB, hh, r⟩
  · exact .inl ⟨rfl, h0⟩
  · exact .inr ⟨g, cap, cur, rfl, hB, (hk g hB (Array.getElem?_eq_some_iff.1 hh).1).trans hh, r⟩
theorem OwnSh.keepB {w w' : World} {B : Nat} {v : Value} {L : List Sh} (h : OwnSh w B v L) (hk : ∀ b, B ≤ b → b < w.heap.size → w'.heap[b]? = w.heap[b]?) : OwnSh w' B v L := by
  obtain ⟨cells, hr, h2⟩ := h
  refine ⟨cells, own_keepB hr hk, fun k hk' => ?_⟩
  obtain ⟨u, h3, h4, h5⟩ := h2 k hk'
  exact ⟨u, h3, h4, own_keepB h5 hk⟩
theorem ArrV.keepB {w w' : World} {B n : Nat} {f : Nat → Value} (h : ArrV w B n f) (hk : w'.heap[B]? = w.heap[B]?) : ArrV w' B n f :=
  ⟨fun j hj => (World.cell?_of_block (a := ⟨B, j, none⟩) hk).trans (h.cell j hj), fun j hj => (World.frozen?_of_block (a := ⟨B, j, none⟩) hk).trans (h.live j hj)⟩
theorem seenV_step (LT : List Sh) (k lies h : Nat) (hk : k < lies) (hh : (shAt LT k).1 = (h : Int)) (j : Nat) : updV (seenV LT (min k lies)) h (.bool true) j = seenV LT (min (k + 1) lies) j := by
  rw [Nat.min_eq_left (by omega), Nat.min_eq_left (by omega)]
  unfold updV
  by_cases hjH : j = h
  · rw [if_pos hjH]
    unfold seenV
    congr 1
    exact (decide_eq_true ⟨k, by omega, by rw [hh, hjH]⟩).symm
  · rw [if_neg hjH]
    unfold seenV
    congr 1
    rw [decide_eq_decide]
    constructor
    · rintro ⟨i, hi, hii⟩; exact ⟨i, by omega, hii⟩
    · rintro ⟨i, hi, hii⟩
      refine ⟨i, ?_, hii⟩
      rcases Nat.lt_or_ge i k with h | h
      · exact h
      · have : i = k := by omega
        subst this
        rw [hh] at hii; omega
theorem Far2.own {d g : Nat} {a b c : World} (h : Far2 d g a b) {r : Option Nat} (k : b.grownBy c r) (hr : ∀ q, r = some q → a.heap.size ≤ q) : Far2 d g a c :=
  ⟨Nat.le_trans h.size k.size, k.os.trans h.os, k.tape.trans h.tape, k.output.trans h.output, fun i hi e1 e2 => (k.block i (Nat.lt_of_lt_of_le hi h.size) (fun e => by have := hr i e.symm; omega)).trans (h.block i hi e1 e2)⟩
/-- The holders that have lied, as the law counts them. -/
def liarsL (LT : List Sh) (lies : Nat) : List Int := ((List.range 17).filter fun h : Nat => decide (∃ i, i < lies ∧ (shAt LT i).1 = ((h : Nat) : Int))).map Int.ofNat
def liarsM (LT : List Sh) (lies m : Nat) : List Int := ((List.range m).filter fun h : Nat => decide (∃ i, i < lies ∧ (shAt LT i).1 = ((h : Nat) : Int))).map Int.ofNat
theorem liarsM_17 (LT : List Sh) (lies : Nat) : liarsM LT lies 17 = liarsL LT lies := rfl
theorem liarsM_yes {LT : List Sh} {lies m : Nat} (h : decide (∃ i, i < lies ∧ (shAt LT i).1 = (m : Int)) = true) : liarsM LT lies (m + 1) = liarsM LT lies m ++ [(m : Int)] := by
  unfold liarsM
  rw [List.range_succ, List.filter_append, List.map_append]
  congr 1
  rw [List.filter_cons, if_pos h]; rfl
theorem liarsM_no {LT : List Sh} {lies m : Nat} (h : decide (∃ i, i < lies ∧ (shAt LT i).1 = (m : Int)) = false) : liarsM LT lies (m + 1) = liarsM LT lies m := by
  unfold liarsM
  rw [List.range_succ, List.filter_append, List.map_append, List.filter_cons, if_neg (by rw [h]; simp)]
  simp
theorem liarsM_len (LT : List Sh) (lies m : Nat) : (liarsM LT lies m).length ≤ m := by
  unfold liarsM
  rw [List.length_map]
  exact Nat.le_trans (List.length_filter_le _ _) (by simp)
end Go.Proofs.YtjfphobfikadlaaDoor
