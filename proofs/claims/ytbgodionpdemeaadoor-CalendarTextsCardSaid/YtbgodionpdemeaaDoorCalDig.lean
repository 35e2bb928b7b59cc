/- Plain facts: fixed-width decimal digits, and texts of days as lists of bytes. No program stands in it. -/
import Derived.Test.YtbgodionpdemeaaDoorCalYears
import Derived.Lib.ItoaNum
import Derived.Lib.Repeat
set_option linter.unusedVariables false
set_option linter.unusedSimpArgs false
namespace Go.Proofs.YtbgodionpdemeaaDoor.Cal
open Go

def dg (n : Int) (k : Nat) : UInt8 := UInt8.ofNat (48 + n.toNat / 10 ^ k % 10)
def dig2 (n : Int) : List UInt8 := [dg n 1, dg n 0]
def dig4 (n : Int) : List UInt8 := [dg n 3, dg n 2, dg n 1, dg n 0]

theorem dec1 {u : Nat} (h : u < 10) : Lib.decDigits u = [UInt8.ofNat (48 + u)] := by rw [Lib.decDigits, dif_pos h]
theorem decS {u : Nat} (h : ¬ u < 10) : Lib.decDigits u = Lib.decDigits (u / 10) ++ [UInt8.ofNat (48 + u % 10)] := by rw [Lib.decDigits, dif_neg h]
theorem itoa_pos {n : Int} (h : 0 ≤ n) : Lib.itoa n = Lib.decDigits n.toNat := if_neg (by omega)
theorem itoa_len {n : Int} (h0 : 0 ≤ n) (h : n < 10000) : (n < 10 → (Lib.itoa n).length = 1) ∧ (10 ≤ n → n < 100 → (Lib.itoa n).length = 2) ∧ (100 ≤ n → n < 1000 → (Lib.itoa n).length = 3) ∧ (1000 ≤ n → (Lib.itoa n).length = 4) := by
  rw [itoa_pos h0]
  refine ⟨fun a => ?_, fun a b => ?_, fun a b => ?_, fun a => ?_⟩
  · rw [dec1 (by omega)]; rfl
  · rw [decS (by omega), dec1 (by omega)]; rfl
  · rw [decS (by omega), decS (by omega), dec1 (by omega)]; rfl
  · rw [decS (by omega), decS (by omega), decS (by omega), dec1 (by omega)]; rfl
theorem e48 : (48 : UInt8) = UInt8.ofNat 48 := rfl
theorem key {a b : Nat} (h : a = b) : UInt8.ofNat a = UInt8.ofNat b := by rw [h]
theorem pad2 {n : Int} (h0 : 0 ≤ n) (h : n < 100) : Lib.repeatL [48] (2 - (Lib.itoa n).length) ++ Lib.itoa n = dig2 n := by
  obtain ⟨a, b, _, _⟩ := itoa_len h0 (by omega)
  by_cases c : n < 10
  · rw [a c, itoa_pos h0, dec1 (by omega)]
    simp only [Nat.reduceSub, Lib.repeatL, dig2, dg, List.cons_append, List.nil_append, List.append_nil, List.cons.injEq, and_true, e48]
    exact ⟨key (by omega), key (by omega)⟩
  · rw [b (by omega) h, itoa_pos h0, decS (by omega), dec1 (by omega)]
    simp only [Nat.reduceSub, Lib.repeatL, dig2, dg, List.cons_append, List.nil_append, List.append_nil, List.cons.injEq, and_true, e48]
    exact ⟨key (by omega), key (by omega)⟩
theorem pad4 {n : Int} (h0 : 0 ≤ n) (h : n < 10000) : Lib.repeatL [48] (4 - (Lib.itoa n).length) ++ Lib.itoa n = dig4 n := by
  obtain ⟨a, b, c, d⟩ := itoa_len h0 h
  by_cases c1 : n < 10
  · rw [a c1, itoa_pos h0, dec1 (by omega)]
    simp only [Nat.reduceSub, Lib.repeatL, dig4, dg, List.cons_append, List.nil_append, List.append_nil, List.cons.injEq, and_true, e48]
    refine ⟨?_, ?_, ?_, ?_⟩ <;> first | exact trivial | exact key (by omega)
  · by_cases c2 : n < 100
    · rw [b (by omega) c2, itoa_pos h0, decS (by omega), dec1 (by omega)]
      simp only [Nat.reduceSub, Lib.repeatL, dig4, dg, List.cons_append, List.nil_append, List.append_nil, List.cons.injEq, and_true, e48]
      refine ⟨?_, ?_, ?_, ?_⟩ <;> first | exact trivial | exact key (by omega)
    · by_cases c3 : n < 1000
      · rw [c (by omega) c3, itoa_pos h0, decS (by omega), decS (by omega), dec1 (by omega)]
        simp only [Nat.reduceSub, Lib.repeatL, dig4, dg, List.cons_append, List.nil_append, List.append_nil, List.cons.injEq, and_true, e48]
        refine ⟨?_, ?_, ?_, ?_⟩ <;> first | exact trivial | exact key (by omega)
      · rw [d (by omega), itoa_pos h0, decS (by omega), decS (by omega), decS (by omega), dec1 (by omega)]
        simp only [Nat.reduceSub, Lib.repeatL, dig4, dg, List.cons_append, List.nil_append, List.append_nil, List.cons.injEq, and_true, e48]
        refine ⟨?_, ?_, ?_, ?_⟩ <;> first | exact trivial | exact key (by omega)
/-- The text of a date. -/
def textL (y m d : Int) : List UInt8 := dig4 y ++ [45] ++ dig2 m ++ [45] ++ dig2 d
noncomputable def textN (n : Int) : List UInt8 := if okN n then textL (dtY n) (dtM n) (dtD n) else []

theorem dg_nat (n : Int) (k : Nat) : (dg n k).toNat = 48 + n.toNat / 10 ^ k % 10 := by
  unfold dg
  rw [UInt8.toNat_ofNat']; omega
end Go.Proofs.YtbgodionpdemeaaDoor.Cal
