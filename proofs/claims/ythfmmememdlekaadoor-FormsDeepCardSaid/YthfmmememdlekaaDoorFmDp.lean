/- Plain: the texts of FormsDeep and what the program makes of them. -/
import Derived.Test.YthfmmememdlekaaDoorFmAwk2
set_option linter.unusedVariables false
set_option linter.unusedSimpArgs false
namespace Go.Proofs.YthfmmememdlekaaDoor
open Go.RowKit Num

def dpA : ByteArray := ⟨#[97, 108, 119, 97, 121, 115]⟩
def dpB : ByteArray := ⟨#[97, 108, 108, 40, 97, 108, 119, 97, 121, 115, 44, 32]⟩
def dpC : ByteArray := ⟨#[41]⟩
def dpD : ByteArray := ⟨#[97, 110, 121, 40, 97, 108, 119, 97, 121, 115]⟩
def dpE : ByteArray := ⟨#[44, 32, 110, 111, 116, 102, 105, 114, 115, 116]⟩
def deepS : Nat → ByteArray
  | 0 => dpA
  | i + 1 => dpB ++ deepS i ++ dpC
def manyS : Nat → ByteArray
  | 0 => dpD
  | i + 1 => manyS i ++ dpE
def deepB : Nat → List UInt8
  | 0 => blOf dpA
  | i + 1 => blOf dpB ++ deepB i ++ blOf dpC
def manyB : Nat → List UInt8
  | 0 => blOf dpD
  | i + 1 => manyB i ++ blOf dpE
theorem bl_app (a b : ByteArray) : blOf (a ++ b) = blOf a ++ blOf b := by
  show (ByteArray.data _).toList = _
  simp [ByteArray.data_append]
theorem deepS_bl : ∀ i, blOf (deepS i) = deepB i := by
  intro i
  induction i with
  | zero => rfl
  | succ i ih => simp only [deepS, deepB, bl_app, ih]
theorem manyS_bl : ∀ i, blOf (manyS i) = manyB i := by
  intro i
  induction i with
  | zero => rfl
  | succ i ih => simp only [manyS, manyB, bl_app, ih]
theorem deepS_size (i : Nat) : (deepS i).size = 6 + 13 * i := by
  induction i with
  | zero => rfl
  | succ i ih =>
    rw [show deepS (i + 1) = dpB ++ deepS i ++ dpC from rfl, ByteArray.size_append, ByteArray.size_append, ih, show dpB.size = 12 from rfl, show dpC.size = 1 from rfl]; omega
theorem manyS_size (i : Nat) : (manyS i).size = 10 + 10 * i := by
  induction i with
  | zero => rfl
  | succ i ih =>
    rw [show manyS (i + 1) = manyS i ++ dpE from rfl, ByteArray.size_append, ih, show dpE.size = 10 from rfl]; omega
theorem deep_plain : (List.range 10).map (fun n => (parseC (deepB n)).2.2) = [0, 0, 0, 0, 0, 0, 14, 14, 14, 14] := by kernel_rfl
theorem many_plain : (List.range 28).map (fun k => (parseC (manyB (k + 1) ++ blOf dpC)).2.2) = List.replicate 22 0 ++ List.replicate 6 14 := by kernel_rfl
end Go.Proofs.YthfmmememdlekaaDoor
