/- Contracts: the first words of chapter 16's statements: awake. -/
import Derived.Test.YthfmmememdlekaaDoorFmParse
import Derived.Test.YthfmmememdlekaaDoorFmName
set_option linter.unusedVariables false
set_option linter.unusedSimpArgs false
namespace Go.Proofs.YthfmmememdlekaaDoor
open Go.RowKit Num

def awkS : ByteArray := ⟨#[97, 108, 108, 40, 114, 101, 112, 111, 114, 116, 101, 114, 115, 32, 51, 44, 32, 97, 110, 121, 40, 100, 101, 112, 97, 114, 116, 109, 101, 110, 116, 115, 32, 50, 44, 32, 121, 101, 97, 114, 115, 32, 53, 32, 111, 102, 32, 50, 41, 41]⟩
theorem awk_plain : ((parseC (blOf awkS)).1.length, (parseC (blOf awkS)).2) = (5, ((0 : Int), (0 : Int))) := by kernel_rfl
theorem awk_what : nameB (blOf ⟨#[119, 104, 97, 116]⟩) = true := by kernel_rfl
theorem awk_all : nameB (blOf ⟨#[97, 108, 108]⟩) = false := by kernel_rfl
theorem awk_size : awkS.size ≤ 100000000 := by show 50 ≤ 100000000; omega
def AwkParse (w : World) (e : Ending) (w' : World) : Prop := ∃ A c, e = .returned (.tuple #[.agg #[.slice A 5 c], .int .i64 0, .int .i64 0]) ∧ Below w.heap.size w w'
theorem f_Parse_awk (w : World) (hl : LibOk w) : Calls Tryd.prog 8 #[.string awkS] w (AwkParse w) := by
  have h := f_Parse awkS w awk_size hl
  have hp := awk_plain
  generalize parseC (blOf awkS) = x at h hp
  obtain ⟨L, p, n⟩ := x
  simp only [Prod.mk.injEq] at hp
  obtain ⟨h5, rfl, rfl⟩ := hp
  refine h.mono ?_
  rintro e w1 ⟨v, rfl, ⟨A, n, c, rfl, hn, -⟩, hb1⟩
  simp only at hn
  rw [h5] at hn
  subst hn
  exact ⟨A, c, rfl, hb1⟩
end Go.Proofs.YthfmmememdlekaaDoor
