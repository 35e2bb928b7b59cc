/- Contracts: forms.Parse of 'says NAME "x" of 1' with a good name. -/
import Derived.Test.YthfmmememdlekaaDoorFmNm3
set_option linter.unusedVariables false
set_option linter.unusedSimpArgs false
namespace Go.Proofs.YthfmmememdlekaaDoor
open Go.RowKit Num

theorem says_blOf (s : ByteArray) : blOf ((⟨#[115, 97, 121, 115, 32]⟩ : ByteArray) ++ s ++ ⟨#[32, 34, 120, 34, 32, 111, 102, 32, 49]⟩) = [115, 97, 121, 115, 32] ++ blOf s ++ [32, 34, 120, 34, 32, 111, 102, 32, 49] := by
  show (ByteArray.data _).toList = _
  simp [ByteArray.data_append]
theorem f_Parse_says (s : ByteArray) (w : World) (hl : LibOk w) (h : s.size ≤ 60) (hn : nameB (blOf s) = true) : Calls Tryd.prog 8 #[.string ((⟨#[115, 97, 121, 115, 32]⟩ : ByteArray) ++ s ++ ⟨#[32, 34, 120, 34, 32, 111, 102, 32, 49]⟩)] w (ParseEnd w [saysT s] 0 0) := by
  have h1 := says_all s hn
  rw [← says_blOf s] at h1
  have h2 := f_Parse ((⟨#[115, 97, 121, 115, 32]⟩ : ByteArray) ++ s ++ ⟨#[32, 34, 120, 34, 32, 111, 102, 32, 49]⟩) w (by have := blOf_len ((⟨#[115, 97, 121, 115, 32]⟩ : ByteArray) ++ s ++ ⟨#[32, 34, 120, 34, 32, 111, 102, 32, 49]⟩); rw [says_blOf] at this; have h3 := blOf_len s; simp only [List.length_append, List.length_cons, List.length_nil] at this; omega) hl
  rw [h1] at h2
  exact h2
end Go.Proofs.YthfmmememdlekaaDoor
