/- Plain: 'says NAME "x" of 1' with a good name. -/
import Derived.Test.YthfmmememdlekaaDoorFmAwk2
import Derived.Test.YthfmmememdlekaaDoorFmRd
set_option linter.unusedVariables false
set_option linter.unusedSimpArgs false
namespace Go.Proofs.YthfmmememdlekaaDoor
open Go.RowKit Num

def saysT (s : ByteArray) : Trm := ⟨7, 1, 0, s, ⟨#[120]⟩, []⟩
theorem says_bare (s : ByteArray) (hn : nameB (blOf s) = true) : bareB (saysT s) = true := by
  have h1 : bareB (saysT s) = (betwB 1 64 && nameB (blOf s) && betwB 1 256 && !([120] : List UInt8).contains 34 && decide ((0 : Int) = 0)) := rfl
  rw [h1, hn]; decide
theorem itoa_one : Lib.itoa 1 = [49] := by kernel_rfl
theorem says_text (s : ByteArray) : textG [] [] 1 (.node (saysT s) []) = [115, 97, 121, 115, 32] ++ blOf s ++ [32, 34, 120, 34, 32, 111, 102, 32, 49] := by
  have h1 : textG [] [] 1 (.node (saysT s) []) = nmK 7 ++ [32] ++ blOf s ++ [32, 34] ++ [120] ++ [34, 32] ++ ofB ++ [32] ++ Lib.itoa 1 := rfl
  rw [h1, itoa_one]
  have h2 : nmK 7 = [115, 97, 121, 115] := by decide
  have h3 : ofB = [111, 102] := by decide
  rw [h2, h3]; simp
theorem says_parse (s : ByteArray) (hn : nameB (blOf s) = true) : parseF ([115, 97, 121, 115, 32] ++ blOf s ++ [32, 34, 120, 34, 32, 111, 102, 32, 49]) = .inl (.node (saysT s) []) := by
  have hg : GoodT 1 (.node (saysT s) []) := ⟨says_bare s hn, (show severalB 7 = decide (0 < 0) by decide), (show 0 ≠ 1 by decide), fun x hx => by cases hx⟩
  have h := parse_text (pre := []) (post := []) (fun c hc => by cases hc) (fun c hc => by cases hc) hg [] (fun c hc => by cases hc)
  rw [List.nil_append, says_text] at h
  exact h
theorem says_right (s : ByteArray) (hn : nameB (blOf s) = true) : rightB [saysT s] = true := by
  have h1 : argsOk (saysT s) = true := (show (severalB 7 == decide ((0 : Nat) < 0) && decide ((0 : Nat) ≠ 1)) = true by decide)
  have h2 : growF [saysT s] 6 0 = some (.node (saysT s) [], 1) := by
    show (if bareB (saysT s) && argsOk (saysT s) then _ else none) = _
    rw [says_bare s hn, h1]; rfl
  unfold rightB rootF
  rw [h2]; rfl
/-- What the program makes of the text with a good name. -/
theorem says_all (s : ByteArray) (hn : nameB (blOf s) = true) : parseC ([115, 97, 121, 115, 32] ++ blOf s ++ [32, 34, 120, 34, 32, 111, 102, 32, 49]) = ([saysT s], 0, 0) := by
  have hl : (blOf s).length ≤ 32 := by
    unfold nameB at hn
    simp only [Bool.and_eq_true, decide_eq_true_eq] at hn
    exact hn.1.1.1.2
  unfold parseC
  rw [if_neg (by simp only [List.length_append, List.length_cons, List.length_nil]; omega), says_parse s hn]
  have h3 : ∀ m, flatT (m + 1) 0 (.node (saysT s) []) = [saysT s] := fun m => rfl
  simp only [h3, says_right s hn, if_true]
end Go.Proofs.YthfmmememdlekaaDoor
