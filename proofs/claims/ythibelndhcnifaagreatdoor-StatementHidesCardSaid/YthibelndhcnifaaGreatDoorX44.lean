/- Contracts: the statement StatementBack: a heavy argument. -/
import Derived.Test.YthibelndhcnifaaGreatDoorX39
import Derived.Test.YthibelndhcnifaaGreatDoorX43
import Derived.Test.YthibelndhcnifaaGreatDoorX19
set_option linter.unusedVariables false
set_option linter.unusedSimpArgs false
namespace Go.Proofs.YthibelndhcnifaaGreatDoor
open Go.RowKit Num

theorem lb_F (A : Option Addr) (n c : Nat) (w : World) (h : n ≤ 9223372036854775807) (h5 : ¬ n ≤ 500) : Calls Tryz.prog 4 #[.slice A n c] w fun e w' => e = .returned (.bool false) ∧ w = w' := by
  have := k_Light A n c w h
  rwa [decide_eq_false (by omega)] at this
theorem lb_T (A : Option Addr) (n c : Nat) (w : World) (h : n ≤ 9223372036854775807) (h5 : n ≤ 500) : Calls Tryz.prog 4 #[.slice A n c] w fun e w' => e = .returned (.bool true) ∧ w = w' := by
  have := k_Light A n c w h
  rwa [decide_eq_true (by omega)] at this
end Go.Proofs.YthibelndhcnifaaGreatDoor
