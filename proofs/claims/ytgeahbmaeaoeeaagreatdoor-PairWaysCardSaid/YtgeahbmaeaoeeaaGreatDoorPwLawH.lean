/- The law PairWays. -/
import Derived.Test.YtgeahbmaeaoeeaaGreatDoorPwLaw
import Derived.Test.YtgeahbmaeaoeeaaGreatDoorHanInts
set_option linter.unusedVariables false
set_option linter.unusedSimpArgs false
namespace Go.Proofs.YtgeahbmaeaoeeaaGreatDoor
open Go.RowKit Num

set_option maxRecDepth 100000 in
set_option maxHeartbeats 400000 in
theorem pw_heavy (A : Option Addr) (n c : Nat) (w : World) (hw : BasesOk w) (hn : n ≤ 9223372036854775807) (h5 : ¬ n ≤ 500) :
    Calls Tryz.prog 3 #[.slice A n c] w (BoolBelow true w) := by
  have t5 : decide ((n : Int) ≤ 500) = false := decide_eq_false (by omega)
  have HAW := Lib.hid (a_awake w hw)
  clear hw h5
  go_enter Tryz.func3, Tryz.ntmps3
  go_wp2_with fail
  refine (k_Light A n c w hn).mono ?_
  rintro e w' ⟨rfl, rfl⟩
  go_wp2_with fail
  refine HAW.out.mono ?_
  rintro e w1 ⟨rfl, hb1⟩
  go_wp2_with fail
  go_ret
  exact ⟨rfl, hb1⟩
theorem l_PairWays (A : Option Addr) (n c : Nat) (w : World) (hw : BasesOk w) (hn : n ≤ 9223372036854775807) (har : n ≤ 500 → ArgL w (.slice A n c)) :
    Calls Tryz.prog 3 #[.slice A n c] w (BoolBelow true w) := by
  by_cases h5 : n ≤ 500
  · exact pw_light A n c w hw hn h5 (har h5)
  · exact pw_heavy A n c w hw hn h5
end Go.Proofs.YtgeahbmaeaoeeaaGreatDoor
