/- Adding years, and days within years: the calendar's and the reference's. Mod, and the examples. -/
import Derived.Test.YtbgodionpdemeaaDoorCalDate
set_option linter.unusedVariables false
set_option linter.unusedSimpArgs false
namespace Go.Proofs.YtbgodionpdemeaaDoor
open Go.RowKit Cal

set_option maxHeartbeats 400000 in
theorem kit_Mod (n m : Int) (w : World) (h1 : 1 ≤ m) (h2 : m ≤ 4398046511104) :
    Calls Tryd.prog 6 #[.int .i64 n, .int .i64 m] w fun e w' => e = .returned (.int .i64 (kmod n m)) ∧ w = w' := by
  have ht := Int.tmod_lt_of_pos n (b := m) (by omega)
  have ht' : -m < n.tmod m := Int.lt_tmod_of_pos n (by omega)
  go_enter Tryd.func6, Tryd.ntmps6
  go_wp2
  go_ret
  exact ⟨ret_int (kmod_eq h1), rfl⟩

theorem awake_facts : dayN 1 1 1 = 0 ∧ dayE 1 1 1 = 0 ∧ dayN 1 12 31 = 364 ∧ dayE 1 12 31 = 0 ∧ lpB 2000 = true ∧ lpB 1900 = false := by decide

set_option maxHeartbeats 400000 in
theorem law_awake (w : World) :
    Calls Tryd.prog 9 #[] w fun e w' => e = .returned (.bool true) ∧ Below w.heap.size w w' := by
  obtain ⟨f1, f2, f3, f4, f5, f6⟩ := awake_facts
  go_enter Tryd.func9, Tryd.ntmps9
  go_wp2_with fail
  refine (cal_Day _ _ _ _).mono ?_
  rintro e w1 ⟨rfl, hb1⟩
  go_wp2_with fail
  refine (cal_Day _ _ _ _).mono ?_
  rintro e w2 ⟨rfl, hb2⟩
  go_wp2_with (go_at_call 19; refine (cal_Leap _ _).mono ?_; rintro e w' ⟨rfl, rfl⟩)
  go_ret
  exact ⟨rfl, hb1.trans (hb2.mono hb1.size)⟩
end Go.Proofs.YtbgodionpdemeaaDoor
