/- Adding years, and days within years: the calendar's. -/
import Derived.Test.YtbgodionpdemeaaDoorCalAdd
set_option linter.unusedVariables false
set_option linter.unusedSimpArgs false
namespace Go.Proofs.YtbgodionpdemeaaDoor
open Go.RowKit Cal

set_option maxHeartbeats 1000000 in
theorem cal_Add_2 (n l : Int) (w : World) (h : ¬ okN n ∨ l < -9999 ∨ 9999 < l) :
    Calls Tryd.prog 8 #[.int .i64 n, .int .i64 l] w fun e w' => e = .returned (.tuple #[.int .i64 0, .int .i64 2]) ∧ Below w.heap.size w w' := by
  by_cases h0 : okN n
  · have hE := dtE_ok h0
    by_cases h1 : l < -9999
    · clear h
      go_enter Tryd.func8, Tryd.ntmps8
      go_wp2_with (go_at_call 14; refine (cal_Date _ _).mono ?_; rintro e w1 ⟨rfl, hb1⟩)
      go_ret2
      exact ⟨rfl, hb1⟩
    · have h2 : 9999 < l := by
        rcases h with h | h | h
        · exact absurd h0 h
        · exact absurd h h1
        · exact h
      clear h
      go_enter Tryd.func8, Tryd.ntmps8
      go_wp2_with (go_at_call 14; refine (cal_Date _ _).mono ?_; rintro e w1 ⟨rfl, hb1⟩)
      go_ret2
      exact ⟨rfl, hb1⟩
  · have hE := dtE_no h0
    clear h
    go_enter Tryd.func8, Tryd.ntmps8
    go_wp2_with (go_at_call 14; refine (cal_Date _ _).mono ?_; rintro e w1 ⟨rfl, hb1⟩)
    go_ret2
    exact ⟨rfl, hb1⟩

set_option maxHeartbeats 1000000 in
theorem cal_Add_10 (n l : Int) (w : World) (h0 : okN n) (h1 : -9999 ≤ l) (h2 : l ≤ 9999) (h : dtY n + l < 1 ∨ 9999 < dtY n + l) :
    Calls Tryd.prog 8 #[.int .i64 n, .int .i64 l] w fun e w' => e = .returned (.tuple #[.int .i64 0, .int .i64 10]) ∧ Below w.heap.size w w' := by
  have hE := dtE_ok h0
  have hv := (dt_ok h0).1
  have hy1 := hv.1
  have hy2 := hv.2.1
  have hyr := Lib.hid (yrB_f (y := dtY n + l) (by omega))
  clear hv h
  go_enter Tryd.func8, Tryd.ntmps8
  go_wp2_with (first | (go_at_call 14; refine (cal_Date _ _).mono ?_; rintro e w1 ⟨rfl, hb1⟩) | (go_at_call 17; refine (cal_years _ _).mono ?_; rintro e w' ⟨rfl, rfl⟩; rw [hyr.out]))
  go_ret2
  exact ⟨rfl, hb1⟩

set_option maxHeartbeats 1000000 in
theorem cal_Add_0 (n l : Int) (w : World) (h0 : okN n) (h1 : 1 ≤ dtY n + l) (h2 : dtY n + l ≤ 9999) :
    Calls Tryd.prog 8 #[.int .i64 n, .int .i64 l] w fun e w' => e = .returned (.tuple #[.int .i64 (num (dtY n + l) (dtM n) (mn (dtD n) (lenI (dtY n + l) (dtM n)))), .int .i64 0]) ∧ Below w.heap.size w w' := by
  have hE := dtE_ok h0
  have hv := (dt_ok h0).1
  have hvv := Lib.hid (add_vld h0 h1 h2)
  have hy1 := hv.1
  have hy2 := hv.2.1
  have hm1 := hv.2.2.1
  have hm2 := hv.2.2.2.1
  have hd1 := hv.2.2.2.2.1
  have hd2 := hv.2.2.2.2.2
  have hl1 := len_bd (dtY n) (dtM n)
  have hl2 := len_bd (dtY n + l) (dtM n)
  have hyr := Lib.hid (yrB_t (y := dtY n + l) ⟨h1, h2⟩)
  have hix : ∀ W, (Instr.index 40 (.agg (monthsC (dtY n + l))) (.int .i64 (dtM n - 1))).run Tryd.prog W = .ok (.int .i64 (lenI (dtY n + l) (dtM n))) W := fun W => by
    have h := index12 (dtY n + l) (dtM n - 1).toNat (by omega) W
    rw [show (((dtM n - 1).toNat : Nat) : Int) = dtM n - 1 from by omega, show dtM n - 1 + 1 = dtM n from by omega] at h
    exact h
  have hmn : (if lenI (dtY n + l) (dtM n) < dtD n then lenI (dtY n + l) (dtM n) else dtD n) = mn (dtD n) (lenI (dtY n + l) (dtM n)) := rfl
  clear hv
  go_enter Tryd.func8, Tryd.ntmps8
  go_wp2_with (first | (go_at_call 14; refine (cal_Date _ _).mono ?_; rintro e w1 ⟨rfl, hb1⟩) | (go_at_call 17; refine (cal_years _ _).mono ?_; rintro e w' ⟨rfl, rfl⟩; rw [hyr.out]) | (go_at_call 19; refine (cal_Leap _ _).mono ?_; rintro e w' ⟨rfl, rfl⟩) | (go_at_call 18; refine (cal_months _ _).mono ?_; rintro e w2 ⟨rfl, hb2⟩) | (go_at_call 15; refine (cal_Day_t _ _ _ _ hvv.out).mono ?_; rintro e w3 ⟨rfl, hb3⟩))
  go_ret2
  exact ⟨rfl, (hb1.trans (hb2.mono hb1.size)).trans (hb3.mono (Nat.le_trans hb1.size hb2.size))⟩

theorem cal_Add (n l : Int) (w : World) :
    Calls Tryd.prog 8 #[.int .i64 n, .int .i64 l] w fun e w' => e = .returned (.tuple #[.int .i64 (addN n l), .int .i64 (addE n l)]) ∧ Below w.heap.size w w' := by
  by_cases h0 : ¬ okN n ∨ l < -9999 ∨ 9999 < l
  · rw [(addE_2 h0).1, (addE_2 h0).2]; exact cal_Add_2 n l w h0
  · have h00 : okN n := by
      by_cases h : okN n
      · exact h
      · exact absurd (Or.inl h) h0
    by_cases h : dtY n + l < 1 ∨ 9999 < dtY n + l
    · rw [(addE_10 h00 (by omega) (by omega) h).1, (addE_10 h00 (by omega) (by omega) h).2]; exact cal_Add_10 n l w h00 (by omega) (by omega) h
    · rw [(addE_0 h00 (by omega) (by omega)).1, (addE_0 h00 (by omega) (by omega)).2]; exact cal_Add_0 n l w h00 (by omega) (by omega)
end Go.Proofs.YtbgodionpdemeaaDoor
