/- The walk of CalendarWithin: the law returns true at every input. -/
import Derived.Test.YtbgodionpdemeaaCalLaw1
import Derived.Test.YtbgodionpdemeaaCalYears
set_option linter.unusedVariables false
set_option linter.unusedSimpArgs false
namespace Go.Proofs.Ytbgodionpdemeaa
open Go.RowKit Cal

theorem kmod_ok (a : Int) : okN (kmod a 3652059) := by have := kmod_bd a (m := 3652059) (by omega); unfold okN; omega
theorem below_seq {a b c : World} (h : Below a.heap.size a b) (k : Below b.heap.size b c) : Below a.heap.size a c := h.trans (k.mono h.size)

set_option maxRecDepth 100000 in
set_option maxHeartbeats 1000000 in
theorem within_e_F_T (a0 a1 a2 a3 x y q n m : Int) (w : World) (ha2 : 0 ≤ a2 ∧ a2 ≤ 255) (ha3 : 0 ≤ a3 ∧ a3 ≤ 255) (hx : kmod a0 3652059 = x) (hn : a2 % 90 = n) (hm : a3 % 10 = m) (bx : 0 ≤ x ∧ x ≤ 3652058) (by1 : 0 ≤ y ∧ y ≤ 3652058) (bn : 0 ≤ n ∧ n ≤ 89) (bm : 0 ≤ m ∧ m ≤ 9)
    (par : a1.tmod 2 = 0) (hq : kmod a1 40000 = q) (bq : 0 ≤ q ∧ q < 40000) (hy : (if x + q < 3652058 then x + q else 3652058) = y)
    (f1 : withinB y x n = withinB x y n) (f3 : withinB x x n = true) (his : withinB x y n = false) (g4 : 365 * n < mx x y - mn x y) (g5 : 366 * n < mx x y - mn x y) :
    Calls Try.prog 5 #[.int .i64 a0, .int .i64 a1, .int .u8 a2, .int .u8 a3] w fun e w' => e = .returned (.bool true) ∧ Below w.heap.size w w' := by
  rw [his] at f1
  have hmx : (if x < y then y else x) = mx x y := rfl
  have hmn : (if y < x then y else x) = mn x y := rfl
  have bmx : 0 ≤ mx x y ∧ mx x y ≤ 3652058 := by unfold mx; split <;> assumption
  have bmn : 0 ≤ mn x y ∧ mn x y ≤ 3652058 := by unfold mn; split <;> assumption
  go_enter Try.func5, Try.ntmps5
  simp only [List.append]
  go_wp2_with (go_at_call 6; refine (kit_Mod _ _ _ (by omega) (by omega)).mono ?_; rintro e w' ⟨rfl, rfl⟩)
  refine (cal_Within _ _ _ _).mono ?_
  rintro e v0 ⟨rfl, hc0⟩
  go_wp2_with fail
  refine (cal_Within _ _ _ _).mono ?_
  rintro e v1 ⟨rfl, hc1⟩
  go_wp2_with fail
  refine (cal_Within _ _ _ _).mono ?_
  rintro e v2 ⟨rfl, hc2⟩
  go_wp2_with fail
  refine (law_awake _).mono ?_
  rintro e w5 ⟨rfl, hb5⟩
  go_wp2_with fail
  go_ret
  exact ⟨rfl, below_seq (below_seq (below_seq hc0 hc1) hc2) hb5⟩

set_option maxRecDepth 100000 in
set_option maxHeartbeats 1000000 in
theorem within_e_F_F (a0 a1 a2 a3 x y q n m : Int) (w : World) (ha2 : 0 ≤ a2 ∧ a2 ≤ 255) (ha3 : 0 ≤ a3 ∧ a3 ≤ 255) (hx : kmod a0 3652059 = x) (hn : a2 % 90 = n) (hm : a3 % 10 = m) (bx : 0 ≤ x ∧ x ≤ 3652058) (by1 : 0 ≤ y ∧ y ≤ 3652058) (bn : 0 ≤ n ∧ n ≤ 89) (bm : 0 ≤ m ∧ m ≤ 9)
    (par : a1.tmod 2 = 0) (hq : kmod a1 40000 = q) (bq : 0 ≤ q ∧ q < 40000) (hy : (if x + q < 3652058 then x + q else 3652058) = y)
    (f1 : withinB y x n = withinB x y n) (f3 : withinB x x n = true) (his : withinB x y n = false) (g4 : 365 * n < mx x y - mn x y) (g5 : ¬ 366 * n < mx x y - mn x y) :
    Calls Try.prog 5 #[.int .i64 a0, .int .i64 a1, .int .u8 a2, .int .u8 a3] w fun e w' => e = .returned (.bool true) ∧ Below w.heap.size w w' := by
  rw [his] at f1
  have hmx : (if x < y then y else x) = mx x y := rfl
  have hmn : (if y < x then y else x) = mn x y := rfl
  have bmx : 0 ≤ mx x y ∧ mx x y ≤ 3652058 := by unfold mx; split <;> assumption
  have bmn : 0 ≤ mn x y ∧ mn x y ≤ 3652058 := by unfold mn; split <;> assumption
  go_enter Try.func5, Try.ntmps5
  simp only [List.append]
  go_wp2_with (go_at_call 6; refine (kit_Mod _ _ _ (by omega) (by omega)).mono ?_; rintro e w' ⟨rfl, rfl⟩)
  refine (cal_Within _ _ _ _).mono ?_
  rintro e v0 ⟨rfl, hc0⟩
  go_wp2_with fail
  refine (cal_Within _ _ _ _).mono ?_
  rintro e v1 ⟨rfl, hc1⟩
  go_wp2_with fail
  refine (cal_Within _ _ _ _).mono ?_
  rintro e v2 ⟨rfl, hc2⟩
  go_wp2_with fail
  refine (law_awake _).mono ?_
  rintro e w5 ⟨rfl, hb5⟩
  go_wp2_with fail
  go_ret
  exact ⟨rfl, below_seq (below_seq (below_seq hc0 hc1) hc2) hb5⟩

set_option maxRecDepth 100000 in
set_option maxHeartbeats 1000000 in
theorem within_e_TTF (a0 a1 a2 a3 x y q n m : Int) (w : World) (ha2 : 0 ≤ a2 ∧ a2 ≤ 255) (ha3 : 0 ≤ a3 ∧ a3 ≤ 255) (hx : kmod a0 3652059 = x) (hn : a2 % 90 = n) (hm : a3 % 10 = m) (bx : 0 ≤ x ∧ x ≤ 3652058) (by1 : 0 ≤ y ∧ y ≤ 3652058) (bn : 0 ≤ n ∧ n ≤ 89) (bm : 0 ≤ m ∧ m ≤ 9)
    (par : a1.tmod 2 = 0) (hq : kmod a1 40000 = q) (bq : 0 ≤ q ∧ q < 40000) (hy : (if x + q < 3652058 then x + q else 3652058) = y)
    (f1 : withinB y x n = withinB x y n) (f3 : withinB x x n = true) (his : withinB x y n = true) (f2 : withinB x y (n + m) = true) (g4 : 365 * n < mx x y - mn x y) (g5 : ¬ 366 * n < mx x y - mn x y) :
    Calls Try.prog 5 #[.int .i64 a0, .int .i64 a1, .int .u8 a2, .int .u8 a3] w fun e w' => e = .returned (.bool true) ∧ Below w.heap.size w w' := by
  rw [his] at f1
  have hmx : (if x < y then y else x) = mx x y := rfl
  have hmn : (if y < x then y else x) = mn x y := rfl
  have bmx : 0 ≤ mx x y ∧ mx x y ≤ 3652058 := by unfold mx; split <;> assumption
  have bmn : 0 ≤ mn x y ∧ mn x y ≤ 3652058 := by unfold mn; split <;> assumption
  go_enter Try.func5, Try.ntmps5
  simp only [List.append]
  go_wp2_with (go_at_call 6; refine (kit_Mod _ _ _ (by omega) (by omega)).mono ?_; rintro e w' ⟨rfl, rfl⟩)
  refine (cal_Within _ _ _ _).mono ?_
  rintro e v0 ⟨rfl, hc0⟩
  go_wp2_with fail
  refine (cal_Within _ _ _ _).mono ?_
  rintro e v1 ⟨rfl, hc1⟩
  go_wp2_with fail
  refine (cal_Within _ _ _ _).mono ?_
  rintro e v2 ⟨rfl, hc2⟩
  go_wp2_with fail
  refine (cal_Within _ _ _ _).mono ?_
  rintro e v3 ⟨rfl, hc3⟩
  go_wp2_with fail
  refine (law_awake _).mono ?_
  rintro e w5 ⟨rfl, hb5⟩
  go_wp2_with fail
  go_ret
  exact ⟨rfl, below_seq (below_seq (below_seq (below_seq hc0 hc1) hc2) hc3) hb5⟩

set_option maxRecDepth 100000 in
set_option maxHeartbeats 1000000 in
theorem within_e_TFF (a0 a1 a2 a3 x y q n m : Int) (w : World) (ha2 : 0 ≤ a2 ∧ a2 ≤ 255) (ha3 : 0 ≤ a3 ∧ a3 ≤ 255) (hx : kmod a0 3652059 = x) (hn : a2 % 90 = n) (hm : a3 % 10 = m) (bx : 0 ≤ x ∧ x ≤ 3652058) (by1 : 0 ≤ y ∧ y ≤ 3652058) (bn : 0 ≤ n ∧ n ≤ 89) (bm : 0 ≤ m ∧ m ≤ 9)
    (par : a1.tmod 2 = 0) (hq : kmod a1 40000 = q) (bq : 0 ≤ q ∧ q < 40000) (hy : (if x + q < 3652058 then x + q else 3652058) = y)
    (f1 : withinB y x n = withinB x y n) (f3 : withinB x x n = true) (his : withinB x y n = true) (f2 : withinB x y (n + m) = true) (g4 : ¬ 365 * n < mx x y - mn x y) (g5 : ¬ 366 * n < mx x y - mn x y) :
    Calls Try.prog 5 #[.int .i64 a0, .int .i64 a1, .int .u8 a2, .int .u8 a3] w fun e w' => e = .returned (.bool true) ∧ Below w.heap.size w w' := by
  rw [his] at f1
  have hmx : (if x < y then y else x) = mx x y := rfl
  have hmn : (if y < x then y else x) = mn x y := rfl
  have bmx : 0 ≤ mx x y ∧ mx x y ≤ 3652058 := by unfold mx; split <;> assumption
  have bmn : 0 ≤ mn x y ∧ mn x y ≤ 3652058 := by unfold mn; split <;> assumption
  go_enter Try.func5, Try.ntmps5
  simp only [List.append]
  go_wp2_with (go_at_call 6; refine (kit_Mod _ _ _ (by omega) (by omega)).mono ?_; rintro e w' ⟨rfl, rfl⟩)
  refine (cal_Within _ _ _ _).mono ?_
  rintro e v0 ⟨rfl, hc0⟩
  go_wp2_with fail
  refine (cal_Within _ _ _ _).mono ?_
  rintro e v1 ⟨rfl, hc1⟩
  go_wp2_with fail
  refine (cal_Within _ _ _ _).mono ?_
  rintro e v2 ⟨rfl, hc2⟩
  go_wp2_with fail
  refine (cal_Within _ _ _ _).mono ?_
  rintro e v3 ⟨rfl, hc3⟩
  go_wp2_with fail
  refine (law_awake _).mono ?_
  rintro e w5 ⟨rfl, hb5⟩
  go_wp2_with fail
  go_ret
  exact ⟨rfl, below_seq (below_seq (below_seq (below_seq hc0 hc1) hc2) hc3) hb5⟩

set_option maxRecDepth 100000 in
set_option maxHeartbeats 1000000 in
theorem within_o_F_T (a0 a1 a2 a3 x y q n m : Int) (w : World) (ha2 : 0 ≤ a2 ∧ a2 ≤ 255) (ha3 : 0 ≤ a3 ∧ a3 ≤ 255) (hx : kmod a0 3652059 = x) (hn : a2 % 90 = n) (hm : a3 % 10 = m) (bx : 0 ≤ x ∧ x ≤ 3652058) (by1 : 0 ≤ y ∧ y ≤ 3652058) (bn : 0 ≤ n ∧ n ≤ 89) (bm : 0 ≤ m ∧ m ≤ 9)
    (par : ¬ a1.tmod 2 = 0) (hy : kmod a1 3652059 = y)
    (f1 : withinB y x n = withinB x y n) (f3 : withinB x x n = true) (his : withinB x y n = false) (g4 : 365 * n < mx x y - mn x y) (g5 : 366 * n < mx x y - mn x y) :
    Calls Try.prog 5 #[.int .i64 a0, .int .i64 a1, .int .u8 a2, .int .u8 a3] w fun e w' => e = .returned (.bool true) ∧ Below w.heap.size w w' := by
  rw [his] at f1
  have hmx : (if x < y then y else x) = mx x y := rfl
  have hmn : (if y < x then y else x) = mn x y := rfl
  have bmx : 0 ≤ mx x y ∧ mx x y ≤ 3652058 := by unfold mx; split <;> assumption
  have bmn : 0 ≤ mn x y ∧ mn x y ≤ 3652058 := by unfold mn; split <;> assumption
  go_enter Try.func5, Try.ntmps5
  simp only [List.append]
  go_wp2_with (go_at_call 6; refine (kit_Mod _ _ _ (by omega) (by omega)).mono ?_; rintro e w' ⟨rfl, rfl⟩)
  refine (cal_Within _ _ _ _).mono ?_
  rintro e v0 ⟨rfl, hc0⟩
  go_wp2_with fail
  refine (cal_Within _ _ _ _).mono ?_
  rintro e v1 ⟨rfl, hc1⟩
  go_wp2_with fail
  refine (cal_Within _ _ _ _).mono ?_
  rintro e v2 ⟨rfl, hc2⟩
  go_wp2_with fail
  refine (law_awake _).mono ?_
  rintro e w5 ⟨rfl, hb5⟩
  go_wp2_with fail
  go_ret
  exact ⟨rfl, below_seq (below_seq (below_seq hc0 hc1) hc2) hb5⟩

set_option maxRecDepth 100000 in
set_option maxHeartbeats 1000000 in
theorem within_o_F_F (a0 a1 a2 a3 x y q n m : Int) (w : World) (ha2 : 0 ≤ a2 ∧ a2 ≤ 255) (ha3 : 0 ≤ a3 ∧ a3 ≤ 255) (hx : kmod a0 3652059 = x) (hn : a2 % 90 = n) (hm : a3 % 10 = m) (bx : 0 ≤ x ∧ x ≤ 3652058) (by1 : 0 ≤ y ∧ y ≤ 3652058) (bn : 0 ≤ n ∧ n ≤ 89) (bm : 0 ≤ m ∧ m ≤ 9)
    (par : ¬ a1.tmod 2 = 0) (hy : kmod a1 3652059 = y)
    (f1 : withinB y x n = withinB x y n) (f3 : withinB x x n = true) (his : withinB x y n = false) (g4 : 365 * n < mx x y - mn x y) (g5 : ¬ 366 * n < mx x y - mn x y) :
    Calls Try.prog 5 #[.int .i64 a0, .int .i64 a1, .int .u8 a2, .int .u8 a3] w fun e w' => e = .returned (.bool true) ∧ Below w.heap.size w w' := by
  rw [his] at f1
  have hmx : (if x < y then y else x) = mx x y := rfl
  have hmn : (if y < x then y else x) = mn x y := rfl
  have bmx : 0 ≤ mx x y ∧ mx x y ≤ 3652058 := by unfold mx; split <;> assumption
  have bmn : 0 ≤ mn x y ∧ mn x y ≤ 3652058 := by unfold mn; split <;> assumption
  go_enter Try.func5, Try.ntmps5
  simp only [List.append]
  go_wp2_with (go_at_call 6; refine (kit_Mod _ _ _ (by omega) (by omega)).mono ?_; rintro e w' ⟨rfl, rfl⟩)
  refine (cal_Within _ _ _ _).mono ?_
  rintro e v0 ⟨rfl, hc0⟩
  go_wp2_with fail
  refine (cal_Within _ _ _ _).mono ?_
  rintro e v1 ⟨rfl, hc1⟩
  go_wp2_with fail
  refine (cal_Within _ _ _ _).mono ?_
  rintro e v2 ⟨rfl, hc2⟩
  go_wp2_with fail
  refine (law_awake _).mono ?_
  rintro e w5 ⟨rfl, hb5⟩
  go_wp2_with fail
  go_ret
  exact ⟨rfl, below_seq (below_seq (below_seq hc0 hc1) hc2) hb5⟩

set_option maxRecDepth 100000 in
set_option maxHeartbeats 1000000 in
theorem within_o_TTF (a0 a1 a2 a3 x y q n m : Int) (w : World) (ha2 : 0 ≤ a2 ∧ a2 ≤ 255) (ha3 : 0 ≤ a3 ∧ a3 ≤ 255) (hx : kmod a0 3652059 = x) (hn : a2 % 90 = n) (hm : a3 % 10 = m) (bx : 0 ≤ x ∧ x ≤ 3652058) (by1 : 0 ≤ y ∧ y ≤ 3652058) (bn : 0 ≤ n ∧ n ≤ 89) (bm : 0 ≤ m ∧ m ≤ 9)
    (par : ¬ a1.tmod 2 = 0) (hy : kmod a1 3652059 = y)
    (f1 : withinB y x n = withinB x y n) (f3 : withinB x x n = true) (his : withinB x y n = true) (f2 : withinB x y (n + m) = true) (g4 : 365 * n < mx x y - mn x y) (g5 : ¬ 366 * n < mx x y - mn x y) :
    Calls Try.prog 5 #[.int .i64 a0, .int .i64 a1, .int .u8 a2, .int .u8 a3] w fun e w' => e = .returned (.bool true) ∧ Below w.heap.size w w' := by
  rw [his] at f1
  have hmx : (if x < y then y else x) = mx x y := rfl
  have hmn : (if y < x then y else x) = mn x y := rfl
  have bmx : 0 ≤ mx x y ∧ mx x y ≤ 3652058 := by unfold mx; split <;> assumption
  have bmn : 0 ≤ mn x y ∧ mn x y ≤ 3652058 := by unfold mn; split <;> assumption
  go_enter Try.func5, Try.ntmps5
  simp only [List.append]
  go_wp2_with (go_at_call 6; refine (kit_Mod _ _ _ (by omega) (by omega)).mono ?_; rintro e w' ⟨rfl, rfl⟩)
  refine (cal_Within _ _ _ _).mono ?_
  rintro e v0 ⟨rfl, hc0⟩
  go_wp2_with fail
  refine (cal_Within _ _ _ _).mono ?_
  rintro e v1 ⟨rfl, hc1⟩
  go_wp2_with fail
  refine (cal_Within _ _ _ _).mono ?_
  rintro e v2 ⟨rfl, hc2⟩
  go_wp2_with fail
  refine (cal_Within _ _ _ _).mono ?_
  rintro e v3 ⟨rfl, hc3⟩
  go_wp2_with fail
  refine (law_awake _).mono ?_
  rintro e w5 ⟨rfl, hb5⟩
  go_wp2_with fail
  go_ret
  exact ⟨rfl, below_seq (below_seq (below_seq (below_seq hc0 hc1) hc2) hc3) hb5⟩

set_option maxRecDepth 100000 in
set_option maxHeartbeats 1000000 in
theorem within_o_TFF (a0 a1 a2 a3 x y q n m : Int) (w : World) (ha2 : 0 ≤ a2 ∧ a2 ≤ 255) (ha3 : 0 ≤ a3 ∧ a3 ≤ 255) (hx : kmod a0 3652059 = x) (hn : a2 % 90 = n) (hm : a3 % 10 = m) (bx : 0 ≤ x ∧ x ≤ 3652058) (by1 : 0 ≤ y ∧ y ≤ 3652058) (bn : 0 ≤ n ∧ n ≤ 89) (bm : 0 ≤ m ∧ m ≤ 9)
    (par : ¬ a1.tmod 2 = 0) (hy : kmod a1 3652059 = y)
    (f1 : withinB y x n = withinB x y n) (f3 : withinB x x n = true) (his : withinB x y n = true) (f2 : withinB x y (n + m) = true) (g4 : ¬ 365 * n < mx x y - mn x y) (g5 : ¬ 366 * n < mx x y - mn x y) :
    Calls Try.prog 5 #[.int .i64 a0, .int .i64 a1, .int .u8 a2, .int .u8 a3] w fun e w' => e = .returned (.bool true) ∧ Below w.heap.size w w' := by
  rw [his] at f1
  have hmx : (if x < y then y else x) = mx x y := rfl
  have hmn : (if y < x then y else x) = mn x y := rfl
  have bmx : 0 ≤ mx x y ∧ mx x y ≤ 3652058 := by unfold mx; split <;> assumption
  have bmn : 0 ≤ mn x y ∧ mn x y ≤ 3652058 := by unfold mn; split <;> assumption
  go_enter Try.func5, Try.ntmps5
  simp only [List.append]
  go_wp2_with (go_at_call 6; refine (kit_Mod _ _ _ (by omega) (by omega)).mono ?_; rintro e w' ⟨rfl, rfl⟩)
  refine (cal_Within _ _ _ _).mono ?_
  rintro e v0 ⟨rfl, hc0⟩
  go_wp2_with fail
  refine (cal_Within _ _ _ _).mono ?_
  rintro e v1 ⟨rfl, hc1⟩
  go_wp2_with fail
  refine (cal_Within _ _ _ _).mono ?_
  rintro e v2 ⟨rfl, hc2⟩
  go_wp2_with fail
  refine (cal_Within _ _ _ _).mono ?_
  rintro e v3 ⟨rfl, hc3⟩
  go_wp2_with fail
  refine (law_awake _).mono ?_
  rintro e w5 ⟨rfl, hb5⟩
  go_wp2_with fail
  go_ret
  exact ⟨rfl, below_seq (below_seq (below_seq (below_seq hc0 hc1) hc2) hc3) hb5⟩

theorem law_within (a0 a1 a2 a3 : Int) (h2 : 0 ≤ a2 ∧ a2 ≤ 255) (h3 : 0 ≤ a3 ∧ a3 ≤ 255) (w : World) :
    Calls Try.prog 5 #[.int .i64 a0, .int .i64 a1, .int .u8 a2, .int .u8 a3] w fun e w' => e = .returned (.bool true) ∧ Below w.heap.size w w' := by
  obtain ⟨x, hx⟩ : ∃ x, kmod a0 3652059 = x := ⟨_, rfl⟩
  have ox : okN x := hx ▸ kmod_ok a0
  have bq := kmod_bd a1 (m := 40000) (by omega)
  have bn : 0 ≤ a2 % 90 ∧ a2 % 90 ≤ 89 := by omega
  have bm : 0 ≤ a3 % 10 ∧ a3 % 10 ≤ 9 := by omega
  have bx : 0 ≤ x ∧ x ≤ 3652058 := ox
  by_cases par : a1.tmod 2 = 0
  · obtain ⟨y, hy⟩ : ∃ y, (if x + kmod a1 40000 < 3652058 then x + kmod a1 40000 else 3652058) = y := ⟨_, rfl⟩
    have oy : okN y := by rw [← hy]; unfold okN; split <;> omega
    obtain ⟨f1, f2, f3, f4, f5⟩ := within_all (n := a2 % 90) (m := a3 % 10) ox oy bn.1 bn.2 bm.1 bm.2
    cases his : withinB x y (a2 % 90)
    · by_cases g5 : 366 * (a2 % 90) < mx x y - mn x y
      · exact within_e_F_T a0 a1 a2 a3 x y _ _ _ w h2 h3 hx rfl rfl bx oy bn bm par rfl bq hy f1 f3 his (f4 his) g5
      · exact within_e_F_F a0 a1 a2 a3 x y _ _ _ w h2 h3 hx rfl rfl bx oy bn bm par rfl bq hy f1 f3 his (f4 his) g5
    · by_cases g4 : 365 * (a2 % 90) < mx x y - mn x y
      · by_cases g5 : 366 * (a2 % 90) < mx x y - mn x y
        · have h6 := f5 his g5
          have bmx : mx x y ≤ 3652058 := by unfold mx; split; exact oy.2; exact ox.2
          omega
        · exact within_e_TTF a0 a1 a2 a3 x y _ _ _ w h2 h3 hx rfl rfl bx oy bn bm par rfl bq hy f1 f3 his (f2 his) g4 g5
      · exact within_e_TFF a0 a1 a2 a3 x y _ _ _ w h2 h3 hx rfl rfl bx oy bn bm par rfl bq hy f1 f3 his (f2 his) g4 (by omega)
  · obtain ⟨y, hy⟩ : ∃ y, kmod a1 3652059 = y := ⟨_, rfl⟩
    have oy : okN y := hy ▸ kmod_ok a1
    obtain ⟨f1, f2, f3, f4, f5⟩ := within_all (n := a2 % 90) (m := a3 % 10) ox oy bn.1 bn.2 bm.1 bm.2
    cases his : withinB x y (a2 % 90)
    · by_cases g5 : 366 * (a2 % 90) < mx x y - mn x y
      · exact within_o_F_T a0 a1 a2 a3 x y 0 _ _ w h2 h3 hx rfl rfl bx oy bn bm par hy f1 f3 his (f4 his) g5
      · exact within_o_F_F a0 a1 a2 a3 x y 0 _ _ w h2 h3 hx rfl rfl bx oy bn bm par hy f1 f3 his (f4 his) g5
    · by_cases g4 : 365 * (a2 % 90) < mx x y - mn x y
      · by_cases g5 : 366 * (a2 % 90) < mx x y - mn x y
        · have h6 := f5 his g5
          have bmx : mx x y ≤ 3652058 := by unfold mx; split; exact oy.2; exact ox.2
          omega
        · exact within_o_TTF a0 a1 a2 a3 x y 0 _ _ w h2 h3 hx rfl rfl bx oy bn bm par hy f1 f3 his (f2 his) g4 g5
      · exact within_o_TFF a0 a1 a2 a3 x y 0 _ _ w h2 h3 hx rfl rfl bx oy bn bm par hy f1 f3 his (f2 his) g4 (by omega)
end Go.Proofs.Ytbgodionpdemeaa
