/- Contracts of the calendar's small functions: what each call returns. -/
import Derived.Test.YtbgodionpdemeaaDoorRows
import Derived.Test.YtbgodionpdemeaaDoorCalMath
import Derived.WalkKit
import Derived.WalkSpells
import Derived.WalkLawsBesides
import Derived.Deep.QuietTactic
import Derived.BigQuiet
import Derived.Lib.Hide
set_option linter.unusedVariables false
set_option linter.unusedSimpArgs false
namespace Go.Proofs.YtbgodionpdemeaaDoor
open Go.RowKit Cal

theorem ret_int {k : IntKind} {a b : Int} (h : a = b) : Ending.returned (.int k a) = .returned (.int k b) := by rw [h]
theorem int_eq {k : IntKind} {a b : Int} (h : a = b) : Value.int k a = .int k b := by rw [h]
theorem ret_tup2 {k l : IntKind} {a b c : Int} (h : a = b) : Ending.returned (.tuple #[.int k a, .int l c]) = .returned (.tuple #[.int k b, .int l c]) := by rw [h]
theorem ret_bool {a b : Bool} (h : a = b) : Ending.returned (.bool a) = .returned (.bool b) := by rw [h]

set_option maxHeartbeats 400000 in
theorem cal_years (y : Int) (w : World) :
    Calls Tryd.prog 17 #[.int .i64 y] w fun e w' => e = .returned (.bool (yrB y)) ∧ w = w' := by
  by_cases h1 : 1 ≤ y <;> by_cases h2 : y ≤ 9999 <;>
  (go_enter Tryd.func17, Tryd.ntmps17
   go_wp2
   go_ret
   exact ⟨ret_bool (by first | exact (yrB_t (y := y) (by omega)).symm | exact (yrB_f (y := y) (by omega)).symm), rfl⟩)

set_option maxHeartbeats 400000 in
theorem cal_Leap (y : Int) (w : World) :
    Calls Tryd.prog 19 #[.int .i64 y] w fun e w' => e = .returned (.bool (lpB y)) ∧ w = w' := by
  by_cases h : 1 ≤ y ∧ y ≤ 9999
  · obtain ⟨h1, h2⟩ := h
    by_cases h3 : y % 4 = 0 <;> by_cases h4 : y % 100 = 0 <;> by_cases h5 : y % 400 = 0 <;>
    (go_enter Tryd.func19, Tryd.ntmps19
     go_wp2
     go_ret
     exact ⟨ret_bool (by first | exact (lpB_t (y := y) (by unfold lp; omega)).symm | exact (lpB_f (y := y) (by unfold lp; omega)).symm | (rw [Bool.eq_iff_iff]; simp [lpB, lp, h1, h2, h3, h4, h5]; done) | (rw [Bool.eq_iff_iff]; simp only [lpB, lp, beq_iff_eq, decide_eq_true_eq]; omega)), rfl⟩)
  · by_cases h1 : 1 ≤ y
    · have h2 : ¬ y ≤ 9999 := by omega
      go_enter Tryd.func19, Tryd.ntmps19
      go_wp2
      go_ret
      exact ⟨ret_bool (by first | exact (lpB_t (y := y) (by unfold lp; omega)).symm | exact (lpB_f (y := y) (by unfold lp; omega)).symm | (rw [Bool.eq_iff_iff]; simp [lpB, lp, h1, h2, h3, h4, h5]; done) | (rw [Bool.eq_iff_iff]; simp only [lpB, lp, beq_iff_eq, decide_eq_true_eq]; omega)), rfl⟩
    · go_enter Tryd.func19, Tryd.ntmps19
      go_wp2
      go_ret
      exact ⟨ret_bool (by first | exact (lpB_t (y := y) (by unfold lp; omega)).symm | exact (lpB_f (y := y) (by unfold lp; omega)).symm | (rw [Bool.eq_iff_iff]; simp [lpB, lp, h1, h2, h3, h4, h5]; done) | (rw [Bool.eq_iff_iff]; simp only [lpB, lp, beq_iff_eq, decide_eq_true_eq]; omega)), rfl⟩
set_option maxHeartbeats 400000 in
theorem ref_Leap (y : Int) (w : World) :
    Calls Tryd.prog 40 #[.int .i64 y] w fun e w' => e = .returned (.bool (lpB y)) ∧ w = w' := by
  by_cases h : 1 ≤ y ∧ y ≤ 9999
  · obtain ⟨h1, h2⟩ := h
    by_cases h3 : y % 4 = 0 <;> by_cases h4 : y % 100 = 0 <;> by_cases h5 : y % 400 = 0 <;>
    (go_enter Tryd.func40, Tryd.ntmps40
     go_wp2
     go_ret
     exact ⟨ret_bool (by first | exact (lpB_t (y := y) (by unfold lp; omega)).symm | exact (lpB_f (y := y) (by unfold lp; omega)).symm | (rw [Bool.eq_iff_iff]; simp [lpB, lp, h1, h2, h3, h4, h5]; done) | (rw [Bool.eq_iff_iff]; simp only [lpB, lp, beq_iff_eq, decide_eq_true_eq]; omega)), rfl⟩)
  · by_cases h1 : 1 ≤ y
    · have h2 : ¬ y ≤ 9999 := by omega
      go_enter Tryd.func40, Tryd.ntmps40
      go_wp2
      go_ret
      exact ⟨ret_bool (by first | exact (lpB_t (y := y) (by unfold lp; omega)).symm | exact (lpB_f (y := y) (by unfold lp; omega)).symm | (rw [Bool.eq_iff_iff]; simp [lpB, lp, h1, h2, h3, h4, h5]; done) | (rw [Bool.eq_iff_iff]; simp only [lpB, lp, beq_iff_eq, decide_eq_true_eq]; omega)), rfl⟩
    · go_enter Tryd.func40, Tryd.ntmps40
      go_wp2
      go_ret
      exact ⟨ret_bool (by first | exact (lpB_t (y := y) (by unfold lp; omega)).symm | exact (lpB_f (y := y) (by unfold lp; omega)).symm | (rw [Bool.eq_iff_iff]; simp [lpB, lp, h1, h2, h3, h4, h5]; done) | (rw [Bool.eq_iff_iff]; simp only [lpB, lp, beq_iff_eq, decide_eq_true_eq]; omega)), rfl⟩

set_option maxHeartbeats 400000 in
theorem cal_before (y : Int) (w : World) (h1 : 1 ≤ y) (h2 : y ≤ 9999) :
    Calls Tryd.prog 26 #[.int .i64 y] w fun e w' => e = .returned (.int .i64 (dby y)) ∧ w = w' := by
  go_enter Tryd.func26, Tryd.ntmps26
  go_wp2
  go_ret
  exact ⟨ret_int (by unfold dby; omega), rfl⟩

set_option maxHeartbeats 400000 in
theorem ref_length (y m : Int) (w : World) (h1 : 1 ≤ m) (h2 : m ≤ 12) :
    Calls Tryd.prog 29 #[.int .i64 y, .int .i64 m] w fun e w' => e = .returned (.int .i64 (lenI y m)) ∧ w = w' := by
  by_cases h : m = 2
  · subst h
    cases hl : lpB y
    all_goals
      have HL := Lib.hid hl
      clear hl
      go_enter Tryd.func29, Tryd.ntmps29
      go_wp2_with (go_at_call 40; refine (ref_Leap _ _).mono ?_; rintro e w' ⟨rfl, rfl⟩; rw [HL.out])
      go_ret
      exact ⟨ret_int (by simp [lenI, feb, HL.out]), rfl⟩
  · have hm : m = 4 ∨ m = 6 ∨ m = 9 ∨ m = 11 ∨ (m ≠ 2 ∧ m ≠ 4 ∧ m ≠ 6 ∧ m ≠ 9 ∧ m ≠ 11) := by omega
    rcases hm with rfl | rfl | rfl | rfl | ⟨a, b, c, d, f⟩ <;>
    (go_enter Tryd.func29, Tryd.ntmps29
     go_wp2
     go_ret
     exact ⟨ret_int (by simp [lenI, *]), rfl⟩)

abbrev monthsC (y : Int) : Array Value := #[.int .i64 31, .int .i64 (feb y), .int .i64 31, .int .i64 30, .int .i64 31, .int .i64 30, .int .i64 31, .int .i64 31, .int .i64 30, .int .i64 31, .int .i64 30, .int .i64 31]

set_option maxHeartbeats 400000 in
theorem cal_months (y : Int) (w : World) :
    Calls Tryd.prog 18 #[.bool (lpB y)] w fun e w' => e = .returned (.agg (monthsC y)) ∧ Below w.heap.size w w' := by
  cases hl : lpB y
  all_goals
    have HL := Lib.hid hl
    clear hl
    go_enter Tryd.func18, Tryd.ntmps18
    go_wp2
    exact bodyPost_ret (v := .agg (monthsC y)) (by simp [results, Tryd.results18, go_sem, monthsC, feb, HL.out]) rfl ⟨rfl, ((Below.refl _ _).alloc (Nat.le_refl _) _).alloc (by simp) _⟩

set_option maxHeartbeats 1000000 in
theorem ref_Day_t (y m d : Int) (w : World) (hv : vld y m d) :
    Calls Tryd.prog 24 #[.int .i64 y, .int .i64 m, .int .i64 d] w fun e w' => e = .returned (.tuple #[.int .i64 (num y m d), .int .i64 0]) ∧ w = w' := by
  obtain ⟨h1, h2, h3, h4, h5, h6⟩ := hv
  have hl := len_bd y m
  have hd := dby_bd h1 (by omega)
  go_enter Tryd.func24, Tryd.ntmps24
  go_wp2_with (go_at_call 29; refine (ref_length _ _ _ (by omega) (by omega)).mono ?_; rintro e w' ⟨rfl, rfl⟩)
  go_loop [9, 10] (fun n i => ∃ k : Int, 1 ≤ k ∧ k ≤ m ∧ i = .int .i64 k ∧ n = .int .i64 (dby y + cum y k)) (fun _ i => (m - intOf i).toNat)
  case atStart => exact ⟨1, by omega, by omega, rfl, int_eq (by rw [cum_1]; unfold dby; omega)⟩
  case round =>
    obtain ⟨k, hk1, hk2, rfl, rfl⟩ := hrel
    have hc := cum_bd y k hk1 (by omega)
    have hl' := len_bd y k
    by_cases hlt : k < m
    · have hs := Lib.hid (cum_succ y k hk1 (by omega))
      go_wp2_with (go_at_call 29; refine (ref_length _ _ _ (by omega) (by omega)).mono ?_; rintro e w' ⟨rfl, rfl⟩)
      go_round
      case rel => exact ⟨k + 1, by omega, by omega, rfl, int_eq (by rw [hs.out]; omega)⟩
      case measure => simp [intOf]; omega
    · go_wp2
      go_ret2
      exact ⟨ret_tup2 (by rw [show k = m from by omega]; unfold num; omega), rfl⟩

set_option maxHeartbeats 1000000 in
theorem ref_Day_f (y m d : Int) (w : World) (hv : ¬ vld y m d) :
    Calls Tryd.prog 24 #[.int .i64 y, .int .i64 m, .int .i64 d] w fun e w' => e = .returned (.tuple #[.int .i64 0, .int .i64 10]) ∧ w = w' := by
  unfold vld at hv
  by_cases h1 : 1 ≤ y
  · by_cases h2 : y ≤ 9999
    · by_cases h3 : 1 ≤ m
      · by_cases h4 : m ≤ 12
        · by_cases h5 : 1 ≤ d
          · have h6 : lenI y m < d := by omega
            clear hv
            go_enter Tryd.func24, Tryd.ntmps24
            go_wp2_with (go_at_call 29; refine (ref_length _ _ _ (by omega) (by omega)).mono ?_; rintro e w' ⟨rfl, rfl⟩)
            go_ret2
            exact ⟨rfl, rfl⟩
          · clear hv
            go_enter Tryd.func24, Tryd.ntmps24
            go_wp2
            go_ret2
            exact ⟨rfl, rfl⟩
        · clear hv
          go_enter Tryd.func24, Tryd.ntmps24
          go_wp2
          go_ret2
          exact ⟨rfl, rfl⟩
      · clear hv
        go_enter Tryd.func24, Tryd.ntmps24
        go_wp2
        go_ret2
        exact ⟨rfl, rfl⟩
    · clear hv
      go_enter Tryd.func24, Tryd.ntmps24
      go_wp2
      go_ret2
      exact ⟨rfl, rfl⟩
  · clear hv
    go_enter Tryd.func24, Tryd.ntmps24
    go_wp2
    go_ret2
    exact ⟨rfl, rfl⟩

theorem ref_Day (y m d : Int) (w : World) :
    Calls Tryd.prog 24 #[.int .i64 y, .int .i64 m, .int .i64 d] w fun e w' => e = .returned (.tuple #[.int .i64 (dayN y m d), .int .i64 (dayE y m d)]) ∧ w = w' := by
  by_cases hv : vld y m d
  · rw [dayN, dayE, if_pos hv, if_pos hv]; exact ref_Day_t y m d w hv
  · rw [dayN, dayE, if_neg hv, if_neg hv]; exact ref_Day_f y m d w hv

/-- What a world of more blocks leaves as it was. -/
theorem bcell {W w1 : World} (hb : Below W.heap.size W w1) : (∀ b o, b < W.heap.size → w1.cell? ⟨b, o, none⟩ = W.cell? ⟨b, o, none⟩) ∧ (∀ b o, b < W.heap.size → w1.frozen? ⟨b, o, none⟩ = W.frozen? ⟨b, o, none⟩) :=
  ⟨fun b o h => hb.cell (p := ⟨b, o, none⟩) h, fun b o h => hb.frozen (p := ⟨b, o, none⟩) h⟩

theorem months_cell (y : Int) (W : World) (T : TypeId) (k : Nat) (hk : k < 12) : (W.alloc (.cells (monthsC y) T)).cell? ⟨W.heap.size, k, none⟩ = some (.int .i64 (lenI y ((k : Int) + 1))) := by
  have : k = 0 ∨ k = 1 ∨ k = 2 ∨ k = 3 ∨ k = 4 ∨ k = 5 ∨ k = 6 ∨ k = 7 ∨ k = 8 ∨ k = 9 ∨ k = 10 ∨ k = 11 := by omega
  rcases this with rfl | rfl | rfl | rfl | rfl | rfl | rfl | rfl | rfl | rfl | rfl | rfl <;> simp [lenI]

end Go.Proofs.YtbgodionpdemeaaDoor
