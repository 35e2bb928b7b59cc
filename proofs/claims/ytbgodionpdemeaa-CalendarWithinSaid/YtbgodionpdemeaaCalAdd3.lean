/- Adding years, and days within years: the reference's. -/
import Derived.Test.YtbgodionpdemeaaCalAdd
set_option linter.unusedVariables false
set_option linter.unusedSimpArgs false
namespace Go.Proofs.Ytbgodionpdemeaa
open Go.RowKit Cal

set_option maxHeartbeats 1000000 in
theorem ref_Add_2 (n l : Int) (w : World) (h : ¬ okN n ∨ l < -9999 ∨ 9999 < l) :
    Calls Try.prog 15 #[.int .i64 n, .int .i64 l] w fun e w' => e = .returned (.tuple #[.int .i64 0, .int .i64 2]) ∧ w = w' := by
  by_cases h0 : okN n
  · have hE := dtE_ok h0
    by_cases h1 : l < -9999
    · clear h
      go_enter Try.func15, Try.ntmps15
      go_wp2_with (go_at_call 12; refine (ref_Date _ _).mono ?_; rintro e w1 ⟨rfl, rfl⟩)
      go_ret2
      exact ⟨rfl, rfl⟩
    · have h2 : 9999 < l := by
        rcases h with h | h | h
        · exact absurd h0 h
        · exact absurd h h1
        · exact h
      clear h
      go_enter Try.func15, Try.ntmps15
      go_wp2_with (go_at_call 12; refine (ref_Date _ _).mono ?_; rintro e w1 ⟨rfl, rfl⟩)
      go_ret2
      exact ⟨rfl, rfl⟩
  · have hE := dtE_no h0
    clear h
    go_enter Try.func15, Try.ntmps15
    go_wp2_with (go_at_call 12; refine (ref_Date _ _).mono ?_; rintro e w1 ⟨rfl, rfl⟩)
    go_ret2
    exact ⟨rfl, rfl⟩

set_option maxHeartbeats 1000000 in
theorem ref_Add_10 (n l : Int) (w : World) (h0 : okN n) (h1 : -9999 ≤ l) (h2 : l ≤ 9999) (h : dtY n + l < 1 ∨ 9999 < dtY n + l) :
    Calls Try.prog 15 #[.int .i64 n, .int .i64 l] w fun e w' => e = .returned (.tuple #[.int .i64 0, .int .i64 10]) ∧ w = w' := by
  have hE := dtE_ok h0
  have hv := (dt_ok h0).1
  have hy1 := hv.1
  have hy2 := hv.2.1
  clear hv
  by_cases h3 : dtY n + l < 1
  · clear h
    go_enter Try.func15, Try.ntmps15
    go_wp2_with (first | (go_at_call 12; refine (ref_Date _ _).mono ?_; rintro e w1 ⟨rfl, rfl⟩))
    go_ret2
    exact ⟨rfl, rfl⟩
  · have h4 : 9999 < dtY n + l := by omega
    clear h
    go_enter Try.func15, Try.ntmps15
    go_wp2_with (first | (go_at_call 12; refine (ref_Date _ _).mono ?_; rintro e w1 ⟨rfl, rfl⟩))
    go_ret2
    exact ⟨rfl, rfl⟩

set_option maxHeartbeats 1000000 in
theorem ref_Add_0 (n l : Int) (w : World) (h0 : okN n) (h1 : 1 ≤ dtY n + l) (h2 : dtY n + l ≤ 9999) :
    Calls Try.prog 15 #[.int .i64 n, .int .i64 l] w fun e w' => e = .returned (.tuple #[.int .i64 (num (dtY n + l) (dtM n) (mn (dtD n) (lenI (dtY n + l) (dtM n)))), .int .i64 0]) ∧ w = w' := by
  have hE := dtE_ok h0
  have hv := (dt_ok h0).1
  have hvv := Lib.hid (add_vld h0 h1 h2)
  have hy1 := hv.1
  have hy2 := hv.2.1
  have hm1 := hv.2.2.1
  have hm2 := hv.2.2.2.1
  have hd1 := hv.2.2.2.2.1
  have hd2 := hv.2.2.2.2.2
  have hl1 := len_bd (dtY n) (dtM n)
  have hl2 := len_bd (dtY n + l) (dtM n)
  have hmn : (if lenI (dtY n + l) (dtM n) < dtD n then lenI (dtY n + l) (dtM n) else dtD n) = mn (dtD n) (lenI (dtY n + l) (dtM n)) := rfl
  clear hv
  go_enter Try.func15, Try.ntmps15
  go_wp2_with (first | (go_at_call 12; refine (ref_Date _ _).mono ?_; rintro e w1 ⟨rfl, rfl⟩) | (go_at_call 21; refine (ref_length _ _ _ (by omega) (by omega)).mono ?_; rintro e w2 ⟨rfl, rfl⟩) | (go_at_call 8; refine (ref_Day_t _ _ _ _ hvv.out).mono ?_; rintro e w3 ⟨rfl, rfl⟩))
  go_ret2
  exact ⟨rfl, rfl⟩

theorem ref_Add (n l : Int) (w : World) :
    Calls Try.prog 15 #[.int .i64 n, .int .i64 l] w fun e w' => e = .returned (.tuple #[.int .i64 (addN n l), .int .i64 (addE n l)]) ∧ w = w' := by
  by_cases h0 : ¬ okN n ∨ l < -9999 ∨ 9999 < l
  · rw [(addE_2 h0).1, (addE_2 h0).2]; exact ref_Add_2 n l w h0
  · have h00 : okN n := by
      by_cases h : okN n
      · exact h
      · exact absurd (Or.inl h) h0
    by_cases h : dtY n + l < 1 ∨ 9999 < dtY n + l
    · rw [(addE_10 h00 (by omega) (by omega) h).1, (addE_10 h00 (by omega) (by omega) h).2]; exact ref_Add_10 n l w h00 (by omega) (by omega) h
    · rw [(addE_0 h00 (by omega) (by omega)).1, (addE_0 h00 (by omega) (by omega)).2]; exact ref_Add_0 n l w h00 (by omega) (by omega)

set_option maxHeartbeats 1000000 in
theorem ref_Within_f (a b l : Int) (w : World) (h : mn a b < 0 ∨ 3652058 < mx a b ∨ l < 0 ∨ 100 < l) :
    Calls Try.prog 17 #[.int .i64 a, .int .i64 b, .int .i64 l] w fun e w' => e = .returned (.bool false) ∧ w = w' := by
  rcases Int.lt_trichotomy a b with hab | hab | hab
  · rw [show mn a b = a from if_neg (by omega), show mx a b = b from if_pos hab] at h
    by_cases h1 : a < 0
    · clear h
      go_enter Try.func17, Try.ntmps17
      go_wp2_with fail
      go_ret
      exact ⟨rfl, rfl⟩
    · by_cases h2 : 3652058 < b
      · clear h
        go_enter Try.func17, Try.ntmps17
        go_wp2_with fail
        go_ret
        exact ⟨rfl, rfl⟩
      · by_cases h3 : l < 0
        · clear h
          go_enter Try.func17, Try.ntmps17
          go_wp2_with fail
          go_ret
          exact ⟨rfl, rfl⟩
        · have h4 : 100 < l := by omega
          clear h
          go_enter Try.func17, Try.ntmps17
          go_wp2_with fail
          go_ret
          exact ⟨rfl, rfl⟩
  · subst hab; rw [show mn a a = a from if_neg (by omega), show mx a a = a from if_neg (by omega)] at h
    by_cases h1 : a < 0
    · clear h
      go_enter Try.func17, Try.ntmps17
      go_wp2_with fail
      go_ret
      exact ⟨rfl, rfl⟩
    · by_cases h2 : 3652058 < a
      · clear h
        go_enter Try.func17, Try.ntmps17
        go_wp2_with fail
        go_ret
        exact ⟨rfl, rfl⟩
      · by_cases h3 : l < 0
        · clear h
          go_enter Try.func17, Try.ntmps17
          go_wp2_with fail
          go_ret
          exact ⟨rfl, rfl⟩
        · have h4 : 100 < l := by omega
          clear h
          go_enter Try.func17, Try.ntmps17
          go_wp2_with fail
          go_ret
          exact ⟨rfl, rfl⟩
  · rw [show mn a b = b from if_pos hab, show mx a b = a from if_neg (by omega)] at h
    by_cases h1 : b < 0
    · clear h
      go_enter Try.func17, Try.ntmps17
      go_wp2_with fail
      go_ret
      exact ⟨rfl, rfl⟩
    · by_cases h2 : 3652058 < a
      · clear h
        go_enter Try.func17, Try.ntmps17
        go_wp2_with fail
        go_ret
        exact ⟨rfl, rfl⟩
      · by_cases h3 : l < 0
        · clear h
          go_enter Try.func17, Try.ntmps17
          go_wp2_with fail
          go_ret
          exact ⟨rfl, rfl⟩
        · have h4 : 100 < l := by omega
          clear h
          go_enter Try.func17, Try.ntmps17
          go_wp2_with fail
          go_ret
          exact ⟨rfl, rfl⟩

set_option maxHeartbeats 1000000 in
theorem ref_Within_t (a b l : Int) (w : World) (h1 : 0 ≤ mn a b) (h2 : mx a b ≤ 3652058) (h3 : 0 ≤ l) (h4 : l ≤ 100) :
    Calls Try.prog 17 #[.int .i64 a, .int .i64 b, .int .i64 l] w fun e w' => e = .returned (.bool (decide (addE (mn a b) l ≠ 0 ∨ mx a b ≤ addN (mn a b) l))) ∧ w = w' := by
  rcases Int.lt_trichotomy a b with hab | hab | hab
  · rw [show mn a b = a from if_neg (by omega)] at *; rw [show mx a b = b from if_pos hab] at *
    by_cases h5 : addE a l = 0
    · by_cases h6 : b ≤ addN a l
      · go_enter Try.func17, Try.ntmps17
        go_wp2_with (go_at_call 15; refine (ref_Add _ _ _).mono ?_; rintro e w1 ⟨rfl, rfl⟩)
        go_ret
        exact ⟨ret_bool (by simp [h5, h6]), rfl⟩
      · go_enter Try.func17, Try.ntmps17
        go_wp2_with (go_at_call 15; refine (ref_Add _ _ _).mono ?_; rintro e w1 ⟨rfl, rfl⟩)
        go_ret
        exact ⟨ret_bool (by simp [h5, h6]), rfl⟩
    · go_enter Try.func17, Try.ntmps17
      go_wp2_with (go_at_call 15; refine (ref_Add _ _ _).mono ?_; rintro e w1 ⟨rfl, rfl⟩)
      go_ret
      exact ⟨ret_bool (by simp [h5]), rfl⟩
  · subst hab; rw [show mn a a = a from if_neg (by omega)] at *; rw [show mx a a = a from if_neg (by omega)] at *
    by_cases h5 : addE a l = 0
    · by_cases h6 : a ≤ addN a l
      · go_enter Try.func17, Try.ntmps17
        go_wp2_with (go_at_call 15; refine (ref_Add _ _ _).mono ?_; rintro e w1 ⟨rfl, rfl⟩)
        go_ret
        exact ⟨ret_bool (by simp [h5, h6]), rfl⟩
      · go_enter Try.func17, Try.ntmps17
        go_wp2_with (go_at_call 15; refine (ref_Add _ _ _).mono ?_; rintro e w1 ⟨rfl, rfl⟩)
        go_ret
        exact ⟨ret_bool (by simp [h5, h6]), rfl⟩
    · go_enter Try.func17, Try.ntmps17
      go_wp2_with (go_at_call 15; refine (ref_Add _ _ _).mono ?_; rintro e w1 ⟨rfl, rfl⟩)
      go_ret
      exact ⟨ret_bool (by simp [h5]), rfl⟩
  · rw [show mn a b = b from if_pos hab] at *; rw [show mx a b = a from if_neg (by omega)] at *
    by_cases h5 : addE b l = 0
    · by_cases h6 : a ≤ addN b l
      · go_enter Try.func17, Try.ntmps17
        go_wp2_with (go_at_call 15; refine (ref_Add _ _ _).mono ?_; rintro e w1 ⟨rfl, rfl⟩)
        go_ret
        exact ⟨ret_bool (by simp [h5, h6]), rfl⟩
      · go_enter Try.func17, Try.ntmps17
        go_wp2_with (go_at_call 15; refine (ref_Add _ _ _).mono ?_; rintro e w1 ⟨rfl, rfl⟩)
        go_ret
        exact ⟨ret_bool (by simp [h5, h6]), rfl⟩
    · go_enter Try.func17, Try.ntmps17
      go_wp2_with (go_at_call 15; refine (ref_Add _ _ _).mono ?_; rintro e w1 ⟨rfl, rfl⟩)
      go_ret
      exact ⟨ret_bool (by simp [h5]), rfl⟩

theorem ref_Within (a b l : Int) (w : World) :
    Calls Try.prog 17 #[.int .i64 a, .int .i64 b, .int .i64 l] w fun e w' => e = .returned (.bool (withinB a b l)) ∧ w = w' := by
  unfold withinB
  by_cases h : mn a b < 0 ∨ 3652058 < mx a b ∨ l < 0 ∨ 100 < l
  · rw [withinL_f h]; exact ref_Within_f a b l w h
  · rw [withinL_t (by omega) (by omega) (by omega) (by omega)]; exact ref_Within_t a b l w (by omega) (by omega) (by omega) (by omega)
end Go.Proofs.Ytbgodionpdemeaa
