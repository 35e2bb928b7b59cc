/- The walk of CalendarBack: the law returns true at every input, where the library's variables are as they are laid. -/
import Derived.Test.YtbgodionpdemeaaDoorCalParse
set_option linter.unusedVariables false
set_option linter.unusedSimpArgs false
namespace Go.Proofs.YtbgodionpdemeaaDoor
open Go.RowKit Cal

theorem below_then {a b c : World} (h : Below a.heap.size a b) (k : Below b.heap.size b c) : Below a.heap.size a c := h.trans (k.mono h.size)
/-- The day after a day. -/
theorem next_day {k : Int} (h0 : 0 ≤ k) (h1 : k < 3652058) :
    (dtY (k + 1) = dtY k ∧ dtM (k + 1) = dtM k ∧ dtD (k + 1) = dtD k + 1) ∨ (dtY (k + 1) = dtY k ∧ dtM (k + 1) = dtM k + 1 ∧ dtD (k + 1) = 1) ∨
    (dtY (k + 1) = dtY k + 1 ∧ dtM (k + 1) = 1 ∧ dtD (k + 1) = 1 ∧ dtM k = 12) := by
  have o : okN k := ⟨h0, by omega⟩
  obtain ⟨hv, hn⟩ := dt_ok o
  generalize dtY k = y at *
  generalize dtM k = m at *
  generalize dtD k = d at *
  obtain ⟨a1, a2, a3, a4, a5, a6⟩ := id hv
  have hl := len_bd y m
  by_cases c : d < lenI y m
  · left
    have v : vld y m (d + 1) := ⟨a1, a2, a3, a4, by omega, by omega⟩
    have e : num y m (d + 1) = k + 1 := by unfold num at *; omega
    have := dt_of v
    rw [e] at this
    exact ⟨this.2.1, this.2.2.1, this.2.2.2⟩
  · right
    have cs := cum_succ y m a3 a4
    by_cases c2 : m < 12
    · left
      have hl2 := len_bd y (m + 1)
      have v : vld y (m + 1) 1 := ⟨a1, a2, by omega, by omega, by omega, by omega⟩
      have e : num y (m + 1) 1 = k + 1 := by unfold num at *; omega
      have := dt_of v
      rw [e] at this
      exact ⟨this.2.1, this.2.2.1, this.2.2.2⟩
    · right
      have hm : m = 12 := by omega
      subst hm
      have c13 := cum_13 y
      rw [show (12 : Int) + 1 = 13 from rfl] at cs
      have ds := dby_succ y a1 a2
      have hl2 := len_bd (y + 1) 1
      have hy : y < 9999 := by
        refine Int.not_le.1 fun hc => ?_
        have : y = 9999 := by omega
        subst this
        have : dby (9999 + 1) = 3652059 := by decide
        unfold num at hn; omega
      have v : vld (y + 1) 1 1 := ⟨by omega, by omega, by omega, by omega, by omega, by omega⟩
      have e : num (y + 1) 1 1 = k + 1 := by unfold num at *; rw [cum_1]; omega
      have := dt_of v
      rw [e] at this
      exact ⟨this.2.1, this.2.2.1, this.2.2.2, rfl⟩

set_option maxRecDepth 100000 in
set_option maxHeartbeats 1000000 in
theorem back_a (a0 k : Int) (w : World) (h : LibOk w) (hk : kmod a0 3652058 = k) (h0 : 0 ≤ k) (h1 : k < 3652058) (e1 : dtY (k + 1) = dtY k) (e2 : dtM (k + 1) = dtM k) (e3 : dtD (k + 1) = dtD k + 1) :
    Calls Tryd.prog 5 #[.int .i64 a0] w fun e w' => e = .returned (.bool true) ∧ Below w.heap.size w w' := by
  have o : okN k := ⟨h0, by omega⟩
  have o2 : okN (k + 1) := ⟨by omega, by omega⟩
  obtain ⟨hv, hn⟩ := dt_ok o
  obtain ⟨b1, b2, b3, b4, b5, b6⟩ := id hv
  have hld := len_bd (dtY k) (dtM k)
  have d1 : dayN (dtY k) (dtM k) (dtD k) = k := by rw [dayN, if_pos hv, hn]
  have d2 : dayE (dtY k) (dtM k) (dtD k) = 0 := if_pos hv
  have g1 := dtE_ok o
  have g2 := dtE_ok o2
  have p1 := (pr_t o rfl).1
  have p2 := (pr_t o rfl).2
  have tl := text_len o
  have hI := Lib.hid h
  have HY := Lib.hid d1
  have HE := Lib.hid d2
  clear h hv hn d1 d2
  go_enter Tryd.func5, Tryd.ntmps5
  go_wp2_with fail
  refine (kit_Mod _ _ _ (by omega) (by omega)).mono ?_
  rintro e w' ⟨rfl, rfl⟩
  go_wp2_with fail
  refine (cal_Date _ _).mono ?_
  rintro e w1 ⟨rfl, hb1⟩
  have I1 := Lib.hid (hI.out.later hb1)
  go_wp2_with fail
  skip
  refine (cal_Day _ _ _ _).mono ?_
  rintro e w2 ⟨rfl, hb2⟩
  rw [HY.out, HE.out]
  have I2 := Lib.hid (I1.out.later hb2)
  go_wp2_with fail
  refine (cal_Date _ _).mono ?_
  rintro e w3 ⟨rfl, hb3⟩
  have I3 := Lib.hid (I2.out.later hb3)
  go_wp2_with fail
  refine (cal_Text _ _ I3.out.tab).mono ?_
  rintro e w4 ⟨rfl, hb4⟩
  have I4 := Lib.hid (I3.out.later hb4)
  go_wp2_with fail
  refine (cal_Parse _ _ I4.out (by omega)).mono ?_
  rintro e w5 ⟨rfl, hb5⟩
  go_wp2_with fail
  refine (law_awake _).mono ?_
  rintro e w6 ⟨rfl, hb6⟩
  go_wp2_with fail
  go_ret
  exact ⟨rfl, below_then (below_then (below_then (below_then (below_then hb1 hb2) hb3) hb4) hb5) hb6⟩

set_option maxRecDepth 100000 in
set_option maxHeartbeats 1000000 in
theorem back_b (a0 k : Int) (w : World) (h : LibOk w) (hk : kmod a0 3652058 = k) (h0 : 0 ≤ k) (h1 : k < 3652058) (e1 : dtY (k + 1) = dtY k) (e2 : dtM (k + 1) = dtM k + 1) (e3 : dtD (k + 1) = 1) :
    Calls Tryd.prog 5 #[.int .i64 a0] w fun e w' => e = .returned (.bool true) ∧ Below w.heap.size w w' := by
  have o : okN k := ⟨h0, by omega⟩
  have o2 : okN (k + 1) := ⟨by omega, by omega⟩
  obtain ⟨hv, hn⟩ := dt_ok o
  obtain ⟨b1, b2, b3, b4, b5, b6⟩ := id hv
  have hld := len_bd (dtY k) (dtM k)
  have d1 : dayN (dtY k) (dtM k) (dtD k) = k := by rw [dayN, if_pos hv, hn]
  have d2 : dayE (dtY k) (dtM k) (dtD k) = 0 := if_pos hv
  have g1 := dtE_ok o
  have g2 := dtE_ok o2
  have p1 := (pr_t o rfl).1
  have p2 := (pr_t o rfl).2
  have tl := text_len o
  have hI := Lib.hid h
  have HY := Lib.hid d1
  have HE := Lib.hid d2
  clear h hv hn d1 d2
  go_enter Tryd.func5, Tryd.ntmps5
  go_wp2_with fail
  refine (kit_Mod _ _ _ (by omega) (by omega)).mono ?_
  rintro e w' ⟨rfl, rfl⟩
  go_wp2_with fail
  refine (cal_Date _ _).mono ?_
  rintro e w1 ⟨rfl, hb1⟩
  have I1 := Lib.hid (hI.out.later hb1)
  go_wp2_with fail
  skip
  refine (cal_Day _ _ _ _).mono ?_
  rintro e w2 ⟨rfl, hb2⟩
  rw [HY.out, HE.out]
  have I2 := Lib.hid (I1.out.later hb2)
  go_wp2_with fail
  refine (cal_Date _ _).mono ?_
  rintro e w3 ⟨rfl, hb3⟩
  have I3 := Lib.hid (I2.out.later hb3)
  go_wp2_with fail
  refine (cal_Text _ _ I3.out.tab).mono ?_
  rintro e w4 ⟨rfl, hb4⟩
  have I4 := Lib.hid (I3.out.later hb4)
  go_wp2_with fail
  refine (cal_Parse _ _ I4.out (by omega)).mono ?_
  rintro e w5 ⟨rfl, hb5⟩
  go_wp2_with fail
  refine (law_awake _).mono ?_
  rintro e w6 ⟨rfl, hb6⟩
  go_wp2_with fail
  go_ret
  exact ⟨rfl, below_then (below_then (below_then (below_then (below_then hb1 hb2) hb3) hb4) hb5) hb6⟩

set_option maxRecDepth 100000 in
set_option maxHeartbeats 1000000 in
theorem back_c (a0 k : Int) (w : World) (h : LibOk w) (hk : kmod a0 3652058 = k) (h0 : 0 ≤ k) (h1 : k < 3652058) (e1 : dtY (k + 1) = dtY k + 1) (e2 : dtM (k + 1) = 1) (e3 : dtD (k + 1) = 1) (e4 : dtM k = 12) :
    Calls Tryd.prog 5 #[.int .i64 a0] w fun e w' => e = .returned (.bool true) ∧ Below w.heap.size w w' := by
  have o : okN k := ⟨h0, by omega⟩
  have o2 : okN (k + 1) := ⟨by omega, by omega⟩
  obtain ⟨hv, hn⟩ := dt_ok o
  obtain ⟨b1, b2, b3, b4, b5, b6⟩ := id hv
  have hld := len_bd (dtY k) (dtM k)
  have d1 : dayN (dtY k) (dtM k) (dtD k) = k := by rw [dayN, if_pos hv, hn]
  have d2 : dayE (dtY k) (dtM k) (dtD k) = 0 := if_pos hv
  have g1 := dtE_ok o
  have g2 := dtE_ok o2
  have p1 := (pr_t o rfl).1
  have p2 := (pr_t o rfl).2
  have tl := text_len o
  have hI := Lib.hid h
  have HY := Lib.hid d1
  have HE := Lib.hid d2
  clear h hv hn d1 d2
  go_enter Tryd.func5, Tryd.ntmps5
  go_wp2_with fail
  refine (kit_Mod _ _ _ (by omega) (by omega)).mono ?_
  rintro e w' ⟨rfl, rfl⟩
  go_wp2_with fail
  refine (cal_Date _ _).mono ?_
  rintro e w1 ⟨rfl, hb1⟩
  have I1 := Lib.hid (hI.out.later hb1)
  go_wp2_with fail
  rw [← e4]
  refine (cal_Day _ _ _ _).mono ?_
  rintro e w2 ⟨rfl, hb2⟩
  rw [HY.out, HE.out]
  have I2 := Lib.hid (I1.out.later hb2)
  go_wp2_with fail
  refine (cal_Date _ _).mono ?_
  rintro e w3 ⟨rfl, hb3⟩
  have I3 := Lib.hid (I2.out.later hb3)
  go_wp2_with fail
  refine (cal_Text _ _ I3.out.tab).mono ?_
  rintro e w4 ⟨rfl, hb4⟩
  have I4 := Lib.hid (I3.out.later hb4)
  go_wp2_with fail
  refine (cal_Parse _ _ I4.out (by omega)).mono ?_
  rintro e w5 ⟨rfl, hb5⟩
  go_wp2_with fail
  refine (law_awake _).mono ?_
  rintro e w6 ⟨rfl, hb6⟩
  go_wp2_with fail
  go_ret
  exact ⟨rfl, below_then (below_then (below_then (below_then (below_then hb1 hb2) hb3) hb4) hb5) hb6⟩

theorem law_back (a0 : Int) (w : World) (h : LibOk w) :
    Calls Tryd.prog 5 #[.int .i64 a0] w fun e w' => e = .returned (.bool true) ∧ Below w.heap.size w w' := by
  have b := kmod_bd a0 (m := 3652058) (by omega)
  rcases next_day b.1 b.2 with ⟨e1, e2, e3⟩ | ⟨e1, e2, e3⟩ | ⟨e1, e2, e3, e4⟩
  · exact back_a a0 _ w h rfl b.1 b.2 e1 e2 e3
  · exact back_b a0 _ w h rfl b.1 b.2 e1 e2 e3
  · exact back_c a0 _ w h rfl b.1 b.2 e1 e2 e3 e4
end Go.Proofs.YtbgodionpdemeaaDoor
