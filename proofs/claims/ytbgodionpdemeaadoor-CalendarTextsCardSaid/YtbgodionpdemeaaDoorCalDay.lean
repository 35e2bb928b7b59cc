/- The calendar's Day. -/
import Derived.Test.YtbgodionpdemeaaDoorCalWalks
set_option linter.unusedVariables false
set_option linter.unusedSimpArgs false
namespace Go.Proofs.YtbgodionpdemeaaDoor
open Go.RowKit Cal

theorem al12 : Tryd.prog.arrayLen 40 = 12 := by kernel_rfl
theorem el12 : Tryd.prog.elem 40 = 3 := by kernel_rfl
theorem un12 : Tryd.prog.underlying 40 = some (.array 12 3) := by kernel_rfl
theorem sz_int (W : World) : (sizeOf 3).run Tryd.prog W = .ok 1 W := by kernel_rfl
theorem slice12 (W : World) (b : Nat) (h : Int) (h0 : 0 ≤ h) (h1 : h ≤ 12) :
    (Instr.sliceAt 40 (.pointer (some ⟨b, 0, none⟩)) none (some (.int .i64 h)) none).run Tryd.prog W = .ok (.slice (some ⟨b, 0, none⟩) h.toNat 12) W := by
  rw [run_sliceAt_array_h (P := Tryd.prog) W 40 ⟨b, 0, none⟩ (by rw [al12, el12]; exact un12) .i64 h h0 (by rw [al12]; exact h1), al12, el12, sz_int]
  simp [slicedAt, Addr.add]

set_option maxHeartbeats 1000000 in
theorem cal_Day_t (y m d : Int) (w : World) (hv : vld y m d) :
    Calls Tryd.prog 15 #[.int .i64 y, .int .i64 m, .int .i64 d] w fun e w' => e = .returned (.tuple #[.int .i64 (num y m d), .int .i64 0]) ∧ Below w.heap.size w w' := by
  obtain ⟨h1, h2, h3, h4, h5, h6⟩ := hv
  have hl := len_bd y m
  have hd := dby_bd h1 (by omega)
  have hyr := Lib.hid (yrB_t ⟨h1, h2⟩)
  have hcell : ∀ W : World, (W.alloc (.cells (monthsC y) 40)).cell? ⟨W.heap.size, m.toNat - 1, none⟩ = some (.int .i64 (lenI y m)) := fun W => by
    rw [months_cell y W 40 (m.toNat - 1) (by omega), show ((m.toNat - 1 : Nat) : Int) + 1 = m from by omega]
  have hsl := fun (W : World) (b : Nat) => slice12 W b (m - 1) (by omega) (by omega)
  go_enter Tryd.func15, Tryd.ntmps15
  go_wp2_with (first | (go_at_call 19; refine (cal_Leap _ _).mono ?_; rintro e w' ⟨rfl, rfl⟩) | (go_at_call 17; refine (cal_years _ _).mono ?_; rintro e w' ⟨rfl, rfl⟩; rw [hyr.out]) | (go_at_call 18; refine (cal_months _ _).mono ?_; rintro e w1 ⟨rfl, hb⟩; obtain ⟨hc, hf⟩ := bcell hb) | (go_at_call 26; refine (cal_before _ _ (by omega) (by omega)).mono ?_; rintro e w' ⟨rfl, rfl⟩))
  go_loop [9, 47] (fun n i => ∃ k : Nat, (k : Int) ≤ m - 1 ∧ i = .int .i64 k ∧ n = .int .i64 (dby y + cum y ((k : Int) + 1) + d - 1)) (fun _ i => (m - intOf i).toNat)
  case atStart => exact ⟨0, by omega, rfl, int_eq (by rw [show (((0 : Nat) : Int) + 1) = 1 from rfl, cum_1]; omega)⟩
  case round =>
    obtain ⟨k, hk2, rfl, rfl⟩ := hrel
    have hc' := cum_bd y ((k : Int) + 1) (by omega) (by omega)
    have hl' := len_bd y ((k : Int) + 1)
    by_cases hlt : (k : Int) < m - 1
    · have hs := Lib.hid (cum_succ y ((k : Int) + 1) (by omega) (by omega))
      have hck : ∀ W : World, (W.alloc (.cells (monthsC y) 40)).cell? ⟨W.heap.size, k, none⟩ = some (.int .i64 (lenI y ((k : Int) + 1))) := fun W => months_cell y W 40 k (by omega)
      go_wp2
      go_round
      case rel => exact ⟨k + 1, by omega, by go_num, int_eq (by rw [show (((k + 1 : Nat) : Int) + 1) = (k : Int) + 1 + 1 from by omega, hs.out]; omega)⟩
      case measure => simp [intOf]; omega
    · go_wp2
      go_ret2
      exact ⟨ret_tup2 (by rw [show (k : Int) + 1 = m from by omega]; unfold num; omega), hb.alloc hb.size _⟩

set_option maxHeartbeats 1000000 in
theorem cal_Day_f (y m d : Int) (w : World) (hv : ¬ vld y m d) :
    Calls Tryd.prog 15 #[.int .i64 y, .int .i64 m, .int .i64 d] w fun e w' => e = .returned (.tuple #[.int .i64 0, .int .i64 10]) ∧ Below w.heap.size w w' := by
  unfold vld at hv
  by_cases h12 : 1 ≤ y ∧ y ≤ 9999
  · have hyr := Lib.hid (yrB_t h12)
    by_cases h3 : 1 ≤ m
    · by_cases h4 : m ≤ 12
      · by_cases h5 : 1 ≤ d
        · have h6 : lenI y m < d := by omega
          clear hv
          have hcell : ∀ W : World, (W.alloc (.cells (monthsC y) 40)).cell? ⟨W.heap.size, m.toNat - 1, none⟩ = some (.int .i64 (lenI y m)) := fun W => by
            rw [months_cell y W 40 (m.toNat - 1) (by omega), show ((m.toNat - 1 : Nat) : Int) + 1 = m from by omega]
          clear h12
          go_enter Tryd.func15, Tryd.ntmps15
          go_wp2_with (first | (go_at_call 19; refine (cal_Leap _ _).mono ?_; rintro e w' ⟨rfl, rfl⟩) | (go_at_call 17; refine (cal_years _ _).mono ?_; rintro e w' ⟨rfl, rfl⟩; rw [hyr.out]) | (go_at_call 18; refine (cal_months _ _).mono ?_; rintro e w1 ⟨rfl, hb⟩; obtain ⟨hc, hf⟩ := bcell hb))
          go_ret2
          exact ⟨rfl, hb.alloc hb.size _⟩
        · clear hv h12
          go_enter Tryd.func15, Tryd.ntmps15
          go_wp2_with (first | (go_at_call 19; refine (cal_Leap _ _).mono ?_; rintro e w' ⟨rfl, rfl⟩) | (go_at_call 17; refine (cal_years _ _).mono ?_; rintro e w' ⟨rfl, rfl⟩; rw [hyr.out]) | (go_at_call 18; refine (cal_months _ _).mono ?_; rintro e w1 ⟨rfl, hb⟩; obtain ⟨hc, hf⟩ := bcell hb))
          go_ret2
          exact ⟨rfl, hb.alloc hb.size _⟩
      · clear hv h12
        go_enter Tryd.func15, Tryd.ntmps15
        go_wp2_with (first | (go_at_call 19; refine (cal_Leap _ _).mono ?_; rintro e w' ⟨rfl, rfl⟩) | (go_at_call 17; refine (cal_years _ _).mono ?_; rintro e w' ⟨rfl, rfl⟩; rw [hyr.out]) | (go_at_call 18; refine (cal_months _ _).mono ?_; rintro e w1 ⟨rfl, hb⟩; obtain ⟨hc, hf⟩ := bcell hb))
        go_ret2
        exact ⟨rfl, hb.alloc hb.size _⟩
    · clear hv h12
      go_enter Tryd.func15, Tryd.ntmps15
      go_wp2_with (first | (go_at_call 19; refine (cal_Leap _ _).mono ?_; rintro e w' ⟨rfl, rfl⟩) | (go_at_call 17; refine (cal_years _ _).mono ?_; rintro e w' ⟨rfl, rfl⟩; rw [hyr.out]) | (go_at_call 18; refine (cal_months _ _).mono ?_; rintro e w1 ⟨rfl, hb⟩; obtain ⟨hc, hf⟩ := bcell hb))
      go_ret2
      exact ⟨rfl, hb.alloc hb.size _⟩
  · have hyr := Lib.hid (yrB_f h12)
    clear hv h12
    go_enter Tryd.func15, Tryd.ntmps15
    go_wp2_with (first | (go_at_call 19; refine (cal_Leap _ _).mono ?_; rintro e w' ⟨rfl, rfl⟩) | (go_at_call 17; refine (cal_years _ _).mono ?_; rintro e w' ⟨rfl, rfl⟩; rw [hyr.out]) | (go_at_call 18; refine (cal_months _ _).mono ?_; rintro e w1 ⟨rfl, hb⟩; obtain ⟨hc, hf⟩ := bcell hb))
    go_ret2
    exact ⟨rfl, hb.alloc hb.size _⟩

theorem cal_Day (y m d : Int) (w : World) :
    Calls Tryd.prog 15 #[.int .i64 y, .int .i64 m, .int .i64 d] w fun e w' => e = .returned (.tuple #[.int .i64 (dayN y m d), .int .i64 (dayE y m d)]) ∧ Below w.heap.size w w' := by
  by_cases hv : vld y m d
  · rw [dayN, dayE, if_pos hv, if_pos hv]; exact cal_Day_t y m d w hv
  · rw [dayN, dayE, if_neg hv, if_neg hv]; exact cal_Day_f y m d w hv
end Go.Proofs.YtbgodionpdemeaaDoor
