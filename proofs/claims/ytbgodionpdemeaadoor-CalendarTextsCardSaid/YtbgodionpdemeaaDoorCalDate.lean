/- The calendar's Date, and the reference's. -/
import Derived.Test.YtbgodionpdemeaaDoorCalDay
import Derived.LoopN
set_option linter.unusedVariables false
set_option linter.unusedSimpArgs false
namespace Go.Proofs.YtbgodionpdemeaaDoor
open Go.RowKit Cal

theorem below_dn {B : Nat} {a w : World} (h : Below B a w) (n : Nat) : Below B a (w.drewN n) := ⟨h.os, h.tape, h.output, h.size, h.block⟩
theorem results_tmp4 {fn : Func} {t u v x : Tmp} (h : fn.results = #[.tmp t, .tmp u, .tmp v, .tmp x]) (tmps : Array Value) (P : Program) (w : World) :
    (results fn tmps).run P w = .ok (.tuple #[tmps.getD t undef, tmps.getD u undef, tmps.getD v undef, tmps.getD x undef]) w := by simp [results, h]

set_option maxHeartbeats 1000000 in
theorem cal_Date_f (n : Int) (w : World) (hv : ¬ (0 ≤ n ∧ n ≤ 3652058)) :
    Calls Tryd.prog 14 #[.int .i64 n] w fun e w' => e = .returned (.tuple #[.int .i64 0, .int .i64 0, .int .i64 0, .int .i64 2]) ∧ w = w' := by
  by_cases h0 : 0 ≤ n
  · have h1 : ¬ n ≤ 3652058 := by omega
    go_enter Tryd.func14, Tryd.ntmps14
    go_wp2
    refine bodyPost_ret (results_tmp4 rfl _ _ _) rfl ?_
    exact ⟨rfl, rfl⟩
  · go_enter Tryd.func14, Tryd.ntmps14
    go_wp2
    refine bodyPost_ret (results_tmp4 rfl _ _ _) rfl ?_
    exact ⟨rfl, rfl⟩

theorem index12 (y : Int) (k : Nat) (hk : k < 12) (W : World) : (Instr.index 40 (.agg (monthsC y)) (.int .i64 (k : Int))).run Tryd.prog W = .ok (.int .i64 (lenI y ((k : Int) + 1))) W := by
  have : k = 0 ∨ k = 1 ∨ k = 2 ∨ k = 3 ∨ k = 4 ∨ k = 5 ∨ k = 6 ∨ k = 7 ∨ k = 8 ∨ k = 9 ∨ k = 10 ∨ k = 11 := by omega
  rcases this with rfl | rfl | rfl | rfl | rfl | rfl | rfl | rfl | rfl | rfl | rfl | rfl <;> (clear hk; show Sem.run Tryd.prog _ W = Result.ok _ W; kernel_rfl)

set_option maxHeartbeats 1000000 in
theorem cal_Date_t (n y m d : Int) (w : World) (hv : vld y m d) (hn : num y m d = n) :
    Calls Tryd.prog 14 #[.int .i64 n] w fun e w' => e = .returned (.tuple #[.int .i64 y, .int .i64 m, .int .i64 d, .int .i64 0]) ∧ Below w.heap.size w w' := by
  have hb := num_bd hv
  have h0 : 0 ≤ n := by omega
  have h1 : n ≤ 3652058 := by omega
  have HN := Lib.hid hn
  clear hn hb
  obtain ⟨r1, hr1⟩ : ∃ x, n % 146097 = x := ⟨_, rfl⟩
  obtain ⟨k1, hk1⟩ : ∃ x, (if 3 < r1 / 36524 then (3 : Int) else r1 / 36524) = x := ⟨_, rfl⟩
  obtain ⟨r2, hr2⟩ : ∃ x, r1 - k1 * 36524 = x := ⟨_, rfl⟩
  obtain ⟨k2, hk2⟩ : ∃ x, r2 / 1461 = x := ⟨_, rfl⟩
  obtain ⟨r3, hr3⟩ : ∃ x, r2 - k2 * 1461 = x := ⟨_, rfl⟩
  obtain ⟨k3, hk3⟩ : ∃ x, (if 3 < r3 / 365 then (3 : Int) else r3 / 365) = x := ⟨_, rfl⟩
  obtain ⟨r4, hr4⟩ : ∃ x, r3 - k3 * 365 = x := ⟨_, rfl⟩
  obtain ⟨a, ha⟩ : ∃ x, n / 146097 = x := ⟨_, rfl⟩
  have bd := alg_ok n h0 h1 a r1 k1 r2 k2 r3 k3 r4 ha.symm hr1.symm (by rw [← hk1]; split <;> omega) hr2.symm (by rw [← hk1] at hr2; split at hr2 <;> omega) hr3.symm (by rw [← hk3]; split <;> omega) hr4.symm
  obtain ⟨ba0, ba1, br1, br1', bk1, bk1', br2, br2', bk2, bk2', br3, br3', bk3, bk3', br4, br4', e1, e2, e3, e4, e5, e6⟩ := bd
  have E1 := Lib.hid e1; have E5 := Lib.hid e5; have E6 := Lib.hid e6
  have E2 := Lib.hid hr2; have E3 := Lib.hid hr3; have E4 := Lib.hid hr4
  have hyr : 1 + a * 400 + k1 * 100 + k2 * 4 + k3 = y ∧ r4 = cum y m + d - 1 := by
    exact alg_year hv HN.out a k1 k2 k3 r4 h1 (by omega) ba0 ba1 bk1 bk1' bk2 bk2' bk3 bk3' br4 br4' e6 (by omega)
  obtain ⟨hy, hr⟩ := hyr
  have HR := Lib.hid hr
  clear e1 e2 e3 e4 e5 e6 hr
  have hy1 := hv.1
  have hy2 := hv.2.1
  have hm1 := hv.2.2.1
  have hm2 := hv.2.2.2.1
  have hd1 := hv.2.2.2.2.1
  have hd2 := hv.2.2.2.2.2
  clear hv
  have hld := len_bd y m
  have i0 : ∀ w, (Instr.index 51 (.agg #[.int .i64 36524, .int .i64 100, .int .i64 3, .int .i64 1461, .int .i64 4, .int .i64 24, .int .i64 365, .int .i64 1, .int .i64 3]) (.int .i64 0)).run Tryd.prog w = .ok (.agg #[.int .i64 36524, .int .i64 100, .int .i64 3]) w := fun _ => by kernel_rfl
  have i1 : ∀ w, (Instr.index 51 (.agg #[.int .i64 36524, .int .i64 100, .int .i64 3, .int .i64 1461, .int .i64 4, .int .i64 24, .int .i64 365, .int .i64 1, .int .i64 3]) (.int .i64 1)).run Tryd.prog w = .ok (.agg #[.int .i64 1461, .int .i64 4, .int .i64 24]) w := fun _ => by kernel_rfl
  have i2 : ∀ w, (Instr.index 51 (.agg #[.int .i64 36524, .int .i64 100, .int .i64 3, .int .i64 1461, .int .i64 4, .int .i64 24, .int .i64 365, .int .i64 1, .int .i64 3]) (.int .i64 2)).run Tryd.prog w = .ok (.agg #[.int .i64 365, .int .i64 1, .int .i64 3]) w := fun _ => by kernel_rfl
  go_enter Tryd.func14, Tryd.ntmps14
  go_wp2
  refine wp_loop_rounds 4 ?_
  rw [rounds_succ]
  go_wp2
  go_region
  go_wp2
  go_quiet (fail)
  go_wp2
  rw [rounds_succ]
  go_wp2
  go_region
  go_wp2
  go_quiet (fail)
  go_wp2
  rw [rounds_succ]
  go_wp2
  go_region
  go_wp2
  go_quiet (fail)
  go_wp2
  rw [rounds_succ]
  go_wp2_with (first | (go_at_call 19; refine (cal_Leap _ _).mono ?_; rintro e w' ⟨rfl, rfl⟩) | (go_at_call 18; refine (cal_months _ _).mono ?_; rintro e w1 ⟨rfl, hb⟩; obtain ⟨hc, hf⟩ := bcell hb))
  have hrv := HR.out
  have hcm := cum_bd y m hm1 (by omega)
  clear hr1 hk1 hr2 hk2 hr3 hk3 hr4 ha hy i0 i1 i2 E1 E5 E6 E2 E3 E4 hc hf hrv
  go_loop [0, 10, 55] (fun x mo i => ∃ k : Nat, (k : Int) ≤ m - 1 ∧ i = .int .i64 k ∧ mo = .int .i64 ((k : Int) + 1) ∧ x = .int .i64 (r4 - cum y ((k : Int) + 1))) (fun _ _ i => (m - intOf i).toNat)
  case atStart => exact ⟨0, by omega, rfl, rfl, int_eq (by rw [show (((0 : Nat) : Int) + 1) = 1 from rfl, cum_1]; omega)⟩
  case round =>
    obtain ⟨k, hk2, rfl, rfl, rfl⟩ := hrel
    have hix := fun W => index12 y k (by omega) W
    have hc' := cum_bd y ((k : Int) + 1) (by omega) (by omega)
    have hl' := len_bd y ((k : Int) + 1)
    by_cases hlt : (k : Int) < m - 1
    · have hs := Lib.hid (cum_succ y ((k : Int) + 1) (by omega) (by omega))
      have hge : lenI y ((k : Int) + 1) ≤ r4 - cum y ((k : Int) + 1) := by
        have := hs.out; have := cum_le y (a := (k : Int) + 1 + 1) (b := m) (by omega) (by omega) (by omega); have := HR.out; omega
      go_wp2
      go_round
      case rel => exact ⟨k + 1, by omega, by go_num, by go_num, int_eq (by rw [show (((k + 1 : Nat) : Int) + 1) = (k : Int) + 1 + 1 from by omega, hs.out]; omega)⟩
      case measure => simp [intOf]; omega
    · have hkm : (k : Int) + 1 = m := by omega
      have hlt2 : r4 - cum y ((k : Int) + 1) < lenI y ((k : Int) + 1) := by rw [hkm]; have := HR.out; omega
      have hlo : 0 ≤ r4 - cum y ((k : Int) + 1) := by rw [hkm]; have := HR.out; omega
      have HK := Lib.hid hkm
      clear hkm
      go_wp2
      refine bodyPost_ret (results_tmp4 rfl _ _ _) rfl ?_
      refine ⟨?_, ?_⟩
      · show Ending.returned (.tuple #[.int .i64 y, .int .i64 ((k : Int) + 1), .int .i64 (r4 - cum y ((k : Int) + 1) + 1), .int .i64 0]) = _
        have := HR.out; rw [HK.out, show r4 - cum y m + 1 = d from by omega]
      · exact (below_dn ((below_dn ((below_dn ((Below.refl _ _).alloc (Nat.le_refl _) _) _).alloc (by simp) _) _).alloc (by simp; omega) _) _).trans (hb.mono (by simp; omega))

set_option maxHeartbeats 1000000 in
theorem ref_Date_f (n : Int) (w : World) (hv : ¬ (0 ≤ n ∧ n ≤ 3652058)) :
    Calls Tryd.prog 20 #[.int .i64 n] w fun e w' => e = .returned (.tuple #[.int .i64 0, .int .i64 0, .int .i64 0, .int .i64 2]) ∧ w = w' := by
  by_cases h0 : 0 ≤ n
  · have h1 : ¬ n ≤ 3652058 := by omega
    go_enter Tryd.func20, Tryd.ntmps20
    go_wp2
    refine bodyPost_ret (results_tmp4 rfl _ _ _) rfl ?_
    exact ⟨rfl, rfl⟩
  · go_enter Tryd.func20, Tryd.ntmps20
    go_wp2
    refine bodyPost_ret (results_tmp4 rfl _ _ _) rfl ?_
    exact ⟨rfl, rfl⟩

theorem first_t (y : Int) (w : World) (h1 : 1 ≤ y) (h2 : y ≤ 9999) :
    Calls Tryd.prog 24 #[.int .i64 y, .int .i64 1, .int .i64 1] w fun e w' => e = .returned (.tuple #[.int .i64 (dby y), .int .i64 0]) ∧ w = w' := by
  have h := ref_Day_t y 1 1 w ⟨h1, h2, by omega, by omega, by omega, by have := len_bd y 1; omega⟩
  rw [show num y 1 1 = dby y from by unfold num; rw [cum_1]; omega] at h
  exact h
theorem first_f (y : Int) (w : World) (h2 : 9999 < y) :
    Calls Tryd.prog 24 #[.int .i64 y, .int .i64 1, .int .i64 1] w fun e w' => e = .returned (.tuple #[.int .i64 0, .int .i64 10]) ∧ w = w' :=
  ref_Day_f y 1 1 w (fun h => by have := h.2.1; omega)

set_option maxHeartbeats 1000000 in
theorem ref_Date_t (n y m d : Int) (w : World) (hv : vld y m d) (hn : num y m d = n) :
    Calls Tryd.prog 20 #[.int .i64 n] w fun e w' => e = .returned (.tuple #[.int .i64 y, .int .i64 m, .int .i64 d, .int .i64 0]) ∧ w = w' := by
  obtain ⟨b1, b2, b3, b4⟩ := num_bd hv
  rw [hn] at b1 b2 b3 b4
  obtain ⟨hy1, hy2, hm1, hm2, hd1, hd2⟩ := hv
  have hld := len_bd y m
  have hg : n / 366 + 1 ≤ y := by
    have : dby (y + 1) ≤ 366 * y := by unfold dby; omega
    omega
  have hr : n - dby y = cum y m + d - 1 := by unfold num at hn; omega
  have HR := Lib.hid hr
  have hcm := cum_bd y m hm1 (by omega)
  have hdb := dby_bd hy1 (by omega)
  clear hn hr
  go_enter Tryd.func20, Tryd.ntmps20
  go_wp2
  go_loop [6] (fun t => ∃ z : Int, 1 ≤ z ∧ z ≤ y ∧ t = .int .i64 z) (fun t => (9999 - intOf t).toNat)
  case atStart => exact ⟨_, by omega, hg, rfl⟩
  case round =>
    obtain ⟨z, hz1, hz2, rfl⟩ := hrel
    by_cases hlt : z < y
    · have hdz := dby_mono (a := z + 1) (b := y) (by omega) (by omega)
      have hle : dby (z + 1) ≤ n := by omega
      go_wp2_with (go_at_call 24; refine (first_t _ _ (by omega) (by omega)).mono ?_; rintro e w' ⟨rfl, rfl⟩)
      go_round
      case rel => exact ⟨z + 1, by omega, by omega, rfl⟩
      case measure => simp [intOf]; omega
    · obtain rfl : z = y := by omega
      clear hlt hz2
      by_cases h9 : z < 9999
      · go_wp2_with fail
        refine (first_t _ _ (by omega) (by omega)).mono ?_
        rintro e w' ⟨rfl, rfl⟩
        go_wp2_with fail
        refine (first_t _ _ (by omega) (by omega)).mono ?_
        rintro e w' ⟨rfl, rfl⟩
        go_wp2_with fail
        go_loop [11, 12] (fun mo x => ∃ k : Int, 1 ≤ k ∧ k ≤ m ∧ mo = .int .i64 k ∧ x = .int .i64 (n - dby z - cum z k)) (fun mo _ => (m - intOf mo).toNat)
        case atStart => exact ⟨1, by omega, by omega, rfl, int_eq (by rw [cum_1]; omega)⟩
        case round =>
          obtain ⟨k, hk1, hk2, rfl, rfl⟩ := hrel
          have hc' := cum_bd z k (by omega) (by omega)
          have hl' := len_bd z k
          by_cases hlt : k < m
          · have hs := Lib.hid (cum_succ z k (by omega) (by omega))
            have hge : lenI z k ≤ n - dby z - cum z k := by
              have := hs.out; have := cum_le z (a := k + 1) (b := m) (by omega) (by omega) (by omega); have := HR.out; omega
            go_wp2_with (go_at_call 29; refine (ref_length _ _ _ (by omega) (by omega)).mono ?_; rintro e w' ⟨rfl, rfl⟩)
            go_round
            case rel => exact ⟨k + 1, by omega, by omega, rfl, int_eq (by rw [hs.out]; omega)⟩
            case measure => simp [intOf]; omega
          · obtain rfl : k = m := by omega
            clear hlt hk2
            have hlt2 : n - dby z - cum z k < lenI z k := by have := HR.out; omega
            have hlo : 0 ≤ n - dby z - cum z k := by have := HR.out; omega
            go_wp2_with (go_at_call 29; refine (ref_length _ _ _ (by omega) (by omega)).mono ?_; rintro e w' ⟨rfl, rfl⟩)
            refine bodyPost_ret (results_tmp4 rfl _ _ _) rfl ?_
            refine ⟨?_, rfl⟩
            show Ending.returned (.tuple #[.int .i64 z, .int .i64 k, .int .i64 (n - dby z - cum z k + 1), .int .i64 0]) = _
            have := HR.out; rw [show n - dby z - cum z k + 1 = d from by omega]
      · go_wp2_with fail
        refine (first_f _ _ (by omega)).mono ?_
        rintro e w' ⟨rfl, rfl⟩
        go_wp2_with fail
        refine (first_t _ _ (by omega) (by omega)).mono ?_
        rintro e w' ⟨rfl, rfl⟩
        go_wp2_with fail
        go_loop [11, 12] (fun mo x => ∃ k : Int, 1 ≤ k ∧ k ≤ m ∧ mo = .int .i64 k ∧ x = .int .i64 (n - dby z - cum z k)) (fun mo _ => (m - intOf mo).toNat)
        case atStart => exact ⟨1, by omega, by omega, rfl, int_eq (by rw [cum_1]; omega)⟩
        case round =>
          obtain ⟨k, hk1, hk2, rfl, rfl⟩ := hrel
          have hc' := cum_bd z k (by omega) (by omega)
          have hl' := len_bd z k
          by_cases hlt : k < m
          · have hs := Lib.hid (cum_succ z k (by omega) (by omega))
            have hge : lenI z k ≤ n - dby z - cum z k := by
              have := hs.out; have := cum_le z (a := k + 1) (b := m) (by omega) (by omega) (by omega); have := HR.out; omega
            go_wp2_with (go_at_call 29; refine (ref_length _ _ _ (by omega) (by omega)).mono ?_; rintro e w' ⟨rfl, rfl⟩)
            go_round
            case rel => exact ⟨k + 1, by omega, by omega, rfl, int_eq (by rw [hs.out]; omega)⟩
            case measure => simp [intOf]; omega
          · obtain rfl : k = m := by omega
            clear hlt hk2
            have hlt2 : n - dby z - cum z k < lenI z k := by have := HR.out; omega
            have hlo : 0 ≤ n - dby z - cum z k := by have := HR.out; omega
            go_wp2_with (go_at_call 29; refine (ref_length _ _ _ (by omega) (by omega)).mono ?_; rintro e w' ⟨rfl, rfl⟩)
            refine bodyPost_ret (results_tmp4 rfl _ _ _) rfl ?_
            refine ⟨?_, rfl⟩
            show Ending.returned (.tuple #[.int .i64 z, .int .i64 k, .int .i64 (n - dby z - cum z k + 1), .int .i64 0]) = _
            have := HR.out; rw [show n - dby z - cum z k + 1 = d from by omega]

/-- What Date returns. -/
theorem cal_Date (n : Int) (w : World) :
    Calls Tryd.prog 14 #[.int .i64 n] w fun e w' => e = .returned (.tuple #[.int .i64 (dtY n), .int .i64 (dtM n), .int .i64 (dtD n), .int .i64 (dtE n)]) ∧ Below w.heap.size w w' := by
  by_cases h : okN n
  · obtain ⟨a, b⟩ := dt_ok h
    rw [dtE_ok h]
    exact cal_Date_t n _ _ _ w a b
  · rw [dtY_no h, dtM_no h, dtD_no h, dtE_no h]
    exact (cal_Date_f n w h).mono fun _ _ ⟨he, hw⟩ => ⟨he, hw ▸ Below.refl _ _⟩
theorem ref_Date (n : Int) (w : World) :
    Calls Tryd.prog 20 #[.int .i64 n] w fun e w' => e = .returned (.tuple #[.int .i64 (dtY n), .int .i64 (dtM n), .int .i64 (dtD n), .int .i64 (dtE n)]) ∧ w = w' := by
  by_cases h : okN n
  · obtain ⟨a, b⟩ := dt_ok h
    rw [dtE_ok h]
    exact ref_Date_t n _ _ _ w a b
  · rw [dtY_no h, dtM_no h, dtD_no h, dtE_no h]
    exact ref_Date_f n w h
end Go.Proofs.YtbgodionpdemeaaDoor
