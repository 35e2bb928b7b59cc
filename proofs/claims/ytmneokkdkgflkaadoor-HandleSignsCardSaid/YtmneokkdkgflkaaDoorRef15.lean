/- Contracts: the reference's group. -/
import Derived.Test.YtmneokkdkgflkaaDoorHanModG
set_option linter.unusedVariables false
set_option linter.unusedSimpArgs false
namespace Go.Proofs.YtmneokkdkgflkaaDoor
open Go.RowKit Num Classical

set_option maxHeartbeats 600000 in
theorem r_ModulusG (p : Int) (w : World) : Calls Tryd.prog 24 #[.int .i64 p] w (ModPost p w) := by
  by_cases h1 : p < 3
  · obtain ⟨e1, e2⟩ := mod_no (fun h : SafeI p => by have := h.1; omega)
    unfold ModPost
    rw [e1, e2]
    have t1 : decide (p < 3) = true := decide_eq_true h1
    clear e1 e2
    go_enter Tryd.func24, Tryd.ntmps24
    go_wp2
    go_ret2
    exact ⟨rfl, rfl⟩
  · have t1 : decide (p < 3) = false := decide_eq_false h1
    by_cases h2 : VPrm p
    · have hv := fun W => r_ValidG p W
      rw [decide_eq_true h2] at hv
      obtain ⟨h3, h4, h5⟩ := h2
      obtain ⟨n, rfl⟩ := Int.eq_ofNat_of_zero_le (show 0 ≤ p by omega)
      rw [Int.toNat_natCast] at h5
      have ho := prm_odd h5 (by omega)
      obtain ⟨m, hm⟩ : ∃ m, 2 * n + 1 = m := ⟨_, rfl⟩
      have hyes : Prm m → modI (n : Int) = (m : Int) ∧ isSafe (n : Int) = true := fun h => by
        have := mod_yes (p := (n : Int)) ⟨by omega, ⟨by omega, by omega, by rwa [Int.toNat_natCast]⟩, by rw [Int.toNat_natCast, hm]; exact h⟩
        exact ⟨by rw [this.1]; omega, this.2⟩
      have hno : ¬ Prm m → modI (n : Int) = 0 ∧ isSafe (n : Int) = false := fun h => mod_no fun hs => h (by have := hs.2.2; rwa [Int.toNat_natCast, hm] at this)
      have hmm : (2 : Int) * (n : Int) + 1 = (m : Int) := by omega
      have hmo : m % 2 = 1 := by omega
      have m7 : 7 ≤ m := by omega
      have m9 : m ≤ 2147483647 := by omega
      have wm : IntKind.i64.wrap (2 * (n : Int) + 1) = (m : Int) := by rw [hmm]; exact IntWalk.i64_in _ ⟨by omega, by omega⟩
      have n4 : (n : Int) ≤ 1073741823 := by omega
      have HY := Lib.hid hyes
      have HN := Lib.hid hno
      have HV := Lib.hid hv
      have HMM := Lib.hid hmm
      clear hyes hno hv hmm hm h5 wm ho
      go_enter Tryd.func24, Tryd.ntmps24
      go_wp2_with fail
      rw [HMM.out]
      refine (HV.out _).mono ?_
      rintro e w' ⟨rfl, rfl⟩
      go_wp2_with fail
      go_loop [5] (fun i => ∃ d : Nat, 3 ≤ d ∧ d ≤ 46343 ∧ d % 2 = 1 ∧ i = .int .i64 d ∧ ∀ c, 2 ≤ c → c < d → m % c ≠ 0) (fun i => 46345 - (intOf i).toNat)
      case atStart => exact ⟨3, by omega, by omega, by omega, rfl, fun c h1 h2 => by
        have : c = 2 := by omega
        subst this; omega⟩
      case round =>
        obtain ⟨d, hd2, hd3, hdo, rfl, hall⟩ := hrel
        have sq : d * d ≤ 46343 * 46343 := Nat.mul_le_mul hd3 hd3
        have e1 : ((d : Int) * (d : Int)) = ((d * d : Nat) : Int) := (Int.natCast_mul d d).symm
        have b0 : (0 : Int) ≤ (d : Int) * (d : Int) := by omega
        have b1 : (d : Int) * (d : Int) ≤ 2147673649 := by omega
        have HA := Lib.hid hall
        clear hall
        by_cases hl : d * d ≤ m
        · have hdd : d ≤ 46340 := by
            rcases Nat.lt_or_ge 46340 d with h | h
            · have := Nat.mul_le_mul (show 46341 ≤ d by omega) (show 46341 ≤ d by omega); omega
            · exact h
          have hdp : d < m := by
            have : d * 2 ≤ d * d := Nat.mul_le_mul_left d (by omega)
            omega
          have t3 : decide ((d : Int) * (d : Int) ≤ (m : Int)) = true := decide_eq_true (by omega)
          by_cases hm : m % d = 0
          · have t4 : ((m : Int) % (d : Int) == 0) = true := by
              rw [← Int.natCast_emod, beq_iff_eq]; omega
            have HR := Lib.hid (HN.out (not_prm (by omega) hdp hm))
            clear e1 hm sq hl
            go_wp2_with fail
            go_ret2
            unfold ModPost
            rw [HR.out.1, HR.out.2]
            exact ⟨rfl, rfl⟩
          · have t4 : ((m : Int) % (d : Int) == 0) = false := by
              rw [← Int.natCast_emod]
              simp only [beq_eq_false_iff_ne]; omega
            have HM := Lib.hid hm
            have HDO := Lib.hid hdo
            have HMO := Lib.hid hmo
            clear e1 hm sq hl
            go_wp2_with fail
            go_round
            case rel => exact ⟨d + 2, by omega, by omega, by have := HDO.out; omega, by go_num, fun c h1 h2 => by
              rcases Nat.lt_or_ge c d with e | e
              · exact HA.out c h1 e
              · rcases Nat.eq_or_lt_of_le e with e | e
                · subst e; exact HM.out
                · have hc : c = d + 1 := by omega
                  subst hc
                  intro h0
                  have h3 : 2 ∣ m := Nat.dvd_trans (by have := HDO.out; omega) (Nat.dvd_of_mod_eq_zero h0)
                  have := HMO.out; omega⟩
            case measure => simp [intOf]; omega
        · have t3 : decide ((d : Int) * (d : Int) ≤ (m : Int)) = false := decide_eq_false (by omega)
          have HR := Lib.hid (HY.out (prm_lt (by omega) HA.out (by omega)))
          clear e1 sq hl
          go_wp2_with fail
          go_ret2
          unfold ModPost
          rw [HR.out.1, HR.out.2]
          exact ⟨rfl, rfl⟩
    · obtain ⟨e1, e2⟩ := mod_no (fun h : SafeI p => h2 h.2.1)
      unfold ModPost
      rw [e1, e2]
      have hv := fun W => r_ValidG p W
      rw [decide_eq_false h2] at hv
      have HV := Lib.hid hv
      clear hv e1 e2 h2
      go_enter Tryd.func24, Tryd.ntmps24
      go_wp2_with fail
      refine (HV.out _).mono ?_
      rintro e w' ⟨rfl, rfl⟩
      go_wp2_with fail
      go_ret2
      exact ⟨rfl, rfl⟩
def IPost (a : Int) (w : World) (e : Ending) (w' : World) : Prop := e = .returned (.int .i64 a) ∧ w = w'
set_option maxHeartbeats 600000 in
theorem r_power (m x e : Nat) (w : World) (h1 : 2 ≤ m) (h2 : m ≤ 2147483648) (hx : x < 2147483648) (he : e < 9223372036854775808) :
    Calls Tryd.prog 60 #[.int .i64 (m : Int), .int .i64 (x : Int), .int .i64 (e : Int)] w (IPost (pw m x e : Int) w) := by
  go_enter Tryd.func60, Tryd.ntmps60
  go_wp2
  go_loop [7, 1, 2] (fun o y t => ∃ o' x' t' : Nat, o = .int .i64 o' ∧ y = .int .i64 x' ∧ t = .int .i64 t' ∧ o' < m ∧ x' < 2147483648 ∧ t' < 9223372036854775808 ∧ o' * x' ^ t' % m = pw m x e) (fun _ _ t => (intOf t).toNat)
  case atStart => exact ⟨1, x, e, rfl, rfl, rfl, by omega, hx, he, by rw [Nat.one_mul]; rfl⟩
  case round =>
    obtain ⟨o', x', t', rfl, rfl, rfl, ho', hx', ht', hr⟩ := hrel
    have hR := Lib.hid hr
    clear hr
    have ha := Lib.hid (and_1 t' ht')
    have hs := Nat.mod_lt (x' * x') (show 0 < m by omega)
    have hs2 := Nat.mod_lt (o' * x') (show 0 < m by omega)
    have q1 := mul_bd hx' hx' (Nat.le_refl _)
    have q2 := mul_bd (show o' < 2147483648 by omega) hx' (Nat.le_refl _)
    have E1 := Lib.hid (cast_mul_mod x' x' m)
    have E2 := Lib.hid (cast_mul_mod o' x' m)
    by_cases h0 : 0 < t'
    · rcases Nat.mod_two_eq_zero_or_one t' with hp | hp
      · have c : (bits .and .i64 (t' : Int) 1 == 1) = false := by rw [ha.out, hp]; rfl
        go_wp2
        go_round
        case rel => exact ⟨o', x' * x' % m, t' / 2, by go_num, by congr 1, by go_num, ho', by omega, by omega, by rw [step_even m o' x' t' hp]; exact hR.out⟩
        case measure => simp [intOf]; omega
      · have c : (bits .and .i64 (t' : Int) 1 == 1) = true := by rw [ha.out, hp]; rfl
        go_wp2
        go_round
        case rel => exact ⟨o' * x' % m, x' * x' % m, t' / 2, by congr 1, by congr 1, by go_num, by omega, by omega, by omega, by rw [step_odd m o' x' t' hp]; exact hR.out⟩
        case measure => simp [intOf]; omega
    · have h0' : t' = 0 := by omega
      subst h0'
      go_wp2
      go_ret
      exact ⟨ret_int (by have := hR.out; rw [Nat.pow_zero, Nat.mul_one, Nat.mod_eq_of_lt ho'] at this; rw [← this]), rfl⟩
theorem r_powerI (m x : Nat) (e : Int) (w : World) (h1 : 2 ≤ m) (h2 : m ≤ 2147483648) (hx : x < 2147483648) (h0 : 0 ≤ e) (he : e < 9223372036854775808) :
    Calls Tryd.prog 60 #[.int .i64 (m : Int), .int .i64 (x : Int), .int .i64 e] w (IPost (pw m x e.toNat : Int) w) := by
  obtain ⟨n, rfl⟩ := Int.eq_ofNat_of_zero_le h0
  exact r_power m x n w h1 h2 hx (by omega)
set_option maxHeartbeats 600000 in
theorem r_MemberG (p x : Int) (w : World) : Calls Tryd.prog 26 #[.int .i64 p, .int .i64 x] w (RB (memI p x) w) := by
  have hm := fun W => r_ModulusG p W
  unfold ModPost at hm
  by_cases hs : SafeI p
  · obtain ⟨h1, h2⟩ := hs.sprm
    obtain ⟨e1, e2⟩ := mod_yes hs
    rw [e1, e2] at hm
    unfold memI
    rw [e2, Bool.true_and]
    obtain ⟨n, rfl⟩ := Int.eq_ofNat_of_zero_le (show 0 ≤ p by have := hs.1; omega)
    rw [Int.toNat_natCast] at h1 ⊢
    have n3 := h1.2.2.1
    have n4 := h1.2.2.2
    have HM := Lib.hid hm
    clear hm hs h1 h2 e1 e2
    by_cases h3 : 1 ≤ x
    · have t1 : decide (1 ≤ x) = true := decide_eq_true h3
      by_cases h4 : x < 2 * (n : Int) + 1
      · have t2 : decide (x < 2 * (n : Int) + 1) = true := decide_eq_true h4
        obtain ⟨z, rfl⟩ := Int.eq_ofNat_of_zero_le (show 0 ≤ x by omega)
        rw [← inG_n (p := n) (m := 2 * n + 1) (show 0 < z by omega) (show z < 2 * n + 1 by omega)]
        have hp := fun W => r_powerI (2 * n + 1) z (n : Int) W (by omega) (by omega) (by omega) (by omega) (by omega)
        simp only [Int.toNat_natCast, show ((2 * n + 1 : Nat) : Int) = 2 * (n : Int) + 1 by omega] at hp
        have HP := Lib.hid hp
        clear hp
        go_enter Tryd.func26, Tryd.ntmps26
        go_wp2_with fail
        refine (HM.out _).mono ?_
        rintro e w' ⟨rfl, rfl⟩
        go_wp2_with fail
        refine (HP.out _).mono ?_
        rintro e w' ⟨rfl, rfl⟩
        go_wp2_with fail
        go_ret
        exact ⟨rfl, rfl⟩
      · have t2 : decide (x < 2 * (n : Int) + 1) = false := decide_eq_false h4
        rw [inG_f (by omega)]
        go_enter Tryd.func26, Tryd.ntmps26
        go_wp2_with fail
        refine (HM.out _).mono ?_
        rintro e w' ⟨rfl, rfl⟩
        go_wp2_with fail
        go_ret
        exact ⟨rfl, rfl⟩
    · have t1 : decide (1 ≤ x) = false := decide_eq_false h3
      rw [inG_f (by omega)]
      go_enter Tryd.func26, Tryd.ntmps26
      go_wp2_with fail
      refine (HM.out _).mono ?_
      rintro e w' ⟨rfl, rfl⟩
      go_wp2_with fail
      go_ret
      exact ⟨rfl, rfl⟩
  · obtain ⟨e1, e2⟩ := mod_no hs
    rw [e1, e2] at hm
    unfold memI
    rw [e2, Bool.false_and]
    have HM := Lib.hid hm
    clear hm hs e1 e2
    go_enter Tryd.func26, Tryd.ntmps26
    go_wp2_with fail
    refine (HM.out _).mono ?_
    rintro e w' ⟨rfl, rfl⟩
    go_wp2_with fail
    go_ret
    exact ⟨rfl, rfl⟩
theorem elem_eq (p : Nat) (n : Int) (h1 : 1 ≤ p) : ((n.tmod (p : Int)) + (p : Int)).tmod (p : Int) = n % (p : Int) := by
  have a1 := Int.tmod_lt_of_pos n (b := (p : Int)) (by omega)
  have a2 : -(p : Int) < n.tmod (p : Int) := Int.lt_tmod_of_pos n (by omega)
  rw [Int.tmod_eq_emod_of_nonneg (by omega), Int.add_emod_right]
  have h3 : n = (p : Int) * n.tdiv p + n.tmod p := (Int.mul_tdiv_add_tmod n p).symm
  conv => rhs; rw [h3]
  rw [Int.add_comm, Int.add_mul_emod_self_left]
set_option maxHeartbeats 400000 in
theorem r_Element (p : Nat) (n : Int) (w : World) (h1 : 1 ≤ p) (h2 : p ≤ 2147483648) :
    Calls Tryd.prog 61 #[.int .i64 (p : Int), .int .i64 n] w (IPost (n % p) w) := by
  have a1 := Int.tmod_lt_of_pos n (b := (p : Int)) (by omega)
  have a2 : -(p : Int) < n.tmod (p : Int) := Int.lt_tmod_of_pos n (by omega)
  have E := Lib.hid (elem_eq p n h1)
  go_enter Tryd.func61, Tryd.ntmps61
  go_wp2
  go_ret
  refine ⟨ret_int ?_, rfl⟩
  rw [← Int.tmod_eq_emod_of_nonneg (by omega)]
  exact E.out
set_option maxHeartbeats 400000 in
theorem r_PowerG (p x : Nat) (e : Int) (w : World) (h0 : 1 ≤ p) (h2 : p ≤ 1073741823) (hx : x < 2147483648) :
    Calls Tryd.prog 28 #[.int .i64 (p : Int), .int .i64 (x : Int), .int .i64 e] w (IPost (pw (2 * p + 1) x (e % p).toNat : Int) w) := by
  have h3 := Int.emod_nonneg e (show (p : Int) ≠ 0 by omega)
  have h4 := Int.emod_lt_of_pos e (show 0 < (p : Int) by omega)
  have hp := fun W => r_powerI (2 * p + 1) x (e % p) W (by omega) (by omega) hx h3 (by omega)
  simp only [show ((2 * p + 1 : Nat) : Int) = 2 * (p : Int) + 1 by omega] at hp
  have HP := Lib.hid hp
  clear hp
  go_enter Tryd.func28, Tryd.ntmps28
  go_wp2_with fail
  refine (r_Element p e _ h0 (by omega)).mono ?_
  rintro r w' ⟨rfl, rfl⟩
  go_wp2_with fail
  refine (HP.out _).mono ?_
  rintro r w' ⟨rfl, rfl⟩
  go_wp2_with fail
  go_ret
  exact ⟨rfl, rfl⟩
set_option maxHeartbeats 400000 in
theorem r_TimesG (p a b : Nat) (w : World) (h2 : p ≤ 1073741823) (ha : a < 2147483648) (hb : b < 2147483648) :
    Calls Tryd.prog 30 #[.int .i64 (p : Int), .int .i64 (a : Int), .int .i64 (b : Int)] w (IPost ((a * b % (2 * p + 1) : Nat) : Int) w) := by
  have hm := mul_bd ha hb (Nat.le_refl _)
  have E := Lib.hid (cast_mul_mod a b (2 * p + 1))
  have e2 : ((2 * p + 1 : Nat) : Int) = 2 * (p : Int) + 1 := by omega
  have E2 := Lib.hid e2
  clear e2
  go_enter Tryd.func30, Tryd.ntmps30
  go_wp2
  go_ret
  refine ⟨ret_int ?_, rfl⟩
  have := E.out
  rw [E2.out] at this
  exact this
set_option maxHeartbeats 400000 in
theorem r_InvertG (p x : Nat) (w : World) (h0 : 2 ≤ p) (h2 : p ≤ 1073741823) (hx : x < 2147483648) :
    Calls Tryd.prog 32 #[.int .i64 (p : Int), .int .i64 (x : Int)] w (IPost (pw (2 * p + 1) x (p - 1) : Int) w) := by
  have hp := fun W => r_powerI (2 * p + 1) x ((p : Int) - 1) W (by omega) (by omega) hx (by omega) (by omega)
  simp only [show ((2 * p + 1 : Nat) : Int) = 2 * (p : Int) + 1 by omega, show ((p : Int) - 1).toNat = p - 1 by omega] at hp
  have HP := Lib.hid hp
  clear hp
  go_enter Tryd.func32, Tryd.ntmps32
  go_wp2_with fail
  refine (HP.out _).mono ?_
  rintro r w' ⟨rfl, rfl⟩
  go_wp2_with fail
  go_ret
  exact ⟨rfl, rfl⟩
end Go.Proofs.YtmneokkdkgflkaaDoor
