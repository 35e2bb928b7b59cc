/- Contracts: moduli and members at any number, the program's and the reference's. -/
import Derived.Test.YtmneokkdkgflkaaDoorHanNo
set_option linter.unusedVariables false
set_option linter.unusedSimpArgs false
namespace Go.Proofs.YtmneokkdkgflkaaDoor
open Go.RowKit Num Classical

/-- A permitted safe prime. -/
def SafeI (p : Int) : Prop := 3 ≤ p ∧ VPrm p ∧ Prm (2 * p.toNat + 1)
theorem SafeI.sprm {p : Int} (h : SafeI p) : SPrm p.toNat ∧ ((p.toNat : Nat) : Int) = p := by
  obtain ⟨h1, ⟨h2, h3, h4⟩, h5⟩ := h
  refine ⟨⟨h4, h5, by omega, ?_⟩, by omega⟩
  have := prm_odd h4 (by omega)
  omega
noncomputable def modI (p : Int) : Int := if SafeI p then 2 * p + 1 else 0
noncomputable def isSafe (p : Int) : Bool := decide (SafeI p)
def IntR (p : Int) : Prop := -9223372036854775808 ≤ p ∧ p < 9223372036854775808
def ModPost (p : Int) (w : World) (e : Ending) (w' : World) : Prop := e = .returned (.tuple #[.int .i64 (modI p), .bool (isSafe p)]) ∧ w = w'
theorem mod_yes {p : Int} (h : SafeI p) : modI p = 2 * p + 1 ∧ isSafe p = true := by
  unfold modI isSafe
  rw [if_pos h, decide_eq_true h]; exact ⟨rfl, rfl⟩
theorem mod_no {p : Int} (h : ¬ SafeI p) : modI p = 0 ∧ isSafe p = false := by
  unfold modI isSafe
  rw [if_neg h, decide_eq_false h]; exact ⟨rfl, rfl⟩
set_option maxHeartbeats 400000 in
theorem h_ModulusG (p : Int) (w : World) (hw : BasesOk w) (hr : IntR p) : Calls Tryd.prog 23 #[.int .i64 p] w (ModPost p w) := by
  by_cases hs : SafeI p
  · obtain ⟨h1, h2⟩ := hs.sprm
    obtain ⟨e1, e2⟩ := mod_yes hs
    have := h_Modulus p.toNat w hw h1
    rw [h2, show ((2 * p.toNat + 1 : Nat) : Int) = 2 * p + 1 by omega] at this
    unfold ModPost
    rw [e1, e2]; exact this
  · obtain ⟨e1, e2⟩ := mod_no hs
    unfold ModPost
    rw [e1, e2]
    have hv := f_ValidG p w hw hr.1 hr.2
    by_cases h1 : p < 3
    · have t1 : decide (p < 3) = true := decide_eq_true h1
      clear hs hv hw hr
      go_enter Tryd.func23, Tryd.ntmps23
      go_wp2
      go_ret2
      exact ⟨rfl, rfl⟩
    · have t1 : decide (p < 3) = false := decide_eq_false h1
      by_cases h2 : VPrm p
      · have hpn : ¬ Prm (2 * p.toNat + 1) := fun h => hs ⟨by omega, h2, h⟩
        obtain ⟨h3, h4, h5⟩ := h2
        obtain ⟨n, rfl⟩ := Int.eq_ofNat_of_zero_le (show 0 ≤ p by omega)
        rw [Int.toNat_natCast] at hpn h5
        have ho := prm_odd h5 (by omega)
        rw [decide_eq_true (show VPrm (n : Int) from ⟨h3, h4, by rwa [Int.toNat_natCast]⟩)] at hv
        have hpr := fun W => h_primeN n (2 * n + 1) W h5 (by omega) (by omega) rfl hpn
        simp only [show ((2 * n + 1 : Nat) : Int) = 2 * (n : Int) + 1 by omega] at hpr
        have HV := Lib.hid hv
        have HPR := Lib.hid hpr
        clear hs hv hpr hw hr hpn
        go_enter Tryd.func23, Tryd.ntmps23
        go_wp2_with fail
        refine HV.out.mono ?_
        rintro e w' ⟨rfl, rfl⟩
        go_wp2_with fail
        refine (HPR.out _).mono ?_
        rintro e w' ⟨rfl, rfl⟩
        go_wp2_with fail
        go_ret2
        exact ⟨rfl, rfl⟩
      · rw [decide_eq_false h2] at hv
        have HV := Lib.hid hv
        clear hs hv hw hr
        go_enter Tryd.func23, Tryd.ntmps23
        go_wp2_with fail
        refine HV.out.mono ?_
        rintro e w' ⟨rfl, rfl⟩
        go_wp2_with fail
        go_ret2
        exact ⟨rfl, rfl⟩
set_option maxHeartbeats 400000 in
theorem h_ofN (p : Int) (w : World) (hw : BasesOk w) (hr : IntR p) (hs : ¬ SafeI p) :
    Calls Tryd.prog 58 #[.int .i64 p] w fun r w' => r = .returned (.tuple #[.agg #[.int .i64 p, .int .i64 0], .bool false]) ∧ Below w.heap.size w w' := by
  obtain ⟨e1, e2⟩ := mod_no hs
  have hm := fun o => h_ModulusG p (w.alloc o) (hw.alloc o) hr
  unfold ModPost at hm
  rw [e1, e2] at hm
  have HM := Lib.hid hm
  clear hs hm hw hr e1 e2
  go_enter Tryd.func58, Tryd.ntmps58
  go_wp2_with fail
  refine (HM.out _).mono ?_
  rintro e w' ⟨rfl, rfl⟩
  go_wp2_with fail
  exact bodyPost_ret (v := .tuple #[.agg #[.int .i64 p, .int .i64 0], .bool false]) (by simp [results, Tryd.results58, go_sem]) rfl ⟨rfl, (Below.refl _ _).alloc (Nat.le_refl _) _⟩
/-- Member, at any numbers. -/
noncomputable def memI (p x : Int) : Bool := isSafe p && inG p.toNat (2 * p.toNat + 1) x
def BPost (b : Bool) (w : World) (e : Ending) (w' : World) : Prop := e = .returned (.bool b) ∧ Below w.heap.size w w'
set_option maxHeartbeats 400000 in
theorem h_MemberG (p x : Int) (w : World) (hw : BasesOk w) (hr : IntR p) : Calls Tryd.prog 25 #[.int .i64 p, .int .i64 x] w (BPost (memI p x) w) := by
  by_cases hs : SafeI p
  · obtain ⟨h1, h2⟩ := hs.sprm
    obtain ⟨e1, e2⟩ := mod_yes hs
    have := h_Member p.toNat x w hw h1
    rw [h2] at this
    unfold BPost memI
    rw [e2, Bool.true_and]; exact this
  · obtain ⟨e1, e2⟩ := mod_no hs
    unfold BPost memI
    rw [e2, Bool.false_and]
    have ho := fun W hW => h_ofN p W hW hr hs
    have HO := Lib.hid ho
    have HW := Lib.hid hw
    have hw1 := fun o => hw.alloc o
    have HW1 := Lib.hid hw1
    clear hs ho hr e1 e2 hw hw1
    go_enter Tryd.func25, Tryd.ntmps25
    go_wp2_with fail
    refine (HO.out _ (by first | exact HW.out | exact HW1.out _)).mono ?_
    rintro e w1 ⟨rfl, hb⟩
    go_wp2_with fail
    go_ret
    exact ⟨rfl, hb.alloc hb.size _⟩
/-! ### The reference's -/
theorem prm_lt {n d : Nat} (h2 : 2 ≤ n) (h : ∀ c, 2 ≤ c → c < d → n % c ≠ 0) (hd : n < d * d) : Prm n := by
  apply Classical.byContradiction
  intro hnp
  obtain ⟨s, hs, k, hk⟩ := ex_prm n h2
  have hs2 := hs.1
  have hk1 : k ≠ 0 := by rintro rfl; omega
  have hk2 : k ≠ 1 := by rintro rfl; rw [Nat.mul_one] at hk; exact hnp (by rw [hk]; exact hs)
  have h1 : d ≤ s := by
    rcases Nat.lt_or_ge s d with h' | h'
    · exact absurd (by rw [hk]; exact Nat.mul_mod_right _ _) (h s hs2 h')
    · exact h'
  have h3 : d ≤ k := by
    rcases Nat.lt_or_ge k d with h' | h'
    · exact absurd (by rw [hk]; exact Nat.mul_mod_left _ _) (h k (by omega) h')
    · exact h'
  have := Nat.mul_le_mul h1 h3
  omega
theorem not_prm {n d : Nat} (h2 : 2 ≤ d) (hd : d < n) (h : n % d = 0) : ¬ Prm n := fun hp => by
  rcases hp.2 d (Nat.dvd_of_mod_eq_zero h) with e | e <;> omega
def RB (b : Bool) (w : World) (e : Ending) (w' : World) : Prop := e = .returned (.bool b) ∧ w = w'
set_option maxHeartbeats 400000 in
theorem r_ValidG (p : Int) (w : World) : Calls Tryd.prog 57 #[.int .i64 p] w (RB (decide (VPrm p)) w) := by
  by_cases h1 : p < 2
  · rw [decide_eq_false (fun h : VPrm p => by have := h.1; omega)]
    have t1 : decide (p < 2) = true := decide_eq_true h1
    go_enter Tryd.func57, Tryd.ntmps57
    go_wp2
    go_ret
    exact ⟨rfl, rfl⟩
  · have t1 : decide (p < 2) = false := decide_eq_false h1
    by_cases h2 : 1073741824 < p
    · rw [decide_eq_false (fun h : VPrm p => by have := h.2.1; omega)]
      have t2 : decide (1073741824 < p) = true := decide_eq_true h2
      go_enter Tryd.func57, Tryd.ntmps57
      go_wp2
      go_ret
      exact ⟨rfl, rfl⟩
    · have t2 : decide (1073741824 < p) = false := decide_eq_false h2
      obtain ⟨n, rfl⟩ := Int.eq_ofNat_of_zero_le (show 0 ≤ p by omega)
      obtain ⟨β, hβ⟩ : ∃ β, decide (VPrm (n : Int)) = β := ⟨_, rfl⟩
      rw [hβ]
      have hv : β = decide (Prm n) := by
        rw [← hβ, decide_eq_decide]
        unfold VPrm
        rw [Int.toNat_natCast]
        exact ⟨fun h => h.2.2, fun h => ⟨by omega, by omega, h⟩⟩
      have HV := Lib.hid hv
      clear hv hβ
      go_enter Tryd.func57, Tryd.ntmps57
      go_wp2_with fail
      go_loop [3] (fun i => ∃ d : Nat, 2 ≤ d ∧ d ≤ 32769 ∧ i = .int .i64 d ∧ ∀ c, 2 ≤ c → c < d → n % c ≠ 0) (fun i => 32769 - (intOf i).toNat)
      case atStart => exact ⟨2, by omega, by omega, rfl, fun c h1 h2 => by omega⟩
      case round =>
        obtain ⟨d, hd2, hd3, rfl, hall⟩ := hrel
        have sq : d * d ≤ 32769 * 32769 := Nat.mul_le_mul hd3 hd3
        have e1 : ((d : Int) * (d : Int)) = ((d * d : Nat) : Int) := (Int.natCast_mul d d).symm
        have b0 : (0 : Int) ≤ (d : Int) * (d : Int) := by omega
        have b1 : (d : Int) * (d : Int) ≤ 1073807361 := by omega
        have HA := Lib.hid hall
        clear hall
        by_cases hl : d * d ≤ n
        · have hdd : d ≤ 32768 := by
            rcases Nat.lt_or_ge 32768 d with h | h
            · have := Nat.mul_le_mul h h; omega
            · exact h
          have hdp : d < n := by
            have : d * 2 ≤ d * d := Nat.mul_le_mul_left d hd2
            omega
          have t3 : decide ((d : Int) * (d : Int) ≤ (n : Int)) = true := decide_eq_true (by omega)
          by_cases hm : n % d = 0
          · have t4 : ((n : Int) % (d : Int) == 0) = true := by
              rw [← Int.natCast_emod, beq_iff_eq]; omega
            have hres : β = false := by rw [HV.out]; exact decide_eq_false (not_prm hd2 hdp hm)
            have HR := Lib.hid hres
            clear e1 hm sq hl hres
            go_wp2_with fail
            go_ret
            rw [HR.out]
            exact ⟨rfl, rfl⟩
          · have t4 : ((n : Int) % (d : Int) == 0) = false := by
              rw [← Int.natCast_emod]
              simp only [beq_eq_false_iff_ne]; omega
            have HM := Lib.hid hm
            clear e1 hm sq hl
            go_wp2_with fail
            go_round
            case rel => exact ⟨d + 1, by omega, by omega, by go_num, fun c h1 h2 => by
              rcases Nat.eq_or_lt_of_le (Nat.le_of_lt_succ h2) with e | e
              · subst e; exact HM.out
              · exact HA.out c h1 e⟩
            case measure => simp [intOf]; omega
        · have t3 : decide ((d : Int) * (d : Int) ≤ (n : Int)) = false := decide_eq_false (by omega)
          have hres : β = true := by rw [HV.out]; exact decide_eq_true (prm_lt (by omega) HA.out (by omega))
          have HR := Lib.hid hres
          clear e1 sq hl hres
          go_wp2_with fail
          go_ret
          rw [HR.out]
          exact ⟨rfl, rfl⟩
end Go.Proofs.YtmneokkdkgflkaaDoor
