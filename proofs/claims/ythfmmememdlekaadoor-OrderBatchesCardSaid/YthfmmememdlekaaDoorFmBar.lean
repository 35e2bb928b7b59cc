/- Contracts: bytes of words; kinds of terms; numbers between. -/
import Derived.Test.YthfmmememdlekaaDoorMem
import Derived.Test.YthfmmememdlekaaDoorFmPrs
set_option linter.unusedVariables false
set_option linter.unusedSimpArgs false
namespace Go.Proofs.YthfmmememdlekaaDoor
open Go.RowKit Num

def lowN (n : Nat) : Bool := decide (97 ≤ n) && decide (n ≤ 122)
def inWN (n : Nat) : Bool := lowN n || (decide (48 ≤ n) && decide (n ≤ 57)) || decide (n = 95)
theorem lowB_n (c : UInt8) : lowB c = lowN c.toNat := rfl
theorem inWB_n (c : UInt8) : inWB c = inWN c.toNat := by
  unfold inWB inWN
  rw [lowB_n]
  congr 1
  rw [Bool.eq_iff_iff]
  simp only [beq_iff_eq, decide_eq_true_eq]
  constructor
  · rintro rfl; rfl
  · intro h; exact UInt8.toNat_inj.1 h
set_option maxHeartbeats 1000000 in
theorem f_letter (n : Nat) (w : World) (hn : n < 256) :
    Calls Tryd.prog 22 #[.int .u8 (n : Int)] w fun e w' => e = .returned (.bool (lowN n)) ∧ w = w' := by
  by_cases h1 : 97 ≤ n
  · by_cases h2 : n ≤ 122
    · have e : lowN n = true := by simp [lowN, h1, h2]
      have d2 : decide ((n : Int) ≤ 122) = true := by simp; omega
      rw [e]
      go_enter Tryd.func22, Tryd.ntmps22
      go_wp2_with fail
      go_ret
      exact ⟨rfl, rfl⟩
    · have e : lowN n = false := by simp [lowN, h1, h2]
      have d2 : decide ((n : Int) ≤ 122) = false := by simp; omega
      rw [e]
      go_enter Tryd.func22, Tryd.ntmps22
      go_wp2_with fail
      go_ret
      exact ⟨rfl, rfl⟩
  · have e : lowN n = false := by simp [lowN, h1]
    rw [e]
    go_enter Tryd.func22, Tryd.ntmps22
    go_wp2_with fail
    go_ret
    exact ⟨rfl, rfl⟩
set_option maxHeartbeats 1000000 in
theorem f_inWord (n : Nat) (w : World) (hn : n < 256) :
    Calls Tryd.prog 25 #[.int .u8 (n : Int)] w fun e w' => e = .returned (.bool (inWN n)) ∧ w = w' := by
  cases hl : lowN n
  · by_cases h1 : 48 ≤ n
    · by_cases h2 : n ≤ 57
      · have e : inWN n = true := by simp [inWN, hl, h1, h2]
        rw [e]
        go_enter Tryd.func25, Tryd.ntmps25
        go_wp2_with (go_at_call 22; refine (f_letter _ _ hn).mono ?_; rintro e w' ⟨rfl, rfl⟩; rw [hl])
        go_ret
        exact ⟨rfl, rfl⟩
      · by_cases h3 : n = 95
        · subst h3
          go_enter Tryd.func25, Tryd.ntmps25
          go_wp2_with (go_at_call 22; refine (f_letter 95 _ hn).mono ?_; rintro e w' ⟨rfl, rfl⟩; rw [hl])
          go_ret
          exact ⟨rfl, rfl⟩
        · have e : inWN n = false := by simp [inWN, hl, h1, h2, h3]
          have q3 : ((n : Int) == 95) = false := by simp; omega
          have d2 : decide ((n : Int) ≤ 57) = false := by simp; omega
          rw [e]
          clear h3
          go_enter Tryd.func25, Tryd.ntmps25
          go_wp2_with (go_at_call 22; refine (f_letter _ _ hn).mono ?_; rintro e w' ⟨rfl, rfl⟩; rw [hl])
          go_ret
          exact ⟨rfl, rfl⟩
    · have e : inWN n = false := by simp [inWN, hl, h1]; omega
      have q3 : ((n : Int) == 95) = false := by simp; omega
      rw [e]
      go_enter Tryd.func25, Tryd.ntmps25
      go_wp2_with (go_at_call 22; refine (f_letter _ _ hn).mono ?_; rintro e w' ⟨rfl, rfl⟩; rw [hl])
      go_ret
      exact ⟨rfl, rfl⟩
  · have e : inWN n = true := by simp [inWN, hl]
    rw [e]
    go_enter Tryd.func25, Tryd.ntmps25
    go_wp2_with (go_at_call 22; refine (f_letter _ _ hn).mono ?_; rintro e w' ⟨rfl, rfl⟩; rw [hl])
    go_ret
    exact ⟨rfl, rfl⟩
set_option maxHeartbeats 1000000 in
theorem f_several (k : Int) (w : World) :
    Calls Tryd.prog 74 #[.int .i64 k] w fun e w' => e = .returned (.bool (severalB k)) ∧ w = w' := by
  by_cases h1 : k = 1
  · subst h1
    go_enter Tryd.func74, Tryd.ntmps74
    go_wp2_with fail
    go_ret
    exact ⟨rfl, rfl⟩
  · by_cases h2 : k = 2
    · subst h2
      go_enter Tryd.func74, Tryd.ntmps74
      go_wp2_with fail
      go_ret
      exact ⟨rfl, rfl⟩
    · have e : severalB k = false := by simp [severalB, h1, h2]
      have q1 : (k == 1) = false := by simpa using h1
      have q2 : (k == 2) = false := by simpa using h2
      rw [e]
      clear h1 h2
      go_enter Tryd.func74, Tryd.ntmps74
      go_wp2_with fail
      go_ret
      exact ⟨rfl, rfl⟩
set_option maxHeartbeats 1000000 in
theorem f_between (n t : Int) (w : World) :
    Calls Tryd.prog 92 #[.int .i64 n, .int .i64 t] w fun e w' => e = .returned (.bool (betwB n t)) ∧ w = w' := by
  by_cases h1 : 1 ≤ n
  · by_cases h2 : n ≤ t
    · have e : betwB n t = true := by simp [betwB, h1, h2]
      rw [e]
      go_enter Tryd.func92, Tryd.ntmps92
      go_wp2_with fail
      go_ret
      exact ⟨rfl, rfl⟩
    · have e : betwB n t = false := by simp [betwB, h1, h2]
      rw [e]
      go_enter Tryd.func92, Tryd.ntmps92
      go_wp2_with fail
      go_ret
      exact ⟨rfl, rfl⟩
  · have e : betwB n t = false := by simp [betwB, h1]
    rw [e]
    go_enter Tryd.func92, Tryd.ntmps92
    go_wp2_with fail
    go_ret
    exact ⟨rfl, rfl⟩
end Go.Proofs.YthfmmememdlekaaDoor
