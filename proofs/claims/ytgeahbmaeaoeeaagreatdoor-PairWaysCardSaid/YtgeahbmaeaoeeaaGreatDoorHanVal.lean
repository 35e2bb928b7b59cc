/- Contracts: which numbers are permitted primes and moduli, at primes. -/
import Derived.Test.YtgeahbmaeaoeeaaGreatDoorHanPass
set_option linter.unusedVariables false
set_option linter.unusedSimpArgs false
namespace Go.Proofs.YtgeahbmaeaoeeaaGreatDoor
open Go.RowKit Num

/-- The variable of the bases holds what the text lays in it. -/
def BasesOk (w : World) : Prop := w.cell? ⟨0, 0, none⟩ = some (.int .i64 2) ∧ w.cell? ⟨0, 1, none⟩ = some (.int .i64 3) ∧ w.cell? ⟨0, 2, none⟩ = some (.int .i64 5) ∧ w.cell? ⟨0, 3, none⟩ = some (.int .i64 7)

theorem prm_mod {p b : Nat} (hp : Prm p) (hb : Prm b) (h : p ≠ b) : p % b ≠ 0 := by
  intro h0
  rcases hp.2 b (Nat.dvd_of_mod_eq_zero h0) with e | e
  · have := hb.1; omega
  · exact h e.symm
theorem prm_pw {p b : Nat} (hp : Prm p) (hb : Prm b) (h : p ≠ b) (o : Nat) : pw p b o ≠ 0 := by
  have hnd : ¬ p ∣ b := fun hd => by
    rcases hb.2 p hd with e | e
    · have := hp.1; omega
    · exact h e
  induction o with
  | zero => rw [pw_zero, Nat.mod_eq_of_lt (by have := hp.1; omega)]; decide
  | succ o ih =>
    intro h0
    have hd : p ∣ b ^ (o + 1) := Nat.dvd_of_mod_eq_zero h0
    rw [Nat.pow_succ] at hd
    rcases prm_dvd hp hd with d | d
    · exact ih (Nat.mod_eq_zero_of_dvd d)
    · exact hnd d
theorem prm_2 : Prm 2 := prm_of (f := 0) (by decide) (by kernel_rfl) (by decide)
theorem prm_3 : Prm 3 := prm_of (f := 1) (by decide) (by kernel_rfl) (by decide)
theorem prm_5 : Prm 5 := prm_of (f := 1) (by decide) (by kernel_rfl) (by decide)
theorem prm_7 : Prm 7 := prm_of (f := 1) (by decide) (by kernel_rfl) (by decide)
theorem prm_nd {p b : Nat} (hp : Prm p) (hb : Prm b) (h : p ≠ b) : ¬ p ∣ b := fun hd => by
  rcases hb.2 p hd with e | e
  · have := hp.1; omega
  · exact h e
theorem prm_odd {p : Nat} (hp : Prm p) (h : 3 ≤ p) : p % 2 = 1 := by
  have := prm_mod hp prm_2 (by omega); omega

set_option maxHeartbeats 1000000 in
theorem f_Valid (p : Nat) (w : World) (hw : BasesOk w) (hp : Prm p) (h2 : p ≤ 1073741824) :
    Calls Tryz.prog 63 #[.int .i64 (p : Int)] w fun r w' => r = .returned (.bool true) ∧ w = w' := by
  obtain ⟨b0, b1, b2, b3⟩ := hw
  have h1 := hp.1
  have i0 : ∀ w, (Instr.index 139 (.agg #[.int .i64 2, .int .i64 3, .int .i64 5, .int .i64 7]) (.int .i64 0)).run Tryz.prog w = .ok (.int .i64 2) w := fun _ => by kernel_rfl
  have i1 : ∀ w, (Instr.index 139 (.agg #[.int .i64 2, .int .i64 3, .int .i64 5, .int .i64 7]) (.int .i64 1)).run Tryz.prog w = .ok (.int .i64 3) w := fun _ => by kernel_rfl
  have i2 : ∀ w, (Instr.index 139 (.agg #[.int .i64 2, .int .i64 3, .int .i64 5, .int .i64 7]) (.int .i64 2)).run Tryz.prog w = .ok (.int .i64 5) w := fun _ => by kernel_rfl
  have i3 : ∀ w, (Instr.index 139 (.agg #[.int .i64 2, .int .i64 3, .int .i64 5, .int .i64 7]) (.int .i64 3)).run Tryz.prog w = .ok (.int .i64 7) w := fun _ => by kernel_rfl
  by_cases e2 : p = 2
  · subst e2
    go_enter Tryz.func63, Tryz.ntmps63
    go_wp2
    refine wp_loop_rounds 4 ?_
    rw [rounds_succ]
    go_wp2
    go_ret
    exact ⟨rfl, rfl⟩
  have ho := prm_odd hp (by omega)
  have c2 : ((p : Int) == 2) = false := by rw [beq_eq_false_iff_ne]; omega
  have d2 : ((p : Int) % 2 == 0) = false := by rw [beq_eq_false_iff_ne]; omega
  have m2 := mr_prime hp (by omega) (prm_nd hp prm_2 e2)
  have z2 := prm_pw hp prm_2 e2
  by_cases e3 : p = 3
  · subst e3
    go_enter Tryz.func63, Tryz.ntmps63
    go_wp2
    refine wp_loop_rounds 4 ?_
    rw [rounds_succ]
    go_wp2_with fail
    refine (f_passes 3 2 _ (by omega) (by omega) (by decide) z2).mono ?_
    rintro e w' ⟨rfl, rfl⟩
    rw [m2]
    go_wp2
    rw [rounds_succ]
    go_wp2
    go_ret
    exact ⟨rfl, rfl⟩
  have c3 : ((p : Int) == 3) = false := by rw [beq_eq_false_iff_ne]; omega
  have d3 : ((p : Int) % 3 == 0) = false := by rw [beq_eq_false_iff_ne]; have := prm_mod hp prm_3 e3; omega
  have m3 := mr_prime hp (by omega) (prm_nd hp prm_3 e3)
  have z3 := prm_pw hp prm_3 e3
  by_cases e5 : p = 5
  · subst e5
    go_enter Tryz.func63, Tryz.ntmps63
    go_wp2
    refine wp_loop_rounds 4 ?_
    rw [rounds_succ]
    go_wp2_with fail
    refine (f_passes 5 2 _ (by omega) (by omega) (by decide) z2).mono ?_
    rintro e w' ⟨rfl, rfl⟩
    rw [m2]
    go_wp2
    rw [rounds_succ]
    go_wp2_with fail
    refine (f_passes 5 3 _ (by omega) (by omega) (by decide) z3).mono ?_
    rintro e w' ⟨rfl, rfl⟩
    rw [m3]
    go_wp2
    rw [rounds_succ]
    go_wp2
    go_ret
    exact ⟨rfl, rfl⟩
  have c5 : ((p : Int) == 5) = false := by rw [beq_eq_false_iff_ne]; omega
  have d5 : ((p : Int) % 5 == 0) = false := by rw [beq_eq_false_iff_ne]; have := prm_mod hp prm_5 e5; omega
  have m5 := mr_prime hp (by omega) (prm_nd hp prm_5 e5)
  have z5 := prm_pw hp prm_5 e5
  by_cases e7 : p = 7
  · subst e7
    go_enter Tryz.func63, Tryz.ntmps63
    go_wp2
    refine wp_loop_rounds 4 ?_
    rw [rounds_succ]
    go_wp2_with fail
    refine (f_passes 7 2 _ (by omega) (by omega) (by decide) z2).mono ?_
    rintro e w' ⟨rfl, rfl⟩
    rw [m2]
    go_wp2
    rw [rounds_succ]
    go_wp2_with fail
    refine (f_passes 7 3 _ (by omega) (by omega) (by decide) z3).mono ?_
    rintro e w' ⟨rfl, rfl⟩
    rw [m3]
    go_wp2
    rw [rounds_succ]
    go_wp2_with fail
    refine (f_passes 7 5 _ (by omega) (by omega) (by decide) z5).mono ?_
    rintro e w' ⟨rfl, rfl⟩
    rw [m5]
    go_wp2
    rw [rounds_succ]
    go_wp2
    go_ret
    exact ⟨rfl, rfl⟩
  have c7 : ((p : Int) == 7) = false := by rw [beq_eq_false_iff_ne]; omega
  have d7 : ((p : Int) % 7 == 0) = false := by rw [beq_eq_false_iff_ne]; have := prm_mod hp prm_7 e7; omega
  have m7 := mr_prime hp (by omega) (prm_nd hp prm_7 e7)
  have z7 := prm_pw hp prm_7 e7
  go_enter Tryz.func63, Tryz.ntmps63
  go_wp2
  refine wp_loop_rounds 5 ?_
  rw [rounds_succ]
  go_wp2_with fail
  refine (f_passes p 2 _ (by omega) (by omega) ho z2).mono ?_
  rintro e w' ⟨rfl, rfl⟩
  rw [m2]
  go_wp2
  rw [rounds_succ]
  go_wp2_with fail
  refine (f_passes p 3 _ (by omega) (by omega) ho z3).mono ?_
  rintro e w' ⟨rfl, rfl⟩
  rw [m3]
  go_wp2
  rw [rounds_succ]
  go_wp2_with fail
  refine (f_passes p 5 _ (by omega) (by omega) ho z5).mono ?_
  rintro e w' ⟨rfl, rfl⟩
  rw [m5]
  go_wp2
  rw [rounds_succ]
  go_wp2_with fail
  refine (f_passes p 7 _ (by omega) (by omega) ho z7).mono ?_
  rintro e w' ⟨rfl, rfl⟩
  rw [m7]
  go_wp2
  rw [rounds_succ]
  go_wp2
  go_ret
  exact ⟨rfl, rfl⟩

end Go.Proofs.YtgeahbmaeaoeeaaGreatDoor
