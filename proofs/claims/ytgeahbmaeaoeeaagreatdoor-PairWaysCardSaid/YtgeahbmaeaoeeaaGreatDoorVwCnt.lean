/- Contracts: how many elements bytes are. -/
import Derived.Test.YtgeahbmaeaoeeaaGreatDoorMkWid
set_option linter.unusedVariables false
set_option linter.unusedSimpArgs false
namespace Go.Proofs.YtgeahbmaeaoeeaaGreatDoor
open Go.RowKit Num

/-- How many elements so many bytes are. -/
def cntG (p n : Nat) : Nat := if widP p = 0 then 8 * n else n / widP p + min (n % widP p) 1
theorem cntG_zero (p : Nat) : cntG p 0 = 0 := by unfold cntG; split <;> simp
set_option maxRecDepth 100000 in
set_option maxHeartbeats 1000000 in
theorem p_CountG (p n : Nat) (w : World) (h2 : p ≤ 1073741824) (hn : n ≤ 1000000) :
    Calls Tryz.prog 28 #[.int .i64 (p : Int), .int .i64 (n : Int)] w (IntBelowM ((cntG p n : Nat) : Int) w) := by
  have hw := fun W => p_Width p W h2
  have hle := widP_le p
  unfold cntG
  obtain ⟨v, hv⟩ : ∃ v, widP p = v := ⟨_, rfl⟩
  rw [hv] at hw hle ⊢
  have HW := Lib.hid hw
  have t0 : decide ((n : Int) < 0) = false := decide_eq_false (by omega)
  clear hw hv
  rcases Nat.eq_zero_or_pos v with h0 | h0
  · subst h0
    have e : (8 * (n : Int)) = ((8 * n : Nat) : Int) := by omega
    have E := Lib.hid e
    clear e
    go_enter Tryz.func28, Tryz.ntmps28
    go_wp2_with fail
    refine (HW.out _).mono ?_
    rintro e w' ⟨rfl, rfl⟩
    go_wp2_with fail
    go_ret
    exact ⟨ret_int E.out, Below.refl _ _⟩
  · rw [if_neg (by omega)]
    have q0 : ¬ (v : Int) = 0 := by omega
    have q1 : ((v : Int) == 0) = false := by simp; omega
    have hd : (n : Int).tdiv (v : Int) = ((n / v : Nat) : Int) := by rw [Int.tdiv_eq_ediv_of_nonneg (by omega)]; rfl
    have hm : (n : Int).tmod (v : Int) = ((n % v : Nat) : Int) := by rw [Int.tmod_eq_emod_of_nonneg (by omega)]; rfl
    have hdl : n / v ≤ n := Nat.div_le_self n v
    have hml : n % v < v := Nat.mod_lt n h0
    have hmin : min ((n % v : Nat) : Int) 1 = ((min (n % v) 1 : Nat) : Int) := by omega
    generalize n / v = a at *
    generalize hbb : n % v = b at *
    have hs : (a : Int) + ((min b 1 : Nat) : Int) = ((a + min b 1 : Nat) : Int) := by omega
    generalize hcc : min b 1 = c at *
    have hc1 : c ≤ 1 := by omega
    have HS := Lib.hid hs
    clear hbb hcc hs
    go_enter Tryz.func28, Tryz.ntmps28
    go_wp2_with fail
    refine (HW.out _).mono ?_
    rintro e w' ⟨rfl, rfl⟩
    go_wp2_with fail
    go_region
    all_goals go_wp2_with fail
    all_goals
      go_ret
      exact ⟨ret_int (by have := HS.out; omega), (Below.refl _ _).drew⟩
end Go.Proofs.YtgeahbmaeaoeeaaGreatDoor
