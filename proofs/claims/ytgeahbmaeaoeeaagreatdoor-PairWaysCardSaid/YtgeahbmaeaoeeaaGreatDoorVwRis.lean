/- Contracts: numbers that ascend in a range; powers modulo 1000003. -/
import Derived.Test.YtgeahbmaeaoeeaaGreatDoorVwMem
import Derived.Test.YtgeahbmaeaoeeaaGreatDoorOrSlot
set_option linter.unusedVariables false
set_option linter.unusedSimpArgs false
namespace Go.Proofs.YtgeahbmaeaoeeaaGreatDoor
open Go.RowKit Num

/-- Numbers that strictly ascend, all in a range. -/
def RisP (L : List Int) (lo hi : Int) : Prop := ∀ i, i < L.length → (lo ≤ L.getD i 0 ∧ L.getD i 0 ≤ hi) ∧ (0 < i → L.getD (i - 1) 0 < L.getD i 0)
set_option maxRecDepth 100000 in
set_option maxHeartbeats 1000000 in
theorem g_Rising (v : Value) (L : List Int) (S : Nat → Prop) (lo hi : Int) (w : World) (hv : IntsAt w S v L) (hl : L.length ≤ 1000000) :
    Calls Tryz.prog 73 #[v, .int .i64 lo, .int .i64 hi] w fun e w' => (∃ b : Bool, e = .returned (.bool b) ∧ (b = true ↔ RisP L lo hi)) ∧ w = w' := by
  obtain ⟨A, n, ca, rfl, hn, hnc, hcc⟩ := id hv
  have hn1 : n ≤ 1000000 := by omega
  have HCC := Lib.hid hcc
  have HN := Lib.hid hn
  clear hv hn hcc hl
  go_enter Tryz.func73, Tryz.ntmps73
  go_wp2_with fail
  go_loopw [11] (fun t wr => ∃ i : Nat, i ≤ n ∧ t = .int .i64 i ∧ (∀ j, j < i → (lo ≤ L.getD j 0 ∧ L.getD j 0 ≤ hi) ∧ (0 < j → L.getD (j - 1) 0 < L.getD j 0)) ∧ w = wr) (fun t _ => n - (intOf t).toNat)
  case atStart => exact ⟨0, by omega, rfl, fun j hj => absurd hj (Nat.not_lt_zero j), rfl⟩
  case round =>
    obtain ⟨i, hin, rfl, hz, rfl⟩ := hrel
    have HZ := Lib.hid hz
    clear hz
    by_cases hlt : i < n
    · obtain ⟨b, off, rfl, _, hc⟩ := HCC.out (by omega)
      have cx := hc i hlt
      have cy := fun (h0 : 0 < i) => hc (i - 1) (by omega)
      obtain ⟨x, hx⟩ : ∃ x, L.getD i 0 = x := ⟨_, rfl⟩
      rw [hx] at cx
      have HX := Lib.hid hx
      have qi : (i : Int) < (n : Int) := by omega
      have qi0 : (0 : Int) ≤ (i : Int) := by omega
      have HIN := fun W => o_In x lo hi W
      clear hx hc
      have no : ∀ P : Prop, (P → ¬ ((lo ≤ x ∧ x ≤ hi) ∧ (0 < i → L.getD (i - 1) 0 < x))) → P → (false = true ↔ RisP L lo hi) := fun P h p => ⟨fun h0 => (by cases h0), fun h2 => (by have h3 := h2 i (by rw [← HN.out]; exact hlt); rw [HX.out] at h3; exact absurd h3 (h p))⟩
      have NO := Lib.hid no
      clear no
      by_cases h1 : lo ≤ x ∧ x ≤ hi
      · have hin2 := fun W => o_InT x lo hi W h1
        have H1 := Lib.hid h1
        have HIT := Lib.hid hin2
        clear HIN hin2 h1
        rcases Nat.eq_zero_or_pos i with h0 | h0
        · have g0 : ¬ (0 : Int) < (i : Int) := by omega
          have I0 := Lib.hid h0
          clear cy h0
          go_wp2_with fail
          refine (HIT.out _).mono ?_
          rintro e w' ⟨rfl, rfl⟩
          go_wp2_with fail
          go_roundw
          case measure => simp [intOf]; omega
          case rel => exact ⟨i + 1, by omega, by go_num, (fun j hj => by
            have hi0 := I0.out
            rw [show j = i by omega, HX.out]; exact ⟨H1.out, fun h => (by omega)⟩), trivial⟩
        · have cz := cy h0
          clear cy
          obtain ⟨y, hy⟩ : ∃ y, L.getD (i - 1) 0 = y := ⟨_, rfl⟩
          rw [hy] at cz
          have HY := Lib.hid hy
          have g0 : (0 : Int) < (i : Int) := by omega
          have g1 : (0 : Int) ≤ (i : Int) - 1 := by omega
          have g2 : (i : Int) - 1 < (n : Int) := by omega
          clear hy
          by_cases h2 : x ≤ y
          · have H2 := Lib.hid h2
            have t2 : decide (x ≤ y) = true := decide_eq_true h2
            clear h2
            go_wp2_with fail
            refine (HIT.out _).mono ?_
            rintro e w' ⟨rfl, rfl⟩
            go_wp2_with fail
            go_ret
            exact ⟨⟨false, rfl, NO.out (x ≤ y) (fun h c => by have := c.2 h0; rw [HY.out] at this; omega) H2.out⟩, rfl⟩
          · have H2 := Lib.hid h2
            have t2 : decide (x ≤ y) = false := decide_eq_false h2
            clear h2
            go_wp2_with fail
            refine (HIT.out _).mono ?_
            rintro e w' ⟨rfl, rfl⟩
            go_wp2_with fail
            go_roundw
            case measure => simp [intOf]; omega
            case rel => exact ⟨i + 1, by omega, by go_num, (fun j hj => by
              rcases Nat.lt_or_ge j i with h | h
              · exact HZ.out j h
              · rw [show j = i by omega, HX.out, HY.out]
                have := H2.out
                exact ⟨H1.out, fun _ => by omega⟩), trivial⟩
      · have hin2 := fun W => (by
          have := o_In x lo hi W
          rwa [decide_eq_false h1] at this)
        have H1 := Lib.hid h1
        have HIT := Lib.hid hin2
        clear HIN hin2 h1 cy
        go_wp2_with fail
        refine (HIT.out _).mono ?_
        rintro e w' ⟨rfl, rfl⟩
        go_wp2_with fail
        go_ret
        exact ⟨⟨false, rfl, NO.out (¬ (lo ≤ x ∧ x ≤ hi)) (fun h c => h c.1) H1.out⟩, rfl⟩
    · have hi' : i = n := by omega
      subst hi'
      have hr : RisP L lo hi := fun j hj => HZ.out j (by rw [HN.out]; exact hj)
      have HR := Lib.hid hr
      clear hr
      go_wp2_with fail
      go_ret
      exact ⟨⟨true, rfl, fun _ => HR.out, fun _ => rfl⟩, rfl⟩
theorem step_evenM (m o x t : Nat) (h : t % 2 = 0) : o * (x * x % m) ^ (t / 2) % m = o * x ^ t % m := step_even m o x t h
set_option maxHeartbeats 400000 in
theorem q_power (x e : Nat) (w : World) (hx : x < 1073741825) (he : e < 9223372036854775808) :
    Calls Tryz.prog 29 #[.int .i64 (x : Int), .int .i64 (e : Int)] w fun r w' => r = .returned (.int .i64 (pw 1000003 x e : Int)) ∧ w = w' := by
  go_enter Tryz.func29, Tryz.ntmps29
  have hxm : (x : Int).tmod 1000003 = ((x % 1000003 : Nat) : Int) := by rw [Int.tmod_eq_emod_of_nonneg (by omega)]; rfl
  have hxl := Nat.mod_lt x (show 0 < 1000003 by omega)
  have hpw : 1 * (x % 1000003) ^ e % 1000003 = pw 1000003 x e := by rw [Nat.one_mul]; exact (Nat.pow_mod x e 1000003).symm
  obtain ⟨x0, hx0⟩ : ∃ x0, x % 1000003 = x0 := ⟨_, rfl⟩
  rw [hx0] at hxm hxl hpw
  have HPW := Lib.hid hpw
  clear hx0 hpw
  go_wp2
  go_loop [5, 0, 1] (fun o y t => ∃ o' x' t' : Nat, o = .int .i64 o' ∧ y = .int .i64 x' ∧ t = .int .i64 t' ∧ o' < 1000003 ∧ x' < 1000003 ∧ t' < 9223372036854775808 ∧ o' * x' ^ t' % 1000003 = pw 1000003 x e) (fun _ _ t => (intOf t).toNat)
  case atStart => exact ⟨1, x0, e, rfl, rfl, rfl, by omega, hxl, he, HPW.out⟩
  case round =>
    obtain ⟨o', x', t', rfl, rfl, rfl, ho', hx', ht', hr⟩ := hrel
    have hR := Lib.hid hr
    clear hr
    have s1 : o' * x' < 1000003 * 1000003 := Nat.mul_lt_mul'' ho' hx'
    have s2 : x' * x' < 1000003 * 1000003 := Nat.mul_lt_mul'' hx' hx'
    have e1 : (o' : Int) * (x' : Int) = ((o' * x' : Nat) : Int) := (Int.natCast_mul _ _).symm
    have e2 : (x' : Int) * (x' : Int) = ((x' * x' : Nat) : Int) := (Int.natCast_mul _ _).symm
    have w1 : IntKind.i64.wrap ((o' : Int) * (x' : Int)) = (o' : Int) * (x' : Int) := wraps_i64_63 _ (by omega) (by omega)
    have w2 : IntKind.i64.wrap ((x' : Int) * (x' : Int)) = (x' : Int) * (x' : Int) := wraps_i64_63 _ (by omega) (by omega)
    have m1 : ((o' : Int) * (x' : Int)).tmod 1000003 = ((o' * x' % 1000003 : Nat) : Int) := by rw [e1, Int.tmod_eq_emod_of_nonneg (by omega)]; rfl
    have m2 : ((x' : Int) * (x' : Int)).tmod 1000003 = ((x' * x' % 1000003 : Nat) : Int) := by rw [e2, Int.tmod_eq_emod_of_nonneg (by omega)]; rfl
    have l1 := Nat.mod_lt (o' * x') (show 0 < 1000003 by omega)
    have l2 := Nat.mod_lt (x' * x') (show 0 < 1000003 by omega)
    have se := step_even 1000003 o' x' t'
    have so := step_odd 1000003 o' x' t'
    generalize o' * x' % 1000003 = a at *
    generalize x' * x' % 1000003 = b at *
    have SE := Lib.hid se
    have SO := Lib.hid so
    clear e1 e2 s1 s2 se so
    by_cases h0 : 0 < t'
    · rcases Nat.mod_two_eq_zero_or_one t' with hp | hp
      · have c : (((t' : Int).tmod 2) == 1) = false := by rw [Int.tmod_eq_emod_of_nonneg (by omega)]; simp; omega
        go_wp2_with fail
        go_round
        case rel => exact ⟨o', b, t' / 2, by go_num, by go_num, by go_num, ho', by omega, by omega, by rw [SE.out hp]; exact hR.out⟩
        case measure => simp [intOf]; omega
      · have c : (((t' : Int).tmod 2) == 1) = true := by rw [Int.tmod_eq_emod_of_nonneg (by omega)]; simp; omega
        go_wp2_with fail
        go_round
        case rel => exact ⟨a, b, t' / 2, by go_num, by go_num, by go_num, by omega, by omega, by omega, by rw [SO.out hp]; exact hR.out⟩
        case measure => simp [intOf]; omega
    · have h0' : t' = 0 := by omega
      subst h0'
      go_wp2
      go_ret
      exact ⟨ret_int (by have := hR.out; rw [Nat.pow_zero, Nat.mul_one, Nat.mod_eq_of_lt ho'] at this; rw [← this]), rfl⟩
end Go.Proofs.YtgeahbmaeaoeeaaGreatDoor
