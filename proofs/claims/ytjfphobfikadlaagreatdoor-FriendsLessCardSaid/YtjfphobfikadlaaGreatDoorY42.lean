/- Contracts of the reference: elements at any numbers, doubles, differences, powers and inverses, degrees, points. Contracts: the reference's weights of places; interpolation. -/
import Derived.Test.YtjfphobfikadlaaGreatDoorY26
import Derived.Test.YtjfphobfikadlaaGreatDoorY15
import Derived.Test.YtjfphobfikadlaaGreatDoorY41
import Derived.BigQuiet
import Derived.Test.YtjfphobfikadlaaGreatDoorY09
import Derived.Test.YtjfphobfikadlaaGreatDoorY36
set_option linter.unusedVariables false
set_option linter.unusedSimpArgs false
namespace Go.Proofs.YtjfphobfikadlaaGreatDoor
open Go.RowKit Num Classical

def IntEq (a : Int) (w : World) (e : Ending) (w' : World) : Prop := e = .returned (.int .i64 a) ∧ w = w'
set_option maxRecDepth 100000 in
set_option maxHeartbeats 1000000 in
theorem r_ElementsG (p : Int) (v : Value) (xs : List Int) (S : Nat → Prop) (w : World) (hv : IntsAt w S v xs) (hl : xs.length ≤ 1000000) :
    Calls Tryz.prog 78 #[.int .i64 p, v] w fun e w' => ∃ b : Bool, e = .returned (.bool b) ∧ (b = true ↔ (∀ i, i < xs.length → 0 ≤ xs.getD i 0 ∧ xs.getD i 0 < p) ∧ decide (VPrm p) = true) ∧ w = w' := by
  obtain ⟨A, n, ca, rfl, hn, hnc, hcc⟩ := id hv
  rw [← hn] at hl ⊢
  have HCC := Lib.hid hcc
  have hval := r_ValidG p w
  have HV := Lib.hid hval
  obtain ⟨val, hvv⟩ : ∃ val, decide (VPrm p) = val := ⟨_, rfl⟩
  rw [hvv] at HV ⊢
  clear hv hn hcc hval hvv
  go_enter Tryz.func78, Tryz.ntmps78
  go_wp2_with fail
  go_loopw [9] (fun t wr => ∃ i : Nat, i ≤ n ∧ t = .int .i64 i ∧ (∀ j, j < i → 0 ≤ xs.getD j 0 ∧ xs.getD j 0 < p) ∧ w = wr) (fun t _ => n - (intOf t).toNat)
  case atStart => exact ⟨0, by omega, rfl, fun j hj => absurd hj (Nat.not_lt_zero j), rfl⟩
  case round =>
    obtain ⟨i, hin, rfl, hz, rfl⟩ := hrel
    have HZ := Lib.hid hz
    clear hz
    by_cases hlt : i < n
    · obtain ⟨b, off, rfl, _, hc⟩ := HCC.out (by omega)
      have cx := hc i hlt
      obtain ⟨x, hx⟩ : ∃ x, xs.getD i 0 = x := ⟨_, rfl⟩
      rw [hx] at cx
      have HX := Lib.hid hx
      have qi : (i : Int) < (n : Int) := by omega
      have qi0 : (0 : Int) ≤ (i : Int) := by omega
      clear hx hc
      by_cases h0 : x < 0
      · have HE := Lib.hid h0
        have t1 : decide (x < 0) = true := decide_eq_true h0
        clear h0
        go_wp2_with fail
        go_ret
        exact ⟨false, rfl, ⟨fun h => by simp at h, fun h => absurd (h.1 i hlt).1 (by rw [HX.out]; have := HE.out; omega)⟩, rfl⟩
      · have t1 : decide (x < 0) = false := decide_eq_false h0
        by_cases h1 : p ≤ x
        · have HE := Lib.hid h1
          have t2 : decide (p ≤ x) = true := decide_eq_true h1
          clear h1 h0
          go_wp2_with fail
          go_ret
          exact ⟨false, rfl, ⟨fun h => by simp at h, fun h => absurd (h.1 i hlt).2 (by rw [HX.out]; have := HE.out; omega)⟩, rfl⟩
        · have HE := Lib.hid h1
          have HE0 := Lib.hid h0
          have t2 : decide (p ≤ x) = false := decide_eq_false h1
          clear h1 h0
          go_wp2_with fail
          go_roundw
          case measure => simp [intOf]; omega
          case rel => exact ⟨i + 1, by omega, by go_num, (fun j hj => by
            rcases Nat.lt_or_ge j i with h | h
            · exact HZ.out j h
            · rw [show j = i by omega, HX.out]
              have := HE.out
              have := HE0.out
              omega), by first | rfl | trivial⟩
    · have hi' : i = n := by omega
      subst hi'
      go_wp2_with fail
      refine HV.out.mono ?_
      rintro e w' ⟨rfl, rfl⟩
      go_wp2_with fail
      go_ret
      exact ⟨val, rfl, ⟨fun h => ⟨HZ.out, h⟩, fun h => h.2⟩, rfl⟩
set_option maxRecDepth 100000 in
set_option maxHeartbeats 1000000 in
theorem r_twice (v : Value) (xs : List Int) (S : Nat → Prop) (w : World) (hv : IntsAt w S v xs) (hl : xs.length ≤ 1000000) :
    Calls Tryz.prog 141 #[v] w fun e w' => ∃ b : Bool, e = .returned (.bool b) ∧ (b = false ↔ ∀ i j, i < xs.length → j < i → xs.getD j 0 ≠ xs.getD i 0) ∧ w = w' := by
  obtain ⟨i0, hi, hz0, hz1, hz2⟩ := info_parts infoI
  obtain ⟨A, n, ca, rfl, hn, hnc, hcc⟩ := id hv
  have hsl := fun (W : World) (i : Nat) (h : i ≤ ca) => run_slice_hi (P := Tryz.prog) W 24 3 i0 Tryz.underlying24 hi A n ca i h (i : Int) rfl
  have HSL := Lib.hid hsl
  have HCC := Lib.hid hcc
  rw [← hn] at hl ⊢
  clear hv hn hcc hsl
  go_enter Tryz.func141, Tryz.ntmps141
  go_wp2_with fail
  go_loopw [9] (fun t wr => ∃ i : Nat, i ≤ n ∧ t = .int .i64 i ∧ (∀ k j, k < i → j < k → xs.getD j 0 ≠ xs.getD k 0) ∧ w = wr) (fun t _ => n - (intOf t).toNat)
  case atStart => exact ⟨0, by omega, rfl, fun k j hk => absurd hk (Nat.not_lt_zero k), rfl⟩
  case round =>
    obtain ⟨i, hin, rfl, hz, rfl⟩ := hrel
    have HZ := Lib.hid hz
    clear hz
    by_cases hlt : i < n
    · obtain ⟨b, off, rfl, _, hc⟩ := HCC.out (by omega)
      have cx := hc i hlt
      have hsl := fun W => HSL.out W i (by omega)
      obtain ⟨x, hx⟩ : ∃ x, xs.getD i 0 = x := ⟨_, rfl⟩
      rw [hx] at cx
      have HX := Lib.hid hx
      have qi : (i : Int) < (n : Int) := by omega
      have qi0 : (0 : Int) ≤ (i : Int) := by omega
      have HC := Lib.hid hc
      clear hx hc
      go_wp2_with fail
      go_loopw [18] (fun t wr => ∃ j : Nat, j ≤ i ∧ t = .int .i64 j ∧ (∀ k, k < j → xs.getD k 0 ≠ x) ∧ w = wr) (fun t _ => i - (intOf t).toNat)
      case atStart => exact ⟨0, by omega, rfl, fun k hk => absurd hk (Nat.not_lt_zero k), rfl⟩
      case round =>
        obtain ⟨j, hji, rfl, hj, rfl⟩ := hrel
        have HJ := Lib.hid hj
        clear hj
        by_cases hlj : j < i
        · have cy := HC.out j (by omega)
          obtain ⟨y, hy⟩ : ∃ y, xs.getD j 0 = y := ⟨_, rfl⟩
          rw [hy] at cy
          have HY := Lib.hid hy
          have qj : (j : Int) < (i : Int) := by omega
          have qj0 : (0 : Int) ≤ (j : Int) := by omega
          clear hy
          by_cases hxy : x = y
          · have t0 : (x == y) = true := by simpa using hxy
            have HE := Lib.hid hxy
            clear hxy
            go_wp2_with fail
            go_ret
            exact ⟨true, rfl, ⟨fun h => by simp at h, fun h => absurd (HY.out.trans (HE.out.symm.trans HX.out.symm)) (h i j hlt hlj)⟩, rfl⟩
          · have t0 : (x == y) = false := by simpa using hxy
            have HE := Lib.hid hxy
            clear hxy
            go_wp2_with fail
            go_roundw
            case measure => simp [intOf]; omega
            case rel => exact ⟨j + 1, by omega, by go_num, (fun k hk => by
              rcases Nat.lt_or_ge k j with h | h
              · exact HJ.out k h
              · rw [show k = j by omega, HY.out]; exact fun e => HE.out e.symm), by first | rfl | trivial⟩
        · have hjj : j = i := by omega
          subst hjj
          go_wp2_with fail
          go_roundw
          case measure => simp [intOf]; omega
          case rel => exact ⟨j + 1, by omega, by go_num, (fun k q hk hq => by
            rcases Nat.lt_or_ge k j with h | h
            · exact HZ.out k q h hq
            · rw [show k = j by omega] at hq ⊢
              rw [HX.out]
              exact HJ.out q hq), by first | rfl | trivial⟩
    · have hi' : i = n := by omega
      subst hi'
      go_wp2_with fail
      go_ret
      exact ⟨false, rfl, ⟨fun _ => HZ.out, fun _ => rfl⟩, rfl⟩
set_option maxHeartbeats 400000 in
theorem r_SubI (p : Nat) (a b : Int) (w : World) (h1 : 1 ≤ p) (h2 : p ≤ 1073741824) (a0 : 0 ≤ a) (a1 : a < p) (b0 : 0 ≤ b) (b1 : b < p) :
    Calls Tryz.prog 142 #[.int .i64 (p : Int), .int .i64 a, .int .i64 b] w fun e w' => e = .returned (.int .i64 ((a - b) % (p : Int))) ∧ w = w' := by
  have e : (a - b + (p : Int)).tmod (p : Int) = (a - b) % (p : Int) := by rw [Int.tmod_eq_emod_of_nonneg (by omega), Int.add_emod_right]
  have e2 : (a - b + (p : Int)) % (p : Int) = (a - b) % (p : Int) := Int.add_emod_right _ _
  obtain ⟨z, hz⟩ : ∃ z, (a - b) % (p : Int) = z := ⟨_, rfl⟩
  rw [hz] at e e2 ⊢
  have hp0 : ¬ p = 0 := by omega
  have hp0' : ¬ (p : Int) = 0 := by omega
  clear hz
  go_enter Tryz.func142, Tryz.ntmps142
  go_wp2_with fail
  go_ret
  exact ⟨rfl, rfl⟩
set_option maxHeartbeats 1000000 in
/-- The power p - 2. -/
theorem r_Pow2 (p a : Nat) (w : World) (h3 : 3 ≤ p) (h2 : p ≤ 1073741824) (a0 : 0 < a) (a1 : a < p) :
    Calls Tryz.prog 196 #[.int .i64 (p : Int), .int .i64 (a : Int), .int .i64 ((p : Int) - 2)] w (IntEq (pw p a (p - 2) : Int) w) := by
  have t0 : (((p : Int) - 2) == 0) = false := by simp; omega
  have t1 : ((a : Int) == 0) = false := by simp; omega
  have e1 : ((p : Int) - 2) % ((p : Int) - 1) = (p : Int) - 2 := Int.emod_eq_of_lt (by omega) (by omega)
  have e1' : ((p : Int) - 2).tmod ((p : Int) - 1) = (p : Int) - 2 := by rw [Int.tmod_eq_emod_of_nonneg (by omega)]; exact e1
  have e2 : ((p : Int) - 2 + (p : Int) - 1) % ((p : Int) - 1) = (p : Int) - 2 := by
    rw [show (p : Int) - 2 + (p : Int) - 1 = (p : Int) - 2 + ((p : Int) - 1) by omega, Int.add_emod_right]; exact e1
  have e2' : ((p : Int) - 2 + (p : Int) - 1).tmod ((p : Int) - 1) = (p : Int) - 2 := by rw [Int.tmod_eq_emod_of_nonneg (by omega)]; exact e2
  have e3 : (1 : Int) % (p : Int) = 1 := Int.emod_eq_of_lt (by omega) (by omega)
  have e3' : (1 : Int).tmod (p : Int) = 1 := by rw [Int.tmod_eq_emod_of_nonneg (by omega)]; exact e3
  have hp1 : ¬ (p : Int) - 1 = 0 := by omega
  have hp0 : ¬ p = 0 := by omega
  have hp0' : ¬ (p : Int) = 0 := by omega
  go_enter Tryz.func196, Tryz.ntmps196
  go_wp2
  clear t0 t1 e1 e1' e2 e2' e3 e3'
  go_loop [8, 1, 7] (fun o y t => ∃ o' x' t' : Nat, o = .int .i64 o' ∧ y = .int .i64 x' ∧ t = .int .i64 t' ∧ o' < p ∧ x' < 2147483648 ∧ t' < 9223372036854775808 ∧ o' * x' ^ t' % p = pw p a (p - 2)) (fun _ _ t => (intOf t).toNat)
  case atStart => exact ⟨1, a, p - 2, rfl, rfl, by congr 1; omega, by omega, by omega, by omega, by rw [Nat.one_mul]; rfl⟩
  case round =>
    obtain ⟨o', x', t', rfl, rfl, rfl, ho', hx', ht', hr⟩ := hrel
    have hR := Lib.hid hr
    clear hr
    have ha := Lib.hid (and_1 t' ht')
    have hs := Nat.mod_lt (x' * x') (show 0 < p by omega)
    have hs2 := Nat.mod_lt (o' * x') (show 0 < p by omega)
    have q1 := mul_bd hx' hx' (Nat.le_refl _)
    have q2 := mul_bd (show o' < 2147483648 by omega) hx' (Nat.le_refl _)
    have E1 := Lib.hid (cast_mul_mod x' x' p)
    have E2 := Lib.hid (cast_mul_mod o' x' p)
    by_cases h0 : 0 < t'
    · rcases Nat.mod_two_eq_zero_or_one t' with hp | hp
      · have c : (bits .and .i64 (t' : Int) 1 == 1) = false := by rw [ha.out, hp]; rfl
        go_wp2
        go_round
        case rel => exact ⟨o', x' * x' % p, t' / 2, by go_num, by congr 1, by go_num, ho', by omega, by omega, by rw [step_even p o' x' t' hp]; exact hR.out⟩
        case measure => simp [intOf]; omega
      · have c : (bits .and .i64 (t' : Int) 1 == 1) = true := by rw [ha.out, hp]; rfl
        go_wp2
        go_round
        case rel => exact ⟨o' * x' % p, x' * x' % p, t' / 2, by congr 1, by congr 1, by go_num, by omega, by omega, by omega, by rw [step_odd p o' x' t' hp]; exact hR.out⟩
        case measure => simp [intOf]; omega
    · have h0' : t' = 0 := by omega
      subst h0'
      go_wp2
      go_ret
      exact ⟨ret_int (by have := hR.out; rw [Nat.pow_zero, Nat.mul_one, Nat.mod_eq_of_lt ho'] at this; rw [← this]), rfl⟩
set_option maxHeartbeats 400000 in
theorem r_Inverse (p : Nat) (a : Int) (w : World) (p2 : 2 ≤ p) (h2 : p ≤ 1073741824) (a0 : 0 < a) (a1 : a < p) :
    Calls Tryz.prog 163 #[.int .i64 (p : Int), .int .i64 a] w fun e w' => e = .returned (.tuple #[.int .i64 (invP p a), .int .i64 0]) ∧ w = w' := by
  obtain ⟨n, rfl⟩ := Int.eq_ofNat_of_zero_le (show 0 ≤ a by omega)
  have t1 : ((n : Int) == 0) = false := by simp; omega
  have hpow : Calls Tryz.prog 196 #[.int .i64 (p : Int), .int .i64 (n : Int), .int .i64 ((p : Int) - 2)] w (IntEq (invP p (n : Int)) w) := by
    unfold invP
    rw [Int.toNat_natCast]
    by_cases h3 : 3 ≤ p
    · exact r_Pow2 p n w h3 h2 (by omega) (by omega)
    · have hp : p = 2 := by omega
      subst hp
      have hn : n = 1 := by omega
      subst hn
      go_enter Tryz.func196, Tryz.ntmps196
      go_wp2
      go_ret
      exact ⟨rfl, rfl⟩
  have HP := Lib.hid hpow
  clear hpow
  go_enter Tryz.func163, Tryz.ntmps163
  go_wp2_with fail
  refine HP.out.mono ?_
  rintro e w' ⟨rfl, rfl⟩
  go_wp2_with fail
  go_ret2
  exact ⟨rfl, rfl⟩
end Go.Proofs.YtjfphobfikadlaaGreatDoor
namespace Go.Proofs.YtjfphobfikadlaaGreatDoor
open Go.RowKit Num

set_option maxRecDepth 100000 in
set_option maxHeartbeats 1000000 in
theorem r_places (v : Value) (xs : List Int) (S : Nat → Prop) (w : World) (hv : IntsAt w S v xs) (hl : xs.length ≤ 1000000) (hd : ∀ i j, i < xs.length → j < i → xs.getD j 0 ≠ xs.getD i 0) :
    Calls Tryz.prog 162 #[v] w fun e w' => e = .returned (.int .i64 0) ∧ w = w' := by
  obtain ⟨i0, hi, hz0, hz1, hz2⟩ := info_parts infoI
  obtain ⟨A, n, ca, rfl, hn, hnc, hcc⟩ := id hv
  have hsl := fun (W : World) (i : Nat) (h : i ≤ ca) => run_slice_hi (P := Tryz.prog) W 24 3 i0 Tryz.underlying24 hi A n ca i h (i : Int) rfl
  have HSL := Lib.hid hsl
  have HCC := Lib.hid hcc
  rw [← hn] at hl hd
  have HD := Lib.hid hd
  clear hv hn hcc hsl hd
  go_enter Tryz.func162, Tryz.ntmps162
  go_wp2_with fail
  go_loopw [9] (fun t wr => ∃ i : Nat, i ≤ n ∧ t = .int .i64 i ∧ w = wr) (fun t _ => n - (intOf t).toNat)
  case atStart => exact ⟨0, by omega, rfl, rfl⟩
  case round =>
    obtain ⟨i, hin, rfl, rfl⟩ := hrel
    by_cases hlt : i < n
    · obtain ⟨b, off, rfl, _, hc⟩ := HCC.out (by omega)
      have cx := hc i hlt
      have hsl := fun W => HSL.out W i (by omega)
      obtain ⟨x, hx⟩ : ∃ x, xs.getD i 0 = x := ⟨_, rfl⟩
      rw [hx] at cx
      have HX := Lib.hid hx
      have qi : (i : Int) < (n : Int) := by omega
      have qi0 : (0 : Int) ≤ (i : Int) := by omega
      have HC := Lib.hid hc
      clear hx hc
      go_wp2_with fail
      go_loopw [18] (fun t wr => ∃ j : Nat, j ≤ i ∧ t = .int .i64 j ∧ w = wr) (fun t _ => i - (intOf t).toNat)
      case atStart => exact ⟨0, by omega, rfl, rfl⟩
      case round =>
        obtain ⟨j, hji, rfl, rfl⟩ := hrel
        by_cases hlj : j < i
        · have cy := HC.out j (by omega)
          have hxy := HD.out i j hlt hlj
          obtain ⟨y, hy⟩ : ∃ y, xs.getD j 0 = y := ⟨_, rfl⟩
          rw [HX.out, hy] at hxy
          rw [hy] at cy
          have HY := Lib.hid hy
          have qj : (j : Int) < (i : Int) := by omega
          have qj0 : (0 : Int) ≤ (j : Int) := by omega
          have t0 : (x == y) = false := by simpa using fun e => hxy e.symm
          clear hy hxy
          go_wp2_with fail
          go_roundw
          case measure => simp [intOf]; omega
          case rel => exact ⟨j + 1, by omega, by go_num, by first | rfl | trivial⟩
        · have hjj : j = i := by omega
          subst hjj
          go_wp2_with fail
          go_roundw
          case measure => simp [intOf]; omega
          case rel => exact ⟨j + 1, by omega, by go_num, by first | rfl | trivial⟩
    · have hi' : i = n := by omega
      subst hi'
      go_wp2_with fail
      go_ret
      exact ⟨rfl, rfl⟩
theorem distinct_apart {p : Nat} {f : Nat → Int} {n : Nat} (hb : ∀ k, k < n → 0 ≤ f k ∧ f k < p) (hd : ∀ i j, i < n → j < i → f j ≠ f i) : ApartN p f n := by
  intro i j hi hj hij h
  have bi := hb i hi
  have bj := hb j hj
  have := Int.eq_zero_of_dvd_of_natAbs_lt_natAbs h (by omega)
  rcases Nat.lt_or_gt_of_ne hij with g | g
  · exact hd j i hj g (by omega)
  · exact hd i j hi g (by omega)
def wtsK (p : Nat) (f : Nat → Int) (n : Nat) (x : Int) (k : Nat) : List Int := (List.range k).map fun i => wt p f n i x
theorem wtsK_next (p : Nat) (f : Nat → Int) (n : Nat) (x : Int) (k : Nat) : wtsK p f n x (k + 1) = wtsK p f n x k ++ [wt p f n k x] := by
  unfold wtsK; rw [List.range_succ, List.map_append]; rfl
theorem mulmod_bd {p : Nat} {a u : Int} (h2 : p ≤ 1073741824) (a0 : 0 ≤ a) (a1 : a < p) (u0 : 0 ≤ u) (u1 : u < p) : 0 ≤ a * u ∧ a * u < 1152921504606846977 ∧ (a * u).tmod p = a * u % p := by
  have h0 := Int.mul_nonneg a0 u0
  refine ⟨h0, ?_, Int.tmod_eq_emod_of_nonneg h0⟩
  obtain ⟨a, rfl⟩ := Int.eq_ofNat_of_zero_le a0
  obtain ⟨u, rfl⟩ := Int.eq_ofNat_of_zero_le u0
  have : a * u ≤ 1073741824 * 1073741824 := Nat.mul_le_mul (by omega) (by omega)
  rw [← Int.natCast_mul]; omega
set_option maxRecDepth 100000 in
set_option maxHeartbeats 4000000 in
theorem r_Weights (p : Nat) (v : Value) (xs : List Int) (S : Nat → Prop) (x : Int) (w : World) (hp : Prm p) (h2 : p ≤ 1073741824) (hv : IntsAt w S v xs) (hS : ∀ b, S b → b < w.heap.size) (h0 : 0 < xs.length) (hl : xs.length ≤ 1000)
    (hx0 : 0 ≤ x) (hx1 : x < p) (hxs : ∀ k, k < xs.length → 0 ≤ fOf xs k ∧ fOf xs k < p) (hd : ∀ i j, i < xs.length → j < i → fOf xs j ≠ fOf xs i) :
    Calls Tryz.prog 132 #[.int .i64 (p : Int), v, .int .i64 x] w (IntsPost2 (wts p xs x) w) := by
  have hp2 := hp.1
  obtain ⟨A, n, c, rfl, hn, hnc, hc⟩ := id hv
  obtain ⟨i0, hi, hz0, hz1, hz2⟩ := info_parts infoI
  have hpl := r_places _ xs S w hv (by omega) hd
  have hA := distinct_apart hxs hd
  have hn1 : n ≤ 1000 := by omega
  have hn0 : 0 < n := by omega
  have hwk : wts p xs x = wtsK p (fOf xs) n x n := by unfold wts wtsK; rw [hn]
  obtain ⟨b, off, rfl, hSb, hcell⟩ := hc (by omega)
  have hlt := hS b hSb
  obtain ⟨f, hf⟩ : ∃ f, fOf xs = f := ⟨_, rfl⟩
  have hcell2 : ∀ k, k < n → w.cell? ⟨b, off + k, none⟩ = some (.int .i64 (f k)) := fun k hk => by rw [← hf]; exact hcell k hk
  have e1 : (1 : Int) % (p : Int) = 1 := Int.emod_eq_of_lt (by omega) (by omega)
  have e1' : (1 : Int).tmod (p : Int) = 1 := by rw [Int.tmod_eq_emod_of_nonneg (by omega)]; exact e1
  have hw0 : ∀ i y, wA p f i y 0 = 1 := fun i y => e1
  have hp0 : ¬ p = 0 := by omega
  have hp0' : ¬ (p : Int) = 0 := by omega
  have t0 : ((n : Int) == 0) = false := by simp; omega
  rw [hwk, hf]
  rw [hf, ← hn] at hxs hA
  have HPL := Lib.hid hpl
  have HXS := Lib.hid hxs
  have HA := Lib.hid hA
  have HC := Lib.hid hcell2
  have HW0 := Lib.hid hw0
  clear hv hpl hxs hA hd hwk hcell hcell2 hc hn hw0 hf hS hSb e1
  go_enter Tryz.func132, Tryz.ntmps132
  go_wp2_with fail
  refine HPL.out.mono ?_
  rintro e w' ⟨rfl, rfl⟩
  go_wp2_with fail
  go_loopw [28, 9] (fun t o wr => ∃ i : Nat, i ≤ n ∧ t = .int .i64 (i : Int) ∧ wr.ownsRow w.heap.size 3 1 o i ((wtsK p f n x i).map (Value.int .i64)) ∧ Below w.heap.size w wr) (fun t _ _ => n - (intOf t).toNat)
  case atStart => exact ⟨0, by omega, rfl, World.ownsRow_nil _ _ _ _, Below.refl _ _⟩
  case round =>
    obtain ⟨i, hi1, rfl, hown, hbl⟩ := hrel
    have hzz := hbl.size
    by_cases hil : i < n
    · have ci := (hbl.cell (p := ⟨b, off + i, none⟩) hlt).trans (HC.out i hil)
      have bi := HXS.out i hil
      have qi : (i : Int) < (n : Int) := by omega
      have hlow : ¬ (p : Int) ∣ wA p f i (f i) n := by
        intro h
        have h1 := Cg.zero_iff.1 ((wA_cg p f i (f i) n).symm.trans (Cg.zero_iff.2 h))
        exact pbut_ne hp f i (f i) n (fun j hj hne => HA.out i j hil hj (fun e => hne e.symm)) h1
      have hnx := wtsK_next p f n x i
      have ewt : wt p f n i x = wA p f i x n * invP p (wA p f i (f i) n) % p := rfl
      rw [ewt] at hnx
      obtain ⟨y, hy⟩ : ∃ y, f i = y := ⟨_, rfl⟩
      rw [hy] at ci bi hlow hnx
      have HOWN := Lib.hid hown
      have HBL := Lib.hid hbl
      have HLOW := Lib.hid hlow
      have HNX := Lib.hid hnx
      have HY := Lib.hid hy
      clear hlow hnx ewt hy hown hbl
      go_wp2_with fail
      go_quiet (fail)
      go_wp2_with fail
      rename World => wo
      go_loopw [12, 13, 39] (fun a l t wq => ∃ k : Nat, k ≤ n ∧ t = .int .i64 k ∧ a = .int .i64 (wA p f i x k) ∧ l = .int .i64 (wA p f i y k) ∧ ∃ m, wq = wo.drewN m) (fun _ _ t _ => n - (intOf t).toNat)
      case atStart => exact ⟨0, by omega, rfl, by rw [HW0.out], by rw [HW0.out], _, rfl⟩
      case round =>
        obtain ⟨k, hk, rfl, rfl, rfl, m, hwn⟩ := hrel
        have ba := wA_bd p f i x (by omega) k
        have bl := wA_bd p f i y (by omega) k
        have sa : wA p f i x (k + 1) = if k = i then wA p f i x k else wA p f i x k * ((x - f k) % p) % p := rfl
        have sl : wA p f i y (k + 1) = if k = i then wA p f i y k else wA p f i y k * ((y - f k) % p) % p := rfl
        have SA := Lib.hid sa
        have SL := Lib.hid sl
        clear sa sl
        by_cases hl : k < n
        · have ck := (HBL.out.cell (p := ⟨b, off + k, none⟩) hlt).trans (HC.out k hl)
          have bk := HXS.out k hl
          have qk : (k : Int) < (n : Int) := by omega
          by_cases hki : k = i
          · subst hki
            go_wp2_with fail
            go_roundw
            case measure => simp [intOf]; omega
            case rel => exact ⟨k + 1, by omega, by go_num, by rw [SA.out, if_pos rfl], by rw [SL.out, if_pos rfl], _, rfl⟩
          · have t1 : ((i : Int) != (k : Int)) = true := by simp; omega
            have SA2 := SA.out
            have SL2 := SL.out
            rw [if_neg hki] at SA2 SL2
            obtain ⟨z, hz⟩ : ∃ z, f k = z := ⟨_, rfl⟩
            obtain ⟨a, ha⟩ : ∃ a, wA p f i x k = a := ⟨_, rfl⟩
            obtain ⟨l, hll⟩ : ∃ l, wA p f i y k = l := ⟨_, rfl⟩
            rw [hz] at ck bk SA2 SL2
            rw [ha] at ba SA2 ⊢
            rw [hll] at bl SL2 ⊢
            have u0 := Int.emod_nonneg (x - z) (show (p : Int) ≠ 0 by omega)
            have u1 := Int.emod_lt_of_pos (x - z) (show 0 < (p : Int) by omega)
            have v0 := Int.emod_nonneg (y - z) (show (p : Int) ≠ 0 by omega)
            have v1 := Int.emod_lt_of_pos (y - z) (show 0 < (p : Int) by omega)
            have hs1 := fun W => r_SubI p x z W (by omega) h2 hx0 hx1 bk.1 bk.2
            have hs2 := fun W => r_SubI p y z W (by omega) h2 bi.1 bi.2 bk.1 bk.2
            obtain ⟨u, hu⟩ : ∃ u, (x - z) % (p : Int) = u := ⟨_, rfl⟩
            obtain ⟨t, ht⟩ : ∃ t, (y - z) % (p : Int) = t := ⟨_, rfl⟩
            rw [hu] at u0 u1 hs1 SA2
            rw [ht] at v0 v1 hs2 SL2
            obtain ⟨m10, m11, m12⟩ := mulmod_bd h2 ba.1 ba.2 u0 u1
            obtain ⟨m20, m21, m22⟩ := mulmod_bd h2 bl.1 bl.2 v0 v1
            have HS1 := Lib.hid hs1
            have HS2 := Lib.hid hs2
            have SA3 := Lib.hid SA2
            have SL3 := Lib.hid SL2
            clear hz ha hll hu ht hs1 hs2 SA SL SA2 SL2
            go_wp2_with fail
            go_quiet ((first
              | (go_at_call 142; with_reducible exact quiet_add_left (HS1.out _))
              | (go_at_call 142; with_reducible exact quiet_add_left (HS2.out _))))
            go_wp2_with fail
            go_roundw
            case measure => simp [intOf]; omega
            case rel => exact ⟨k + 1, by omega, by go_num, by rw [SA3.out], by rw [SL3.out], _, rfl⟩
        · have hkn : k = n := by omega
          subst hkn
          have hpos : 0 < wA p f i y k := by
            rcases Int.lt_or_eq_of_le bl.1 with h | h
            · exact h
            · exact absurd (h ▸ Int.dvd_zero (p : Int)) HLOW.out
          have NX2 := HNX.out
          obtain ⟨a, ha⟩ : ∃ a, wA p f i x k = a := ⟨_, rfl⟩
          obtain ⟨l, hll⟩ : ∃ l, wA p f i y k = l := ⟨_, rfl⟩
          rw [ha] at ba NX2 ⊢
          rw [hll] at bl hpos NX2 ⊢
          have ib := invP_bd p l hp2
          have hinv := fun W => r_Inverse p l W hp2 h2 hpos bl.2
          obtain ⟨q, hq⟩ : ∃ q, invP p l = q := ⟨_, rfl⟩
          rw [hq] at ib hinv NX2
          obtain ⟨m10, m11, m12⟩ := mulmod_bd h2 ba.1 ba.2 ib.1 ib.2
          have HINV := Lib.hid hinv
          have NX3 := Lib.hid NX2
          have HWN := Lib.hid hwn
          clear ha hll hq hinv NX2 SA SL hwn
          go_wp2_with fail
          refine (HINV.out _).mono ?_
          rintro e w' ⟨rfl, rfl⟩
          obtain rfl := HWN.out
          clear HWN
          have hown := HOWN.out
          have hown1 : (wo.drewN m).ownsRow w.heap.size 3 1 u9 i ((wtsK p f k x i).map (Value.int .i64)) := hown
          have hbl1 : Below w.heap.size w (wo.drewN m) := ⟨HBL.out.os, HBL.out.tape, HBL.out.output, HBL.out.size, HBL.out.block⟩
          have HB1 := Lib.hid hbl1
          clear hown hbl1
          go_wp2_with (at_builtin; refine wpList_append_own _ rfl _ _ 24 rfl w.heap.size 3 i0 (.int .i64 0) 1 8 Tryz.underlying24 hi hz0 hz1 hz2 rfl (by decide) _ _ _ rfl (hown1.alloc _) ⟨(wo.drewN m).heap.size, 0, none⟩ 1 1 [.int .i64 (a * q % p)] rfl rfl (fun j u hj => by have := cell_one_new (wo.drewN m) (.int .i64 (a * q % p)) 3 j u hj; simpa using this) (ints_oneCell .i64 [_]) (by unfold maxLen; omega) (by omega) (by simp; omega) ?_)
          intro v' w5 hown' hgrow _
          have hg := grown_past hgrow
          have hown2 : w5.ownsRow w.heap.size 3 1 v' (i + 1) ((wtsK p f k x (i + 1)).map (Value.int .i64)) := by
            rw [NX3.out, List.map_append]; simpa using hown'
          have hul : ∀ g, (u9 : Value).ownBlock = some g → w.heap.size ≤ g := fun g hg => (hown1.lt g hg).1
          have HO5 := Lib.hid hown2
          have HB5 := Lib.hid (HB1.out.grown hg hzz hul)
          clear hown' hgrow hg hown2 hul hown1
          go_wp2_with fail
          go_roundw
          case measure => simp [intOf]; omega
          case rel => exact ⟨i + 1, by omega, by go_num, HO5.out, HB5.out⟩
    · have hii : i = n := by omega
      subst hii
      have HOWN := Lib.hid hown
      have HBL := Lib.hid hbl
      clear hown hbl
      go_wp2_with fail
      go_ret2
      have hok := HOWN.out
      have hok' : wr.ownsRow w.heap.size 3 1 u9 (wtsK p f i x i).length ((wtsK p f i x i).map (Value.int .i64)) := by
        rw [show (wtsK p f i x i).length = i by unfold wtsK; simp]; exact hok
      exact ⟨u9, rfl, IntsAt.of_own hok', HBL.out⟩
theorem wts_inF (p : Nat) (xs : List Int) (x : Int) (hp : 1 ≤ p) : InF p (wts p xs x) := by
  intro i hi
  have hl : (wts p xs x).length = xs.length := by unfold wts; simp
  rw [wts_get p xs x i (by omega)]
  unfold wt
  exact ⟨Int.emod_nonneg _ (by omega), Int.emod_lt_of_pos _ (by omega)⟩
set_option maxRecDepth 100000 in
set_option maxHeartbeats 4000000 in
theorem r_Interpolate (p : Nat) (v vy : Value) (xs ys : List Int) (S T : Nat → Prop) (x : Int) (w : World) (hp : Prm p) (h2 : p ≤ 1073741824) (hv : IntsAt w S v xs) (hS : ∀ b, S b → b < w.heap.size) (hvy : IntsAt w T vy ys) (hT : ∀ b, T b → b < w.heap.size)
    (h0 : 0 < xs.length) (hl : xs.length ≤ 1000) (hll : ys.length = xs.length) (hx0 : 0 ≤ x) (hx1 : x < p) (hxs : ∀ k, k < xs.length → 0 ≤ fOf xs k ∧ fOf xs k < p) (hd : ∀ i j, i < xs.length → j < i → fOf xs j ≠ fOf xs i) (hys : InF p ys) :
    Calls Tryz.prog 80 #[.int .i64 (p : Int), v, vy, .int .i64 x] w fun e w' => e = .returned (.tuple #[.int .i64 (wsum (fun j => wt p (fOf xs) xs.length j x) (fOf ys) xs.length % (p : Int)), .int .i64 0]) ∧ Below w.heap.size w w' := by
  have hp2 := hp.1
  have hw := fun W (hv' : IntsAt W S v xs) (hS' : ∀ b, S b → b < W.heap.size) => r_Weights p v xs S x W hp h2 hv' hS' h0 hl hx0 hx1 hxs hd
  have hwl : (wts p xs x).length = xs.length := by unfold wts; simp
  have hwF := wts_inF p xs x (by omega)
  have hres : wsum (fun j => wt p (fOf xs) xs.length j x) (fOf ys) xs.length = wsum (fOf (wts p xs x)) (fOf ys) xs.length := wsum_congrM _ (fun i hi => (wts_get p xs x i hi).symm)
  rw [hres]
  obtain ⟨ws, hws⟩ : ∃ ws, wts p xs x = ws := ⟨_, rfl⟩
  rw [hws] at hw hwl hwF ⊢
  have hw1 := hw w hv hS
  obtain ⟨A, n, c, rfl, hn, hnc, hcc⟩ := hv
  obtain ⟨A2, n2, c2, rfl, hn2, hnc2, hcc2⟩ := hvy
  have hnn : n2 = n := by omega
  subst hnn
  rw [← hn] at hwl hll ⊢
  have hn1 : n2 ≤ 1000 := by omega
  have hn0 : 0 < n2 := by omega
  obtain ⟨b2, off2, rfl, hT2, hcell2⟩ := hcc2 (by omega)
  have hlt2 := hT b2 hT2
  have t0 : ((n2 : Int) == 0) = false := by simp; omega
  have HW := Lib.hid hw1
  have HWL := Lib.hid hwl
  have HWF := Lib.hid hwF
  have HY := Lib.hid hys
  have HLL := Lib.hid hll
  have HC2 := Lib.hid hcell2
  have hp0 : ¬ p = 0 := by omega
  have hp0' : ¬ (p : Int) = 0 := by omega
  clear hw hw1 hwl hwF hys hxs hd hcc hcc2 hcell2 hn hn2 hll hres hws hT hS hT2 hl h0
  go_enter Tryz.func80, Tryz.ntmps80
  go_wp2_with fail
  refine HW.out.mono ?_
  rintro e w1 ⟨vw, rfl, hat, hbl⟩
  obtain ⟨A3, n3, c3, rfl, hn3, hnc3, hcc3⟩ := hat
  have hw3 : n3 = n2 := by rw [hn3, HWL.out]
  subst hw3
  obtain ⟨b3, off3, rfl, hS3, hcell3⟩ := hcc3 (by omega)
  have HC3 := Lib.hid hcell3
  have HBL := Lib.hid hbl
  clear hn3 hcc3 hcell3 hbl hS3
  go_wp2_with fail
  go_loopw [12, 37] (fun v t wr => ∃ k : Nat, k ≤ n3 ∧ t = .int .i64 (k : Int) ∧ v = .int .i64 (wsum (fOf ws) (fOf ys) k % (p : Int)) ∧ w1 = wr) (fun _ t _ => n3 - (intOf t).toNat)
  case atStart => exact ⟨0, by omega, rfl, by show _ = Value.int .i64 (0 % (p : Int)); rw [Int.zero_emod], rfl⟩
  case round =>
    obtain ⟨k, hk, rfl, rfl, rfl⟩ := hrel
    by_cases hlt : k < n3
    · have c1 := HC3.out k hlt
      have c2' := (HBL.out.cell (p := ⟨b2, off2 + k, none⟩) hlt2).trans (HC2.out k hlt)
      have bx := HWF.out k (by have := HWL.out; omega)
      have byy := HY.out k (by have := HLL.out; omega)
      have hstep : (wsum (fOf ws) (fOf ys) k % (p : Int) + fOf ws k * fOf ys k) % (p : Int) = wsum (fOf ws) (fOf ys) (k + 1) % (p : Int) := by
        show _ = (wsum (fOf ws) (fOf ys) k + fOf ws k * fOf ys k) % p
        rw [Int.emod_add_emod]
      have hv0 := Int.emod_nonneg (wsum (fOf ws) (fOf ys) k) (show (p : Int) ≠ 0 by omega)
      have hv1 := Int.emod_lt_of_pos (wsum (fOf ws) (fOf ys) k) (show (0 : Int) < p by omega)
      rw [show fOf ws k = ws.getD k 0 from rfl, show fOf ys k = ys.getD k 0 from rfl] at hstep
      obtain ⟨x1, hx⟩ : ∃ x1, ws.getD k 0 = x1 := ⟨_, rfl⟩
      obtain ⟨y, hy⟩ : ∃ y, ys.getD k 0 = y := ⟨_, rfl⟩
      obtain ⟨v, hv⟩ : ∃ v, wsum (fOf ws) (fOf ys) k % (p : Int) = v := ⟨_, rfl⟩
      rw [hx] at c1 bx hstep
      rw [hy] at c2' byy hstep
      rw [hv] at hv0 hv1 hstep ⊢
      obtain ⟨m10, m11, m12⟩ := mulmod_bd h2 bx.1 bx.2 byy.1 byy.2
      have ht : (v + x1 * y).tmod (p : Int) = (v + x1 * y) % (p : Int) := Int.tmod_eq_emod_of_nonneg (by omega)
      have HST := Lib.hid hstep
      have qk : (k : Int) < (n3 : Int) := by omega
      clear hx hy hv hstep m12
      go_wp2_with fail
      go_roundw
      case measure => simp [intOf]; omega
      case rel => exact ⟨k + 1, by omega, by go_num, by rw [← HST.out], by first | rfl | trivial⟩
    · have hkn : k = n3 := by omega
      subst hkn
      go_wp2_with fail
      go_ret2
      exact ⟨rfl, HBL.out⟩
end Go.Proofs.YtjfphobfikadlaaGreatDoor
