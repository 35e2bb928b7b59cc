/- Contracts of the reference: elements at any numbers, doubles, differences, powers and inverses, degrees, points. Contracts of the reference: degrees, short forms, how many points a polynomial has; how many shares may be wrong. -/
import Derived.Test.YtjfphobfikadlaaDoorN16
import Derived.Test.YtjfphobfikadlaaDoorN22
import Derived.Test.YtjfphobfikadlaaDoorN34
import Derived.BigQuiet
set_option linter.unusedVariables false
set_option linter.unusedSimpArgs false
namespace Go.Proofs.YtjfphobfikadlaaDoor
open Go.RowKit Num Classical

def IntEq (a : Int) (w : World) (e : Ending) (w' : World) : Prop := e = .returned (.int .i64 a) ∧ w = w'
set_option maxRecDepth 100000 in
set_option maxHeartbeats 1000000 in
theorem r_ElementsG (p : Int) (v : Value) (xs : List Int) (S : Nat → Prop) (w : World) (hv : IntsAt w S v xs) (hl : xs.length ≤ 1000000) :
    Calls Tryd.prog 37 #[.int .i64 p, v] w fun e w' => ∃ b : Bool, e = .returned (.bool b) ∧ (b = true ↔ (∀ i, i < xs.length → 0 ≤ xs.getD i 0 ∧ xs.getD i 0 < p) ∧ decide (VPrm p) = true) ∧ w = w' := by
  obtain ⟨A, n, ca, rfl, hn, hnc, hcc⟩ := id hv
  rw [← hn] at hl ⊢
  have HCC := Lib.hid hcc
  have hval := r_ValidG p w
  have HV := Lib.hid hval
  obtain ⟨val, hvv⟩ : ∃ val, decide (VPrm p) = val := ⟨_, rfl⟩
  rw [hvv] at HV ⊢
  clear hv hn hcc hval hvv
  go_enter Tryd.func37, Tryd.ntmps37
  go_wp2_with fail
  go_loopw [9] (fun t wr => ∃ i : Nat, i ≤ n ∧ t = .int .i64 i ∧ (∀ j, j < i → 0 ≤ xs.getD j 0 ∧ xs.getD j 0 < p) ∧ w = wr) (fun t _ => n - (intOf t).toNat)
  case atStart => exact ⟨0, by omega, rfl, fun j hj => absurd hj (Nat.not_lt_zero j), rfl⟩
  case round =>
    obtain ⟨i, hin, rfl, hz, rfl⟩ := hrel
    have HZ := Lib.hid hz
    clear hz
    by_cases hlt : i < n
    · obtain ⟨b, off, rfl, _, hc⟩ := HCC.out (by omega)
      have cx := hc i hlt
      obtain ⟨x, hx⟩ : ∃ x, xs.getD i 0 = x := ⟨_, rfl⟩
      rw [hx] at cx
      have HX := Lib.hid hx
      have qi : (i : Int) < (n : Int) := by omega
      have qi0 : (0 : Int) ≤ (i : Int) := by omega
      clear hx hc
      by_cases h0 : x < 0
      · have HE := Lib.hid h0
        have t1 : decide (x < 0) = true := decide_eq_true h0
        clear h0
        go_wp2_with fail
        go_ret
        exact ⟨false, rfl, ⟨fun h => by simp at h, fun h => absurd (h.1 i hlt).1 (by rw [HX.out]; have := HE.out; omega)⟩, rfl⟩
      · have t1 : decide (x < 0) = false := decide_eq_false h0
        by_cases h1 : p ≤ x
        · have HE := Lib.hid h1
          have t2 : decide (p ≤ x) = true := decide_eq_true h1
          clear h1 h0
          go_wp2_with fail
          go_ret
          exact ⟨false, rfl, ⟨fun h => by simp at h, fun h => absurd (h.1 i hlt).2 (by rw [HX.out]; have := HE.out; omega)⟩, rfl⟩
        · have HE := Lib.hid h1
          have HE0 := Lib.hid h0
          have t2 : decide (p ≤ x) = false := decide_eq_false h1
          clear h1 h0
          go_wp2_with fail
          go_roundw
          case measure => simp [intOf]; omega
          case rel => exact ⟨i + 1, by omega, by go_num, (fun j hj => by
            rcases Nat.lt_or_ge j i with h | h
            · exact HZ.out j h
            · rw [show j = i by omega, HX.out]
              have := HE.out
              have := HE0.out
              omega), by first | rfl | trivial⟩
    · have hi' : i = n := by omega
      subst hi'
      go_wp2_with fail
      refine HV.out.mono ?_
      rintro e w' ⟨rfl, rfl⟩
      go_wp2_with fail
      go_ret
      exact ⟨val, rfl, ⟨fun h => ⟨HZ.out, h⟩, fun h => h.2⟩, rfl⟩
set_option maxRecDepth 100000 in
set_option maxHeartbeats 1000000 in
theorem r_twice (v : Value) (xs : List Int) (S : Nat → Prop) (w : World) (hv : IntsAt w S v xs) (hl : xs.length ≤ 1000000) :
    Calls Tryd.prog 38 #[v] w fun e w' => ∃ b : Bool, e = .returned (.bool b) ∧ (b = false ↔ ∀ i j, i < xs.length → j < i → xs.getD j 0 ≠ xs.getD i 0) ∧ w = w' := by
  obtain ⟨i0, hi, hz0, hz1, hz2⟩ := info_parts infoI
  obtain ⟨A, n, ca, rfl, hn, hnc, hcc⟩ := id hv
  have hsl := fun (W : World) (i : Nat) (h : i ≤ ca) => run_slice_hi (P := Tryd.prog) W 22 3 i0 Tryd.underlying22 hi A n ca i h (i : Int) rfl
  have HSL := Lib.hid hsl
  have HCC := Lib.hid hcc
  rw [← hn] at hl ⊢
  clear hv hn hcc hsl
  go_enter Tryd.func38, Tryd.ntmps38
  go_wp2_with fail
  go_loopw [9] (fun t wr => ∃ i : Nat, i ≤ n ∧ t = .int .i64 i ∧ (∀ k j, k < i → j < k → xs.getD j 0 ≠ xs.getD k 0) ∧ w = wr) (fun t _ => n - (intOf t).toNat)
  case atStart => exact ⟨0, by omega, rfl, fun k j hk => absurd hk (Nat.not_lt_zero k), rfl⟩
  case round =>
    obtain ⟨i, hin, rfl, hz, rfl⟩ := hrel
    have HZ := Lib.hid hz
    clear hz
    by_cases hlt : i < n
    · obtain ⟨b, off, rfl, _, hc⟩ := HCC.out (by omega)
      have cx := hc i hlt
      have hsl := fun W => HSL.out W i (by omega)
      obtain ⟨x, hx⟩ : ∃ x, xs.getD i 0 = x := ⟨_, rfl⟩
      rw [hx] at cx
      have HX := Lib.hid hx
      have qi : (i : Int) < (n : Int) := by omega
      have qi0 : (0 : Int) ≤ (i : Int) := by omega
      have HC := Lib.hid hc
      clear hx hc
      go_wp2_with fail
      go_loopw [18] (fun t wr => ∃ j : Nat, j ≤ i ∧ t = .int .i64 j ∧ (∀ k, k < j → xs.getD k 0 ≠ x) ∧ w = wr) (fun t _ => i - (intOf t).toNat)
      case atStart => exact ⟨0, by omega, rfl, fun k hk => absurd hk (Nat.not_lt_zero k), rfl⟩
      case round =>
        obtain ⟨j, hji, rfl, hj, rfl⟩ := hrel
        have HJ := Lib.hid hj
        clear hj
        by_cases hlj : j < i
        · have cy := HC.out j (by omega)
          obtain ⟨y, hy⟩ : ∃ y, xs.getD j 0 = y := ⟨_, rfl⟩
          rw [hy] at cy
          have HY := Lib.hid hy
          have qj : (j : Int) < (i : Int) := by omega
          have qj0 : (0 : Int) ≤ (j : Int) := by omega
          clear hy
          by_cases hxy : x = y
          · have t0 : (x == y) = true := by simpa using hxy
            have HE := Lib.hid hxy
            clear hxy
            go_wp2_with fail
            go_ret
            exact ⟨true, rfl, ⟨fun h => by simp at h, fun h => absurd (HY.out.trans (HE.out.symm.trans HX.out.symm)) (h i j hlt hlj)⟩, rfl⟩
          · have t0 : (x == y) = false := by simpa using hxy
            have HE := Lib.hid hxy
            clear hxy
            go_wp2_with fail
            go_roundw
            case measure => simp [intOf]; omega
            case rel => exact ⟨j + 1, by omega, by go_num, (fun k hk => by
              rcases Nat.lt_or_ge k j with h | h
              · exact HJ.out k h
              · rw [show k = j by omega, HY.out]; exact fun e => HE.out e.symm), by first | rfl | trivial⟩
        · have hjj : j = i := by omega
          subst hjj
          go_wp2_with fail
          go_roundw
          case measure => simp [intOf]; omega
          case rel => exact ⟨j + 1, by omega, by go_num, (fun k q hk hq => by
            rcases Nat.lt_or_ge k j with h | h
            · exact HZ.out k q h hq
            · rw [show k = j by omega] at hq ⊢
              rw [HX.out]
              exact HJ.out q hq), by first | rfl | trivial⟩
    · have hi' : i = n := by omega
      subst hi'
      go_wp2_with fail
      go_ret
      exact ⟨false, rfl, ⟨fun _ => HZ.out, fun _ => rfl⟩, rfl⟩
set_option maxHeartbeats 400000 in
theorem r_SubI (p : Nat) (a b : Int) (w : World) (h1 : 1 ≤ p) (h2 : p ≤ 1073741824) (a0 : 0 ≤ a) (a1 : a < p) (b0 : 0 ≤ b) (b1 : b < p) :
    Calls Tryd.prog 39 #[.int .i64 (p : Int), .int .i64 a, .int .i64 b] w fun e w' => e = .returned (.int .i64 ((a - b) % (p : Int))) ∧ w = w' := by
  have e : (a - b + (p : Int)).tmod (p : Int) = (a - b) % (p : Int) := by rw [Int.tmod_eq_emod_of_nonneg (by omega), Int.add_emod_right]
  have e2 : (a - b + (p : Int)) % (p : Int) = (a - b) % (p : Int) := Int.add_emod_right _ _
  obtain ⟨z, hz⟩ : ∃ z, (a - b) % (p : Int) = z := ⟨_, rfl⟩
  rw [hz] at e e2 ⊢
  have hp0 : ¬ p = 0 := by omega
  have hp0' : ¬ (p : Int) = 0 := by omega
  clear hz
  go_enter Tryd.func39, Tryd.ntmps39
  go_wp2_with fail
  go_ret
  exact ⟨rfl, rfl⟩
set_option maxHeartbeats 1000000 in
/-- The power p - 2. -/
theorem r_Pow2 (p a : Nat) (w : World) (h3 : 3 ≤ p) (h2 : p ≤ 1073741824) (a0 : 0 < a) (a1 : a < p) :
    Calls Tryd.prog 86 #[.int .i64 (p : Int), .int .i64 (a : Int), .int .i64 ((p : Int) - 2)] w (IntEq (pw p a (p - 2) : Int) w) := by
  have t0 : (((p : Int) - 2) == 0) = false := by simp; omega
  have t1 : ((a : Int) == 0) = false := by simp; omega
  have e1 : ((p : Int) - 2) % ((p : Int) - 1) = (p : Int) - 2 := Int.emod_eq_of_lt (by omega) (by omega)
  have e1' : ((p : Int) - 2).tmod ((p : Int) - 1) = (p : Int) - 2 := by rw [Int.tmod_eq_emod_of_nonneg (by omega)]; exact e1
  have e2 : ((p : Int) - 2 + (p : Int) - 1) % ((p : Int) - 1) = (p : Int) - 2 := by
    rw [show (p : Int) - 2 + (p : Int) - 1 = (p : Int) - 2 + ((p : Int) - 1) by omega, Int.add_emod_right]; exact e1
  have e2' : ((p : Int) - 2 + (p : Int) - 1).tmod ((p : Int) - 1) = (p : Int) - 2 := by rw [Int.tmod_eq_emod_of_nonneg (by omega)]; exact e2
  have e3 : (1 : Int) % (p : Int) = 1 := Int.emod_eq_of_lt (by omega) (by omega)
  have e3' : (1 : Int).tmod (p : Int) = 1 := by rw [Int.tmod_eq_emod_of_nonneg (by omega)]; exact e3
  have hp1 : ¬ (p : Int) - 1 = 0 := by omega
  have hp0 : ¬ p = 0 := by omega
  have hp0' : ¬ (p : Int) = 0 := by omega
  go_enter Tryd.func86, Tryd.ntmps86
  go_wp2
  clear t0 t1 e1 e1' e2 e2' e3 e3'
  go_loop [8, 1, 7] (fun o y t => ∃ o' x' t' : Nat, o = .int .i64 o' ∧ y = .int .i64 x' ∧ t = .int .i64 t' ∧ o' < p ∧ x' < 2147483648 ∧ t' < 9223372036854775808 ∧ o' * x' ^ t' % p = pw p a (p - 2)) (fun _ _ t => (intOf t).toNat)
  case atStart => exact ⟨1, a, p - 2, rfl, rfl, by congr 1; omega, by omega, by omega, by omega, by rw [Nat.one_mul]; rfl⟩
  case round =>
    obtain ⟨o', x', t', rfl, rfl, rfl, ho', hx', ht', hr⟩ := hrel
    have hR := Lib.hid hr
    clear hr
    have ha := Lib.hid (and_1 t' ht')
    have hs := Nat.mod_lt (x' * x') (show 0 < p by omega)
    have hs2 := Nat.mod_lt (o' * x') (show 0 < p by omega)
    have q1 := mul_bd hx' hx' (Nat.le_refl _)
    have q2 := mul_bd (show o' < 2147483648 by omega) hx' (Nat.le_refl _)
    have E1 := Lib.hid (cast_mul_mod x' x' p)
    have E2 := Lib.hid (cast_mul_mod o' x' p)
    by_cases h0 : 0 < t'
    · rcases Nat.mod_two_eq_zero_or_one t' with hp | hp
      · have c : (bits .and .i64 (t' : Int) 1 == 1) = false := by rw [ha.out, hp]; rfl
        go_wp2
        go_round
        case rel => exact ⟨o', x' * x' % p, t' / 2, by go_num, by congr 1, by go_num, ho', by omega, by omega, by rw [step_even p o' x' t' hp]; exact hR.out⟩
        case measure => simp [intOf]; omega
      · have c : (bits .and .i64 (t' : Int) 1 == 1) = true := by rw [ha.out, hp]; rfl
        go_wp2
        go_round
        case rel => exact ⟨o' * x' % p, x' * x' % p, t' / 2, by congr 1, by congr 1, by go_num, by omega, by omega, by omega, by rw [step_odd p o' x' t' hp]; exact hR.out⟩
        case measure => simp [intOf]; omega
    · have h0' : t' = 0 := by omega
      subst h0'
      go_wp2
      go_ret
      exact ⟨ret_int (by have := hR.out; rw [Nat.pow_zero, Nat.mul_one, Nat.mod_eq_of_lt ho'] at this; rw [← this]), rfl⟩
set_option maxHeartbeats 400000 in
theorem r_Inverse (p : Nat) (a : Int) (w : World) (p2 : 2 ≤ p) (h2 : p ≤ 1073741824) (a0 : 0 < a) (a1 : a < p) :
    Calls Tryd.prog 57 #[.int .i64 (p : Int), .int .i64 a] w fun e w' => e = .returned (.tuple #[.int .i64 (invP p a), .int .i64 0]) ∧ w = w' := by
  obtain ⟨n, rfl⟩ := Int.eq_ofNat_of_zero_le (show 0 ≤ a by omega)
  have t1 : ((n : Int) == 0) = false := by simp; omega
  have hpow : Calls Tryd.prog 86 #[.int .i64 (p : Int), .int .i64 (n : Int), .int .i64 ((p : Int) - 2)] w (IntEq (invP p (n : Int)) w) := by
    unfold invP
    rw [Int.toNat_natCast]
    by_cases h3 : 3 ≤ p
    · exact r_Pow2 p n w h3 h2 (by omega) (by omega)
    · have hp : p = 2 := by omega
      subst hp
      have hn : n = 1 := by omega
      subst hn
      go_enter Tryd.func86, Tryd.ntmps86
      go_wp2
      go_ret
      exact ⟨rfl, rfl⟩
  have HP := Lib.hid hpow
  clear hpow
  go_enter Tryd.func57, Tryd.ntmps57
  go_wp2_with fail
  refine HP.out.mono ?_
  rintro e w' ⟨rfl, rfl⟩
  go_wp2_with fail
  go_ret2
  exact ⟨rfl, rfl⟩
end Go.Proofs.YtjfphobfikadlaaDoor
namespace Go.Proofs.YtjfphobfikadlaaDoor
open Go.RowKit Num

set_option maxRecDepth 100000 in
set_option maxHeartbeats 1000000 in
theorem r_Degree (v : Value) (zs : List Int) (S : Nat → Prop) (w : World) (hv : IntsAt w S v zs) (hl : zs.length ≤ 1000000) :
    Calls Tryd.prog 42 #[v] w fun e w' => e = .returned (.int .i64 ((degN zs : Int) - 1)) ∧ w = w' := by
  obtain ⟨A, n, c, rfl, hn, hnc, hc⟩ := hv
  rw [hn] at hnc hc
  have n1 : n ≤ 1000000 := by omega
  have HC := Lib.hid hc
  have HN := Lib.hid hn
  rw [← hn] at HC hnc
  clear hc hn hl
  go_enter Tryd.func42, Tryd.ntmps42
  go_wp2_with fail
  go_loopw [3] (fun t wr => ∃ j : Nat, j ≤ n ∧ t = .int .i64 ((j : Int) - 1) ∧ (∀ q, j ≤ q → q < n → zs.getD q 0 = 0) ∧ w = wr) (fun t _ => ((intOf t) + 1).toNat)
  case atStart => exact ⟨n, Nat.le_refl _, rfl, fun q h1 h2 => absurd h2 (by omega), rfl⟩
  case round =>
    obtain ⟨j, hj, rfl, hz, rfl⟩ := hrel
    have HZ := Lib.hid hz
    clear hz
    by_cases h0 : 0 < j
    · obtain ⟨b, off, rfl, _, hcell⟩ := HC.out (by omega)
      have cx := hcell (j - 1) (by omega)
      obtain ⟨x, hx⟩ : ∃ x, zs.getD (j - 1) 0 = x := ⟨_, rfl⟩
      rw [hx] at cx
      obtain ⟨i, hi⟩ : ∃ i, j - 1 = i := ⟨_, rfl⟩
      rw [hi] at cx hx
      have hji : (j : Int) - 1 = (i : Int) := by omega
      have hin : i < n := by omega
      have qi : (i : Int) < (n : Int) := by omega
      have qi0 : (0 : Int) ≤ (i : Int) := by omega
      have HX := Lib.hid hx
      have HI := Lib.hid hi
      rw [hji]
      clear hx hcell hi hji
      by_cases hx0 : x = 0
      · have t0 : (x != 0) = false := by simp [hx0]
        have HE := Lib.hid hx0
        clear hx0
        go_wp2_with fail
        go_roundw
        case measure => (first | (simp [intOf]; done) | (simp [intOf]; omega))
        case rel => exact ⟨i, by omega, by first | rfl | go_num, (fun q h1 h2 => by
          rcases Nat.lt_or_ge i q with h | h
          · exact HZ.out q (by have := HI.out; omega) h2
          · rw [show q = i by omega, HX.out]; exact HE.out), by first | rfl | trivial⟩
      · have t0 : (x != 0) = true := by simpa using hx0
        have HE := Lib.hid hx0
        clear hx0
        go_wp2_with fail
        go_ret
        refine ⟨ret_int ?_, rfl⟩
        have hd := degN_of zs i (by rw [← HN.out]; exact hin) (by rw [HX.out]; exact HE.out) (fun q h1 h2 => HZ.out q (by have := HI.out; omega) (by rw [HN.out]; exact h2))
        rw [hd]; omega
    · have hj0 : j = 0 := by omega
      subst hj0
      go_wp2_with fail
      go_ret
      refine ⟨ret_int ?_, rfl⟩
      rw [degN_all zs fun q hq => HZ.out q (Nat.zero_le _) (by rw [HN.out]; exact hq)]
      rfl
set_option maxRecDepth 100000 in
set_option maxHeartbeats 1000000 in
theorem r_short (v : Value) (zs : List Int) (S : Nat → Prop) (w : World) (hv : IntsAt w S v zs) (hS : ∀ b, S b → b < w.heap.size) (hl : zs.length ≤ 1000000) :
    Calls Tryd.prog 58 #[v] w (OwnPost (trim zs) w) := by
  obtain ⟨i0, hi, hz0, hz1, hz2⟩ := info_parts infoI
  obtain ⟨A, n, c, rfl, hn, hnc, hc⟩ := id hv
  have hle := degN_le zs
  have hdn : degN zs ≤ n := by omega
  have hsl := fun (W : World) => run_slice_hi (P := Tryd.prog) W 22 3 i0 Tryd.underlying22 hi A n c (degN zs) (by omega) ((degN zs : Int) - 1 + 1) (by omega)
  have hsl2 := fun (W : World) => run_slice_hi (P := Tryd.prog) W 22 3 i0 Tryd.underlying22 hi A n c (degN zs) (by omega) (degN zs : Int) rfl
  have hd := r_Degree (.slice A n c) zs S w hv hl
  have htk := (hv.take (degN zs) hle).reads (B := w.heap.size) hS
  have htl : (zs.take (degN zs)).length = degN zs := by rw [List.length_take]; omega
  have HD := Lib.hid hd
  have HTK := Lib.hid htk
  have HTL := Lib.hid htl
  have hd1 : degN zs ≤ 1000000 := by omega
  unfold trim
  generalize degN zs = d at *
  clear hv hc hn hle hd htk htl
  go_enter Tryd.func58, Tryd.ntmps58
  go_wp2_with fail
  refine HD.out.mono ?_
  rintro e w' ⟨rfl, rfl⟩
  go_wp2_with (at_builtin; refine wpList_append_any _ rfl _ _ 22 rfl w.heap.size 3 i0 (.int .i64 0) 1 8 Tryd.underlying22 hi hz0 hz1 hz2 rfl (by decide) (.slice none 0 0) 0 [] rfl (World.ownsRow_nil _ _ _ _) w.heap.size A d c ((zs.take d).map (Value.int .i64)) rfl HTK.out (ints_oneCell .i64 _) (by simp only [maxLen]; omega) (by omega) (Nat.le_refl _) ?_)
  intro v3 w3 hown3 hgrow3 _
  have ho : OwnI w3 w.heap.size v3 (zs.take d) := by
    unfold OwnI
    rw [HTL.out]
    simpa using hown3
  have hb : Below w.heap.size w w3 := (Below.refl w.heap.size w).grown hgrow3 (Nat.le_refl _) (fun g hg => by simp [Value.ownBlock] at hg)
  have HO := Lib.hid ho
  have HB := Lib.hid hb
  clear hown3 hgrow3 ho hb
  go_wp2_with fail
  go_ret
  exact ⟨_, rfl, HO.out, HB.out⟩
theorem ev_evH {p : Nat} (hp : 1 ≤ p) (h : Int) (l : List Int) : ev l h % p = evH p h l := by
  have e := evH_cg (p : Int) h l
  have b := evH_bd p h hp l
  have := e.symm
  unfold Cg at this
  rw [this, Int.emod_eq_of_lt b.1 b.2]
set_option maxRecDepth 100000 in
set_option maxHeartbeats 1000000 in
theorem r_agree (p : Nat) (vf vx vy : Value) (F X Y : List Int) (S T U : Nat → Prop) (w : World) (hp1 : 1 ≤ p) (h2 : p ≤ 1073741824)
    (hf : IntsAt w S vf F) (hx : IntsAt w T vx X) (hy : IntsAt w U vy Y)
    (lf : F.length ≤ 10000) (lx : X.length ≤ 1000) (ly : Y.length = X.length) (ff : InF p F) (fx : InF p X) :
    Calls Tryd.prog 43 #[.int .i64 (p : Int), vf, vx, vy] w fun e w' => e = .returned (.int .i64 (agr p F (fOf X) (fOf Y) X.length : Int)) ∧ ∃ q, w' = w.drewN q := by
  obtain ⟨A, n, ca, rfl, hn, hnc, hcc⟩ := id hx
  obtain ⟨B, m, cb, rfl, hm, hmc, hcd⟩ := id hy
  have hmn : m = n := by omega
  subst hmn
  have hn1 : m ≤ 1000 := by omega
  rw [← hn]
  have hfx : ∀ j, j < m → 0 ≤ X.getD j 0 ∧ X.getD j 0 < p := fun j hj => fx j (by omega)
  have hev := fun (q : Nat) (x : Int) (h0 : 0 ≤ x) (h1 : x < 2147483648) => r_EvalI p x vf F S (w.drewN q) hp1 h2 h0 h1 hf (by omega) ff
  have hst : ∀ j, agr p F (fOf X) (fOf Y) (j + 1) = agr p F (fOf X) (fOf Y) j + (if evH p (X.getD j 0) F = Y.getD j 0 then 1 else 0) := fun j => by
    rw [← ev_evH hp1]; rfl
  have HLE := Lib.hid (agr_le p F (fOf X) (fOf Y))
  have HC := Lib.hid hcc
  have HD := Lib.hid hcd
  have HFX := Lib.hid hfx
  have HEV := Lib.hid hev
  have HST := Lib.hid hst
  clear hf hx hy hn hm hcc hcd ly hfx hev hst ff fx
  go_enter Tryd.func43, Tryd.ntmps43
  go_wp2_with fail
  go_loopw [14, 9] (fun t c wr => ∃ (i q : Nat), i ≤ m ∧ t = .int .i64 i ∧ c = .int .i64 (agr p F (fOf X) (fOf Y) i : Int) ∧ wr = w.drewN q) (fun t _ _ => m - (intOf t).toNat)
  case atStart => exact ⟨0, 0, by omega, rfl, rfl, rfl⟩
  case round =>
    obtain ⟨i, q, him, rfl, rfl, rfl⟩ := hrel
    by_cases hlt : i < m
    · obtain ⟨ba, oa, rfl, _, hca⟩ := HC.out (by omega)
      obtain ⟨bb, ob, rfl, _, hcb⟩ := HD.out (by omega)
      have cx := hca i hlt
      have cy := hcb i hlt
      have bx := HFX.out i hlt
      have hst := HST.out i
      obtain ⟨x, hx⟩ : ∃ x, X.getD i 0 = x := ⟨_, rfl⟩
      obtain ⟨y, hy⟩ : ∃ y, Y.getD i 0 = y := ⟨_, rfl⟩
      rw [hx] at cx bx hst
      rw [hy] at cy hst
      have hle := HLE.out i
      have hev := fun q => HEV.out q x bx.1 (by omega)
      obtain ⟨z, hz⟩ : ∃ z, evH (p : Int) x F = z := ⟨_, rfl⟩
      rw [hz] at hst hev
      obtain ⟨a, ha⟩ : ∃ a, agr p F (fOf X) (fOf Y) i = a := ⟨_, rfl⟩
      rw [ha] at hst hle ⊢
      have cx' : ∀ k, (w.drewN k).cell? ⟨ba, oa + i, none⟩ = some (.int .i64 x) := fun _ => cx
      have cy' : ∀ k, (w.drewN k).cell? ⟨bb, ob + i, none⟩ = some (.int .i64 y) := fun _ => cy
      have qi : (i : Int) < (m : Int) := by omega
      have qi0 : (0 : Int) ≤ (i : Int) := by omega
      have HE := Lib.hid hev
      have HS := Lib.hid hst
      clear hst hx hy hz ha hca hcb hev cx cy
      by_cases hzy : z = y
      · have t1 : (z == y) = true := by simpa using hzy
        have hs2 := HS.out
        rw [if_pos hzy] at hs2
        have HS2 := Lib.hid hs2
        clear hs2 hzy
        go_wp2_with fail
        go_quiet ((go_at_call 23; first | (with_reducible exact quiet_add_left (HE.out _)) | (with_reducible exact quiet_left' (HE.out _)) | exact quiet_add_left (HE.out _) | exact quiet_left' (HE.out _)))
        go_wp2_with fail
        go_roundw
        case measure => simp [intOf]; omega
        case rel => exact ⟨i + 1, _, by omega, by go_num, by rw [HS2.out]; go_num, rfl⟩
      · have t1 : (z == y) = false := by simpa using hzy
        have hs2 := HS.out
        rw [if_neg hzy] at hs2
        have HS2 := Lib.hid hs2
        clear hs2 hzy
        go_wp2_with fail
        go_quiet ((go_at_call 23; first | (with_reducible exact quiet_add_left (HE.out _)) | (with_reducible exact quiet_left' (HE.out _)) | exact quiet_add_left (HE.out _) | exact quiet_left' (HE.out _)))
        go_wp2_with fail
        go_roundw
        case measure => simp [intOf]; omega
        case rel => exact ⟨i + 1, _, by omega, by go_num, by rw [HS2.out]; rfl, rfl⟩
    · have hi' : i = m := by omega
      subst hi'
      go_wp2_with fail
      go_ret
      exact ⟨rfl, q, rfl⟩
/-- How many of some shares may be wrong, at any number. -/
def roomI (need s : Int) : Int := if s < need then -1 else (s - need) / 2
set_option maxHeartbeats 400000 in
theorem c_RoomG (p need hold : Nat) (s : Int) (w : World) (hp : p ≤ 2147483648) (hn : need ≤ 1000) (h9 : s < 9223372036854775808) :
    Calls Tryd.prog 14 #[.agg #[.int .i64 (p : Int), .int .i64 (need : Int), .int .i64 (hold : Int)], .int .i64 s] w fun e w' => e = .returned (.int .i64 (roomI need s)) ∧ Below w.heap.size w w' := by
  unfold roomI
  by_cases h : s < (need : Int)
  · rw [if_pos h]
    have t1 : decide (s < (need : Int)) = true := decide_eq_true h
    clear h
    go_enter Tryd.func14, Tryd.ntmps14
    go_wp2_with fail
    go_ret
    exact ⟨rfl, (Below.refl _ _).alloc (Nat.le_refl _) _⟩
  · rw [if_neg h]
    have t1 : decide (s < (need : Int)) = false := decide_eq_false h
    go_enter Tryd.func14, Tryd.ntmps14
    go_wp2_with fail
    go_ret
    exact ⟨ret_int (by first | rfl | omega), (Below.refl _ _).alloc (Nat.le_refl _) _⟩
set_option maxHeartbeats 400000 in
theorem r_RoomG (p need hold : Nat) (s : Int) (w : World) (hp : p ≤ 2147483648) (hn : need ≤ 1000) (h9 : s < 9223372036854775808) :
    Calls Tryd.prog 22 #[.agg #[.int .i64 (p : Int), .int .i64 (need : Int), .int .i64 (hold : Int)], .int .i64 s] w fun e w' => e = .returned (.int .i64 (roomI need s)) ∧ Below w.heap.size w w' := by
  unfold roomI
  by_cases h : s < (need : Int)
  · rw [if_pos h]
    have t1 : decide (s < (need : Int)) = true := decide_eq_true h
    clear h
    go_enter Tryd.func22, Tryd.ntmps22
    go_wp2_with fail
    go_ret
    exact ⟨rfl, (Below.refl _ _).alloc (Nat.le_refl _) _⟩
  · rw [if_neg h]
    have t1 : decide (s < (need : Int)) = false := decide_eq_false h
    go_enter Tryd.func22, Tryd.ntmps22
    go_wp2_with fail
    go_ret
    exact ⟨ret_int (by first | rfl | omega), (Below.refl _ _).alloc (Nat.le_refl _) _⟩
end Go.Proofs.YtjfphobfikadlaaDoor
