/- The law on powers. -/
import Derived.Test.YtmneokkdkgflkaaDoorHanPw
set_option linter.unusedVariables false
set_option linter.unusedSimpArgs false
namespace Go.Proofs.YtmneokkdkgflkaaDoor
open Go.RowKit Num Go.Maps

theorem gbOf {w w' : World} (h : Below w.heap.size w w') (row : Option Nat) : w.grownBy w' row := ⟨h.os, h.tape, h.output, h.size, fun k hk _ => h.block k hk⟩
/-- What is not in a map of bools reads false. -/
theorem lookup_false {w : World} {b n : Nat} {D : DataW Unit} (h : w.ownsMap Tryd.prog 3 (plainElem Tryd.prog 4) b n D) (y : Int) (hy : (Lit.int .i64 y).wf = true) (hn : Maps.has D (.int .i64 y) = false) :
    (Instr.lookup 49 (.map (some b)) (.int .i64 y) false).run Tryd.prog w = .ok (.bool false) w := by
  obtain ⟨v, ps, hrun, hR⟩ := h.lookup lawI (t := 49) Tryd.underlying49 (z := .bool false) (by kernel_rfl) (plainElem_bool (H := Unit) Tryd.underlying4 false) (keyOf_int_mk Tryd.underlying3 hy)
  rw [atKey_of_not_has hn] at hR
  rw [hrun]
  cases v <;> simp [plainElem, Tryd.underlying4] at hR
  rw [hR.1]

set_option maxRecDepth 100000 in
set_option maxHeartbeats 4000000 in
theorem l_Powers (v : Value) (a b : Int) (text : ByteArray) (w : World) (hw : BasesOk w) (A : Option Addr) (n c : Nat) (hv : v = .slice A n c) (hn : n ≤ 9223372036854775807) (hz : text.size ≤ 9223372036854775807) (ha : n ≤ 500 → ArgL w v) :
    Calls Tryd.prog 5 #[v, .int .i64 a, .int .i64 b, .string text] w (BoolBelow true w) := by
  subst hv
  by_cases h5 : n ≤ 500
  · have t1 : decide ((n : Int) ≤ 500) = true := decide_eq_true (by omega)
    have ha := ha h5
    by_cases h3 : text.size ≤ 200
    · have t2 : decide ((200 : Int) < (text.size : Int)) = false := decide_eq_false (by omega)
      have HW := Lib.hid hw
      have HA := Lib.hid ha
      clear hw ha
      go_enter Tryd.func5, Tryd.ntmps5
      go_wp2_with fail
      refine (k_Light A n c _ hn).mono ?_
      rintro e w' ⟨rfl, rfl⟩
      go_wp2_with fail
      refine (k_Roll _ _ HA.out).mono ?_
      rintro e w1 ⟨rfl, hd1, hb1⟩
      have HD1 := Lib.hid hd1
      have HB1 := Lib.hid hb1
      have hlt1 := hd1.lt
      clear hd1 hb1 HA
      go_wp2_with fail
      refine (k_Next w.heap.size 8 _ (HD1.out.alloc _) (by omega) (by omega)).mono ?_
      rintro e w2 ⟨r, hr, rfl, hd2, hg2⟩
      have hc := fun (i : Nat) => (World.cell?_of_block (hg2.block w1.heap.size (by simp) (by simp; omega)) : w2.cell? ⟨w1.heap.size, i, none⟩ = _)
      obtain ⟨p, hsafe, hcp⟩ : ∃ p : Nat, Num.Safe p ∧ w2.cell? ⟨w1.heap.size, r, none⟩ = some (.int .i64 (p : Int)) := by
        rcases (show r = 0 ∨ r = 1 ∨ r = 2 ∨ r = 3 ∨ r = 4 ∨ r = 5 ∨ r = 6 ∨ r = 7 by omega) with rfl | rfl | rfl | rfl | rfl | rfl | rfl | rfl
        · exact ⟨11, by unfold Num.Safe; decide, (hc 0).trans (by rw [World.cell?_alloc_new]; rfl)⟩
        · exact ⟨3, by unfold Num.Safe; decide, (hc 1).trans (by rw [World.cell?_alloc_new]; rfl)⟩
        · exact ⟨5, by unfold Num.Safe; decide, (hc 2).trans (by rw [World.cell?_alloc_new]; rfl)⟩
        · exact ⟨23, by unfold Num.Safe; decide, (hc 3).trans (by rw [World.cell?_alloc_new]; rfl)⟩
        · exact ⟨29, by unfold Num.Safe; decide, (hc 4).trans (by rw [World.cell?_alloc_new]; rfl)⟩
        · exact ⟨41, by unfold Num.Safe; decide, (hc 5).trans (by rw [World.cell?_alloc_new]; rfl)⟩
        · exact ⟨53, by unfold Num.Safe; decide, (hc 6).trans (by rw [World.cell?_alloc_new]; rfl)⟩
        · exact ⟨83, by unfold Num.Safe; decide, (hc 7).trans (by rw [World.cell?_alloc_new]; rfl)⟩
      have hsp := safe_sprm hsafe
      have p3 := hsp.2.2.1
      have p4 := hsp.2.2.2
      have hb2 : Below w.heap.size w w2 := (HB1.out.alloc HB1.out.size _).grown hg2 (by have := HB1.out.size; simp; omega) (fun g hg => by injection hg with hg; omega)
      have HSP := Lib.hid hsp
      have HB2 := Lib.hid hb2
      have q1 : (0 : Int) ≤ (r : Int) := by omega
      have q2 : (r : Int) < 8 := by omega
      clear hd2 hg2 hc hsafe hsp hb2 HD1 HB1
      go_wp2_with fail
      refine (h_SquareN p text _ (by omega) (by omega) (by omega)).mono ?_
      rintro e w3 ⟨rfl, hb3⟩
      have hxg := sqN_grp HSP.out text
      have hxn := sqN_ne HSP.out text
      obtain ⟨x, hx⟩ : ∃ x, sqN p text = x := ⟨_, rfl⟩
      rw [hx] at hxg hxn ⊢
      have hxl := in_grp hxg
      have hb23 := HB2.out.trans (hb3.mono HB2.out.size)
      have HB3 := Lib.hid hb23
      have HXG := Lib.hid hxg
      clear hb3 hb23 hx hxg HB2 hcp
      have e1 : ((x : Int) == 1) = false := by simp; omega
      have HMX : ∀ W, BasesOk W → Calls Tryd.prog 25 #[.int .i64 (p : Int), .int .i64 (x : Int)] W (BoolBelow true W) := fun W hW => by
        have := h_Member p (x : Int) W hW HSP.out
        rwa [HXG.out] at this
      have hMX := Lib.hid HMX
      clear HMX
      go_wp2_with fail
      refine (hMX.out _ (HW.out.below HB3.out)).mono ?_
      rintro e w4 ⟨rfl, hb4⟩
      have hb34 := HB3.out.trans (hb4.mono HB3.out.size)
      have HB4 := Lib.hid hb34
      clear hb4 hb34 HB3
      -- the exponents
      have i0 := Int.emod_nonneg a (show (p : Int) ≠ 0 by omega)
      have i1 := Int.emod_lt_of_pos a (show 0 < (p : Int) by omega)
      have k0 := Int.emod_nonneg b (show (p : Int) ≠ 0 by omega)
      have k1 := Int.emod_lt_of_pos b (show 0 < (p : Int) by omega)
      obtain ⟨i, hi⟩ : ∃ i, a % (p : Int) = i := ⟨_, rfl⟩
      obtain ⟨k, hk⟩ : ∃ k, b % (p : Int) = k := ⟨_, rfl⟩
      rw [hi] at i0 i1
      rw [hk] at k0 k1
      have hma : ∀ W, Calls Tryd.prog 21 #[.int .i64 a, .int .i64 (p : Int)] W fun e w' => e = .returned (.int .i64 i) ∧ W = w' := fun W => by
        rw [← hi]; exact k_Mod a p W (by omega) (by omega)
      have hmb : ∀ W, Calls Tryd.prog 21 #[.int .i64 b, .int .i64 (p : Int)] W fun e w' => e = .returned (.int .i64 k) ∧ W = w' := fun W => by
        rw [← hk]; exact k_Mod b p W (by omega) (by omega)
      have HMA := Lib.hid hma
      have HMB := Lib.hid hmb
      clear hma hmb hi hk
      go_wp2_with (first
        | (go_at_call 21; ((with_reducible refine (HMA.out _).mono ?_); rintro e wk ⟨rfl, rfl⟩))
        | (go_at_call 21; ((with_reducible refine (HMB.out _).mono ?_); rintro e wk ⟨rfl, rfl⟩)))
      have fin : ∀ e : Int, 0 ≤ e → True := fun _ _ => trivial
      obtain ⟨X, hX⟩ : ∃ X : Int, (x : Int) = X := ⟨_, rfl⟩
      have x0 : 1 ≤ X := by omega
      have x1 : X < 2147483648 := by omega
      -- all powers
      have hpw : ∀ (e : Int) W, Calls Tryd.prog 19 #[.int .i64 (p : Int), .int .i64 X, .int .i64 e] W (IntBelow (pw (2 * p + 1) x (e % p).toNat : Int) W) := fun e W => by
        rw [← hX]; exact h_Power p x e W (by omega) p4 (by omega)
      have hpp : ∀ (d : Nat) (e : Int) W, Calls Tryd.prog 19 #[.int .i64 (p : Int), .int .i64 (pw (2 * p + 1) x d : Int), .int .i64 e] W (IntBelow (pw (2 * p + 1) x (d * (e % p).toNat % p) : Int) W) := fun d e W => by
        rw [pw_mod_exp (m := 2 * p + 1) (by omega) (grp_one HXG.out), ← pw_pw]
        have := pw_lt (m := 2 * p + 1) (by omega) x d
        exact h_Power p _ e W (by omega) p4 (by omega)
      have hI := Int.emod_eq_of_lt i0 i1
      have hK := Int.emod_eq_of_lt k0 k1
      obtain ⟨i', hi'⟩ := Int.eq_ofNat_of_zero_le i0
      obtain ⟨k', hk'⟩ := Int.eq_ofNat_of_zero_le k0
      have li : i' < p := by omega
      have lk : k' < p := by omega
      have mik0 : 0 ≤ i * k := Int.mul_nonneg i0 k0
      have mik1 : i * k ≤ 1073741823 * 1073741823 := by
        have a1 := Int.mul_le_mul_of_nonneg_right (show i ≤ 1073741823 by omega) k0
        have a2 := Int.mul_le_mul_of_nonneg_left (show k ≤ 1073741823 by omega) (show (0 : Int) ≤ 1073741823 by omega)
        omega
      obtain ⟨PA, hPA⟩ : ∃ z : Int, ((pw (2 * p + 1) x i' : Nat) : Int) = z := ⟨_, rfl⟩
      obtain ⟨PB, hPB⟩ : ∃ z : Int, ((pw (2 * p + 1) x k' : Nat) : Int) = z := ⟨_, rfl⟩
      obtain ⟨PC, hPC⟩ : ∃ z : Int, ((pw (2 * p + 1) x (i' + k') : Nat) : Int) = z := ⟨_, rfl⟩
      obtain ⟨PD, hPD⟩ : ∃ z : Int, ((pw (2 * p + 1) x (i' * k' % p) : Nat) : Int) = z := ⟨_, rfl⟩
      obtain ⟨PE, hPE⟩ : ∃ z : Int, ((pw (2 * p + 1) x (p - 1) : Nat) : Int) = z := ⟨_, rfl⟩
      have c1 : ∀ W, Calls Tryd.prog 19 #[.int .i64 (p : Int), .int .i64 X, .int .i64 i] W (IntBelow PA W) := fun W => by
        have := hpw i W; rw [hI, hi'] at this; rw [hi', ← hPA]; exact this
      have c2 : ∀ W, Calls Tryd.prog 19 #[.int .i64 (p : Int), .int .i64 X, .int .i64 k] W (IntBelow PB W) := fun W => by
        have := hpw k W; rw [hK, hk'] at this; rw [hk', ← hPB]; exact this
      have c3 : ∀ W, Calls Tryd.prog 19 #[.int .i64 (p : Int), .int .i64 X, .int .i64 (i + k)] W (IntBelow PC W) := fun W => by
        have := hpw (i + k) W
        rw [show ((i + k) % (p : Int)).toNat = (i' + k') % p by rw [hi', hk', ← Int.natCast_add, ← Int.natCast_emod]; rfl, pw_mod_exp (m := 2 * p + 1) (by omega) (grp_one HXG.out)] at this
        rw [← hPC]; exact this
      have c4 : ∀ W, Calls Tryd.prog 19 #[.int .i64 (p : Int), .int .i64 X, .int .i64 (i * k % p)] W (IntBelow PD W) := fun W => by
        have := hpw (i * k % p) W
        rw [show (i * k % (p : Int) % (p : Int)).toNat = i' * k' % p by rw [Int.emod_emod_of_dvd _ (Int.dvd_refl _), hi', hk', ← Int.natCast_mul, ← Int.natCast_emod]; rfl] at this
        rw [← hPD]; exact this
      have c5 : ∀ W, Calls Tryd.prog 19 #[.int .i64 (p : Int), .int .i64 PA, .int .i64 k] W (IntBelow PD W) := fun W => by
        have := hpp i' k W
        rw [hK, show k.toNat = k' by omega] at this
        rw [← hPD, ← hPA]; exact this
      have c6 : ∀ W, Calls Tryd.prog 29 #[.int .i64 (p : Int), .int .i64 PA, .int .i64 PB] W fun e w' => e = .returned (.int .i64 PC) ∧ W = w' := fun W => by
        have l1 := pw_lt (m := 2 * p + 1) (by omega) x i'
        have l2 := pw_lt (m := 2 * p + 1) (by omega) x k'
        have := h_Times p (pw (2 * p + 1) x i') (pw (2 * p + 1) x k') W p4 (by omega) (by omega)
        rw [pw_add] at this
        rw [← hPA, ← hPB, ← hPC]; exact this
      have c7 : ∀ W, Calls Tryd.prog 31 #[.int .i64 (p : Int), .int .i64 X] W (IntBelow PE W) := fun W => by
        rw [← hX, ← hPE]; exact h_Invert p x W (by omega) p4 (by omega)
      have c8 : ∀ W, Calls Tryd.prog 29 #[.int .i64 (p : Int), .int .i64 X, .int .i64 PE] W fun e w' => e = .returned (.int .i64 1) ∧ W = w' := fun W => by
        have l1 := pw_lt (m := 2 * p + 1) (by omega) x (p - 1)
        have := h_Times p x (pw (2 * p + 1) x (p - 1)) W p4 (by omega) (by omega)
        rw [pw_back HSP.out HXG.out] at this
        rw [← hX, ← hPE]; exact this
      -- behind the loop
      obtain ⟨J, hJ⟩ : ∃ J : Int, max 1 i = J := ⟨_, rfl⟩
      obtain ⟨j', hj'⟩ := Int.eq_ofNat_of_zero_le (show 0 ≤ J by omega)
      obtain ⟨V, hV⟩ : ∃ z : Int, ((pw p j' (p - 2) : Nat) : Int) = z := ⟨_, rfl⟩
      obtain ⟨PJ, hPJ⟩ : ∃ z : Int, ((pw (2 * p + 1) x j' : Nat) : Int) = z := ⟨_, rfl⟩
      have j1 : 1 ≤ j' := by omega
      have j2 : j' < p := by omega
      have c9 : ∀ W, Calls Tryd.prog 34 #[.int .i64 (p : Int), .int .i64 J] W fun e w' => e = .returned (.tuple #[.int .i64 V, .int .i64 0]) ∧ W = w' := fun W => by
        have := r_Inverse p J W (by omega) (by omega) (by omega) (by omega)
        rw [show J.toNat = j' by omega, hV] at this; exact this
      have c10 : ∀ W, Calls Tryd.prog 19 #[.int .i64 (p : Int), .int .i64 X, .int .i64 J] W (IntBelow PJ W) := fun W => by
        have := hpw J W; rw [Int.emod_eq_of_lt (by omega) (by omega), show J.toNat = j' by omega] at this; rw [← hPJ]; exact this
      have c11 : ∀ W, Calls Tryd.prog 19 #[.int .i64 (p : Int), .int .i64 PJ, .int .i64 V] W (IntBelow X W) := fun W => by
        have l1 := pw_lt (m := 2 * p + 1) (by omega) x j'
        have l2 := pw_lt (m := p) (by omega) j' (p - 2)
        have := h_Power p (pw (2 * p + 1) x j') V W (by omega) p4 (by omega)
        rw [Int.emod_eq_of_lt (by omega) (by omega), show V.toNat = pw p j' (p - 2) by omega, pw_blind HSP.out HXG.out j1 j2] at this
        rw [← hPJ, ← hX]; exact this
      -- the powers one by one
      obtain ⟨f, hf⟩ : ∃ f : Nat → Int, ∀ j, f j = ((pw (2 * p + 1) x j : Nat) : Int) := ⟨_, fun _ => rfl⟩
      have c12 : ∀ W (e : Nat), e < p → Calls Tryd.prog 19 #[.int .i64 (p : Int), .int .i64 X, .int .i64 (e : Int)] W (IntBelow (f e) W) := fun W e he => by
        have := hpw e W; rw [Int.emod_eq_of_lt (by omega) (by omega), Int.toNat_natCast] at this; rw [hf]; exact this
      have c13 : ∀ W (e : Nat), BasesOk W → Calls Tryd.prog 25 #[.int .i64 (p : Int), .int .i64 (f e)] W (BoolBelow true W) := fun W e hW => by
        have := h_Member p (f e) W hW HSP.out
        rw [hf, pw_grp HSP.out HXG.out] at this; rw [hf]; exact this
      have f1 : ∀ e, 0 ≤ f e ∧ f e < 2147483648 := fun e => by
        have := pw_lt (m := 2 * p + 1) (by omega) x e
        rw [hf]; omega
      have f2 : ∀ i j, i < p → j < p → i ≠ j → f i ≠ f j := fun i j hi hj hne h => by
        rw [hf, hf] at h
        exact hne (pw_injx HSP.out HXG.out hxn hi hj (by exact_mod_cast h))
      have C1 := Lib.hid c1
      have C2 := Lib.hid c2
      have C3 := Lib.hid c3
      have C4 := Lib.hid c4
      have C5 := Lib.hid c5
      have C6 := Lib.hid c6
      have C7 := Lib.hid c7
      have C8 := Lib.hid c8
      have C9 := Lib.hid c9
      have C10 := Lib.hid c10
      have C11 := Lib.hid c11
      have C12 := Lib.hid c12
      have C13 := Lib.hid c13
      have F1 := Lib.hid f1
      have F2 := Lib.hid f2
      have HJ := Lib.hid hJ
      have pz1 : ((p : Int) == 0) = false := by simp; omega
      have pz2 : ¬ p = 0 := by omega
      have wi1 := (IntWalk.i64_in (i + k) ⟨by omega, by omega⟩)
      have wi2 := (IntWalk.i64_in (i * k) ⟨by omega, by omega⟩)
      have wi3 := (Int.tmod_eq_emod_of_nonneg (b := (p : Int)) mik0)
      have wi4 := (IntWalk.i64_in (i * k % (p : Int)) ⟨by have := Int.emod_nonneg (i * k) (show (p : Int) ≠ 0 by omega); omega, by have := Int.emod_lt_of_pos (i * k) (show 0 < (p : Int) by omega); omega⟩)
      rw [hX]
      clear c1 c2 c3 c4 c5 c6 c7 c8 c9 c10 c11 c12 c13 f1 f2 hf hpw hpp hPA hPB hPC hPD hPE hV hPJ hj' hJ hi' hk' hI hK li lk j1 j2 hX fin hxn hxl e1 hMX
      go_region_held3 (fun w' => Below w.heap.size w w')
        (first
          | exact HB4.out.drew
          | exact Below.trans ‹Below w.heap.size w _› (hbk.mono (‹Below w.heap.size w _›).size)
          | assumption)
        (first
          | (go_at_call 19; ((with_reducible refine (C1.out _).mono ?_); rintro e wk ⟨rfl, hbk⟩))
          | (go_at_call 19; ((with_reducible refine (C2.out _).mono ?_); rintro e wk ⟨rfl, hbk⟩))
          | (go_at_call 19; ((with_reducible refine (C3.out _).mono ?_); rintro e wk ⟨rfl, hbk⟩))
          | (go_at_call 19; ((with_reducible refine (C4.out _).mono ?_); rintro e wk ⟨rfl, hbk⟩))
          | (go_at_call 19; ((with_reducible refine (C5.out _).mono ?_); rintro e wk ⟨rfl, hbk⟩))
          | (go_at_call 29; ((with_reducible refine (C6.out _).mono ?_); rintro e wk ⟨rfl, rfl⟩))
          | (go_at_call 31; ((with_reducible refine (C7.out _).mono ?_); rintro e wk ⟨rfl, hbk⟩))
          | (go_at_call 29; ((with_reducible refine (C8.out _).mono ?_); rintro e wk ⟨rfl, rfl⟩))
          | (go_at_call 19; trace_state; fail))
      all_goals
        have hb9 : Below w.heap.size w wk := by assumption
        have HB9 := Lib.hid hb9
        have hbm := hb9.size
        clear C1 C2 C3 C4 C5 C6 C7 C8 wi1 wi2 wi3 wi4 hb9
        have hmm := @run_makeMap Tryd.prog
        obtain ⟨w9, hw9⟩ : ∃ w9, wk = w9 := ⟨_, rfl⟩
        subst hw9
        go_wp2_with fail
        go_loopw [98] (fun i wr => ∃ (k : Nat) (D : DataW Unit), k ≤ p ∧ i = .int .i64 k ∧ wr.ownsMap Tryd.prog 3 (plainElem Tryd.prog 4) wk.heap.size k D ∧ (∀ y, (∀ j, j < k → f j ≠ y) → Maps.has D (.int .i64 y) = false) ∧ Below w.heap.size w wr ∧ wk.heap.size < wr.heap.size)
          (fun i _ => p - (intOf i).toNat)
        case atStart => exact ⟨0, .map [], Nat.zero_le _, rfl, World.ownsMap_made _ _ _ _, fun y _ => rfl, HB9.out.alloc HB9.out.size _, by simp⟩
        case round =>
          obtain ⟨d, D, hd, rfl, hown, hhas, hbl, hsz⟩ := hrel
          have HB := Lib.hid hbl
          have HH := Lib.hid hhas
          clear hbl hhas
          by_cases hl : d < p
          · have qd : (d : Int) < (p : Int) := by omega
            go_wp2_with fail
            refine (C12.out _ d hl).mono ?_
            rintro e u1 ⟨rfl, hu1⟩
            have hmem := C13.out u1 d
            have fb := F1.out d
            obtain ⟨y, hy⟩ : ∃ y, f d = y := ⟨_, rfl⟩
            rw [hy] at fb hmem ⊢
            have own1 := hown.kept (gbOf hu1 none) (by simp)
            have bl1 := HB.out.trans (hu1.mono HB.out.size)
            have hnew := HH.out y (fun j hj e => F2.out j d (by omega) hl (by omega) (e.trans hy.symm))
            have hlk := lookup_false own1 y (WalkArith.wf_i64 (by omega)) hnew
            have hsu := hu1.size
            have HMM := Lib.hid hmem
            have HO1 := Lib.hid own1
            have HBL1 := Lib.hid bl1
            have HNEW := Lib.hid hnew
            have HY := Lib.hid hy
            clear hmem hy own1 bl1 hnew hu1 hown HB
            go_wp2_with fail
            refine (HMM.out (HW.out.below HBL1.out)).mono ?_
            rintro e u2 ⟨rfl, hu2⟩
            have own2 := HO1.out.kept (gbOf hu2 none) (by simp)
            have bl2 := HBL1.out.trans (hu2.mono HBL1.out.size)
            have hsu2 := hu2.size
            have HBL2 := Lib.hid bl2
            clear hlk HO1 hu2 bl2 HBL1
            go_wp2_with (at_mapUpdate; refine wpList_mapUpdate_own _ rfl _ _ _ 49 rfl 3 4 lawI Tryd.underlying49 (plainElem (H := Unit) Tryd.prog 4) wk.heap.size d _ rfl own2 (by unfold maxLen; omega) _ _ _ rfl rfl (keyOf_int_mk Tryd.underlying3 (WalkArith.wf_i64 (by omega))) _ [] (plainElem_bool Tryd.underlying4 true) ?_)
            intro u3 own3 hgrow3
            have hh3 : ∀ z, (∀ j, j < d + 1 → f j ≠ z) → Maps.has (D.put (.int .i64 y) (.lit (.bool true))) (.int .i64 z) = false := fun z hz => by
              rw [has_put_other (fun e => hz d (by omega) (by rw [HY.out]; injection e with _ e; exact e.symm))]
              exact HH.out z fun j hj => hz j (by omega)
            have hb3 := HBL2.out.grown hgrow3 HBL2.out.size (fun j hj => by cases hj; exact hbm)
            have hs3 := hgrow3.size
            have HO3 := Lib.hid own3
            have HH3 := Lib.hid hh3
            have HB3 := Lib.hid hb3
            clear own3 hgrow3 hh3 hb3 own2
            go_wp2_with fail
            go_roundw
            case measure => simp [intOf]; omega
            case rel => exact ⟨d + 1, _, by omega, by go_num, HO3.out, HH3.out, HB3.out, by omega⟩
          · have hdp : d = p := by omega
            subst hdp
            have HJ2 := HJ.out
            go_wp2_with fail
            try rw [HJ2]
            refine (C9.out _).mono ?_
            rintro e u1 ⟨rfl, rfl⟩
            try clear HJ2
            go_wp2_with fail
            try rw [HJ.out]
            refine (C10.out _).mono ?_
            rintro e u2 ⟨rfl, hu2⟩
            have bl2 := HB.out.trans (hu2.mono HB.out.size)
            have HBL2 := Lib.hid bl2
            clear hu2 bl2 HB hown
            go_wp2_with fail
            refine (C11.out _).mono ?_
            rintro e u3 ⟨rfl, hu3⟩
            have bl3 := HBL2.out.trans (hu3.mono HBL2.out.size)
            have HBL3 := Lib.hid bl3
            clear hu3 bl3 HBL2
            go_wp2_with fail
            refine (l_awake _ (HW.out.below HBL3.out)).mono ?_
            rintro e u4 ⟨rfl, hu4⟩
            have bl4 := HBL3.out.trans (hu4.mono HBL3.out.size)
            go_wp2_with fail
            go_ret
            exact ⟨rfl, bl4⟩
    · have t2 : decide ((200 : Int) < (text.size : Int)) = true := decide_eq_true (by omega)
      have HW := Lib.hid hw
      clear hw ha
      go_enter Tryd.func5, Tryd.ntmps5
      go_wp2_with fail
      refine (k_Light A n c _ hn).mono ?_
      rintro e w' ⟨rfl, rfl⟩
      go_wp2_with fail
      refine (l_awake _ HW.out).mono ?_
      rintro e w1 ⟨rfl, hb1⟩
      go_wp2_with fail
      go_ret
      exact ⟨rfl, hb1⟩
  · have t1 : decide ((n : Int) ≤ 500) = false := decide_eq_false (by omega)
    have HW := Lib.hid hw
    clear hw ha
    go_enter Tryd.func5, Tryd.ntmps5
    go_wp2_with fail
    refine (k_Light A n c _ hn).mono ?_
    rintro e w' ⟨rfl, rfl⟩
    go_wp2_with fail
    refine (l_awake _ HW.out).mono ?_
    rintro e w1 ⟨rfl, hb1⟩
    go_wp2_with fail
    go_ret
    exact ⟨rfl, hb1⟩
end Go.Proofs.YtmneokkdkgflkaaDoor
