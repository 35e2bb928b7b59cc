/- The law on signatures that are verified. -/
import Derived.Test.YtmneokkdkgflkaaDoorHanAwk
set_option linter.unusedVariables false
set_option linter.unusedSimpArgs false
namespace Go.Proofs.YtmneokkdkgflkaaDoor
open Go.RowKit Num

theorem base_grp {p : Nat} (hp : SPrm p) : inG p (2 * p + 1) ((4 : Nat) : Int) = true := by
  have h3 := hp.2.2.1
  have := sq_grp hp (y := 2) (by omega) (by omega)
  rwa [show 2 * 2 % (2 * p + 1) = 4 by rw [Nat.mod_eq_of_lt (by omega)]] at this
theorem grp_one {p x : Nat} (h : inG p (2 * p + 1) (x : Int) = true) : pw (2 * p + 1) x p = 1 := by
  simp only [inG, decide_eq_true_eq, Int.toNat_natCast] at h; exact h.2.2
theorem pw_inj4 {p i k : Nat} (hp : SPrm p) (hi : i < p) (hk : k < p) (h : pw (2 * p + 1) 4 i = pw (2 * p + 1) 4 k) : i = k := by
  have h3 := hp.2.2.1
  exact pw_inj (by omega) hp.1 (grp_one (base_grp hp)) (by rw [Nat.mod_eq_of_lt (by omega)]; decide) hi hk h
theorem sigS_lt {p : Nat} (hp : SPrm p) (key nonce : Nat) (text : ByteArray) : sigS p key nonce text < p := Nat.mod_lt _ (by have := hp.2.2.1; omega)
/-- Just the answer of the signature is verified. -/
theorem vfy_iff {p : Nat} (hp : SPrm p) (key nonce : Nat) (text : ByteArray) (s : Nat) (hs : s < p) :
    vfy p (pw (2 * p + 1) 4 key) text (pw (2 * p + 1) 4 nonce) s = decide (s = sigS p key nonce text) := by
  have h3 := hp.2.2.1
  have h4 := grp_one (base_grp hp)
  have key1 : pw (2 * p + 1) 4 (sigS p key nonce text) = pw (2 * p + 1) 4 nonce * pw (2 * p + 1) (pw (2 * p + 1) 4 key) (chal p (pw (2 * p + 1) 4 nonce) (pw (2 * p + 1) 4 key) text).toNat % (2 * p + 1) := by
    unfold sigS
    rw [pw_mod_exp (by omega) h4, ← pw_add, pw_mod_exp (by omega) h4, pw_pw]
  unfold vfy
  rw [← key1]
  rw [decide_eq_decide]
  exact ⟨fun h => pw_inj4 hp hs (sigS_lt hp _ _ _) h, fun h => by rw [h]⟩

set_option maxRecDepth 100000 in
set_option maxHeartbeats 4000000 in
theorem l_Verifies (v : Value) (text : ByteArray) (other : Int) (w : World) (hw : BasesOk w) (A : Option Addr) (n c : Nat) (hv : v = .slice A n c) (hn : n ≤ 9223372036854775807) (hz : text.size ≤ 9223372036854775807) (ha : n ≤ 500 → ArgL w v) :
    Calls Tryd.prog 7 #[v, .string text, .int .i64 other] w (BoolBelow true w) := by
  subst hv
  by_cases h5 : n ≤ 500
  · have t1 : decide ((n : Int) ≤ 500) = true := decide_eq_true (by omega)
    have ha := ha h5
    by_cases h3 : text.size ≤ 300
    · have t2 : decide ((300 : Int) < (text.size : Int)) = false := decide_eq_false (by omega)
      have HW := Lib.hid hw
      have HA := Lib.hid ha
      clear hw ha
      go_enter Tryd.func7, Tryd.ntmps7
      go_wp2_with fail
      refine (k_Light A n c _ hn).mono ?_
      rintro e w' ⟨rfl, rfl⟩
      go_wp2_with fail
      refine (k_Roll _ _ HA.out).mono ?_
      rintro e w1 ⟨rfl, hd1, hb1⟩
      go_wp2_with fail
      refine (k_Safe _ _ hd1).mono ?_
      rintro e w2 ⟨p, hsafe, rfl, hd2, hg2⟩
      have hsp := safe_sprm hsafe
      have p3 := hsp.2.2.1
      have p4 := hsp.2.2.2
      have hlt1 := hd1.lt
      have hb2 : Below w.heap.size w w2 := hb1.grown hg2 (by omega) (fun g hg => by injection hg with hg; omega)
      have HSP := Lib.hid hsp
      clear hd1 hb1 hg2 hsafe hsp
      go_wp2_with fail
      have e1 : ((p : Int) - 1) = ((p - 1 : Nat) : Int) := by omega
      rw [e1]
      refine (k_Next w.heap.size (p - 1) _ hd2 (by omega) (by omega)).mono ?_
      rintro e w3 ⟨r1, hr1, rfl, hd3, hg3⟩
      have hlt2 := hd2.lt
      have hb3 : Below w.heap.size w w3 := hb2.grown hg3 (by omega) (fun g hg => by injection hg with hg; omega)
      clear hd2 hg3 hb2
      go_wp2_with fail
      try rw [e1]
      refine (k_Next w.heap.size (p - 1) _ hd3 (by omega) (by omega)).mono ?_
      rintro e w4 ⟨r2, hr2, rfl, hd4, hg4⟩
      have hlt3 := hd3.lt
      have hb4 : Below w.heap.size w w4 := hb3.grown hg4 (by omega) (fun g hg => by injection hg with hg; omega)
      have hlt4 := hd4.lt
      have HB4 := Lib.hid hb4
      clear hd3 hg4 hb3 hd4 hb4 e1
      go_wp2_with fail
      have e2 : (1 + (r1 : Int)) = ((1 + r1 : Nat) : Int) := by omega
      have e3 : (1 + (r2 : Int)) = ((1 + r2 : Nat) : Int) := by omega
      rw [e2, e3]
      obtain ⟨key, hkey⟩ : ∃ k, 1 + r1 = k := ⟨_, rfl⟩
      obtain ⟨nonce, hnonce⟩ : ∃ k, 1 + r2 = k := ⟨_, rfl⟩
      rw [hkey, hnonce]
      have k1 : 1 ≤ key := by omega
      have k2 : key < p := by omega
      have m1 : 1 ≤ nonce := by omega
      have m2 : nonce < p := by omega
      clear e2 e3 hkey hnonce
      refine (h_Sign p key nonce text _ (HW.out.below HB4.out) HSP.out k1 k2 m1 m2 (by omega)).mono ?_
      rintro e w5 ⟨rfl, hb5⟩
      have hvf := vfy_iff HSP.out key nonce text
      have gR := pw_grp (e := nonce) HSP.out (base_grp HSP.out)
      have gY := pw_grp (e := key) HSP.out (base_grp HSP.out)
      have lS := sigS_lt HSP.out key nonce text
      have hpub := fun W => h_Public p (key : Int) W (by omega) p4
      rw [show ((key : Int) % (p : Int)).toNat = key by rw [Int.emod_eq_of_lt (by omega) (by omega)]; rfl] at hpub
      obtain ⟨R, hR⟩ : ∃ R, pw (2 * p + 1) 4 nonce = R := ⟨_, rfl⟩
      obtain ⟨Y, hY⟩ : ∃ Y, pw (2 * p + 1) 4 key = Y := ⟨_, rfl⟩
      obtain ⟨SG, hSG⟩ : ∃ SG, sigS p key nonce text = SG := ⟨_, rfl⟩
      rw [hR] at hvf gR ⊢
      rw [hY] at hvf gY hpub
      rw [hSG] at hvf lS ⊢
      have hb45 := HB4.out.trans (hb5.mono HB4.out.size)
      have s5 := hb5.size
      have HB5 := Lib.hid hb45
      have HVF := Lib.hid hvf
      have HGR := Lib.hid gR
      have HGY := Lib.hid gY
      have HPUB := Lib.hid hpub
      clear hb5 hb45 hvf gR gY hpub hR hY hSG HB4
      go_wp2_with fail
      refine (HPUB.out _).mono ?_
      rintro e w6 ⟨rfl, hb6⟩
      have kb6 := (Blk.new w5 53 #[.int .i64 (R : Int), .int .i64 (SG : Int)]).below hb6 (by simp)
      have hb56 := (HB5.out.alloc HB5.out.size (.cells #[.int .i64 (R : Int), .int .i64 (SG : Int)] 53)).trans (hb6.mono (by simp; have := HB5.out.size; omega))
      have l56 : w5.heap.size < w6.heap.size := kb6.lt
      have l5 := HB5.out.size
      have c0 : w6.cell? ⟨w5.heap.size, 0, none⟩ = some (.int .i64 (R : Int)) := kb6.cell 0
      have c1 : w6.cell? ⟨w5.heap.size, 1, none⟩ = some (.int .i64 (SG : Int)) := kb6.cell 1
      have HB6 := Lib.hid hb56
      clear hb6 kb6 hb56
      have o0 := Int.emod_nonneg other (show (p : Int) ≠ 0 by omega)
      have o1 := Int.emod_lt_of_pos other (show 0 < (p : Int) by omega)
      obtain ⟨o2, ho2⟩ := Int.eq_ofNat_of_zero_le o0
      have hmod : ∀ W, Calls Tryd.prog 21 #[.int .i64 other, .int .i64 (p : Int)] W fun e w' => e = .returned (.int .i64 (o2 : Int)) ∧ W = w' := fun W => by
        rw [← ho2]; exact k_Mod other p W (by omega) (by omega)
      have ol : o2 < p := by omega
      have hV1 : ∀ W, BasesOk W → Calls Tryd.prog 39 #[.int .i64 (p : Int), .int .i64 (Y : Int), .string text, .agg #[.int .i64 (R : Int), .int .i64 (SG : Int)]] W (BoolBelow true W) := fun W hW => by
        have := h_Verify p Y R SG text W hW HSP.out HGY.out HGR.out lS (by omega)
        rwa [HVF.out SG lS, decide_eq_true rfl] at this
      have hV2 : ∀ W, BasesOk W → Calls Tryd.prog 39 #[.int .i64 (p : Int), .int .i64 (Y : Int), .string text, .agg #[.int .i64 (R : Int), .int .i64 (o2 : Int)]] W (BoolBelow (decide (o2 = SG)) W) := fun W hW => by
        have := h_Verify p Y R o2 text W hW HSP.out HGY.out HGR.out ol (by omega)
        rwa [HVF.out o2 ol] at this
      have bs6 := HW.out.below HB6.out
      have HM := Lib.hid hmod
      have HV1 := Lib.hid hV1
      have HV2 := Lib.hid hV2
      have HBS := Lib.hid bs6
      clear hmod hV1 hV2 bs6 ho2 o0 o1
      go_wp2_with fail
      go_region_held3 (fun w' => w'.cell? ⟨w5.heap.size, 0, none⟩ = some (.int .i64 (R : Int)) ∧ w'.cell? ⟨w5.heap.size, 1, none⟩ = some (.int .i64 (SG : Int)) ∧ Below w6.heap.size w6 w' ∧ w5.heap.size < w'.heap.size)
        (first
          | exact ⟨c0, c1, (Below.refl _ _).drew, l56⟩
          | exact ⟨((((Below.refl _ _).alloc (Nat.le_refl _) _).drew).cell (p := ⟨w5.heap.size, 0, none⟩) l56).trans c0, ((((Below.refl _ _).alloc (Nat.le_refl _) _).drew).cell (p := ⟨w5.heap.size, 1, none⟩) l56).trans c1, ((Below.refl _ _).alloc (Nat.le_refl _) _).drew, by simp; omega⟩)
        (first
          | (go_at_call 21; ((with_reducible refine (HM.out _).mono ?_); rintro e wk ⟨rfl, rfl⟩)))
      all_goals
        have hb7 : Below w6.heap.size w6 (w6.alloc (.cells #[.int .i64 (R : Int), .int .i64 (o2 : Int)] 53)).drew := ((Below.refl _ _).alloc (Nat.le_refl _) _).drew
        have e0 : (w6.alloc (.cells #[.int .i64 (R : Int), .int .i64 (o2 : Int)] 53)).drew.cell? ⟨w6.heap.size, 0, none⟩ = some (.int .i64 (R : Int)) := by
          show (w6.alloc _).cell? _ = _; rw [World.cell?_alloc_new]; rfl
        have e1 : (w6.alloc (.cells #[.int .i64 (R : Int), .int .i64 (o2 : Int)] 53)).drew.cell? ⟨w6.heap.size, 1, none⟩ = some (.int .i64 (o2 : Int)) := by
          show (w6.alloc _).cell? _ = _; rw [World.cell?_alloc_new]; rfl
        have d0 := (hb7.cell (p := ⟨w5.heap.size, 0, none⟩) l56).trans c0
        have d1 := (hb7.cell (p := ⟨w5.heap.size, 1, none⟩) l56).trans c1
        have l67 : w6.heap.size < (w6.alloc (.cells #[.int .i64 (R : Int), .int .i64 (o2 : Int)] 53)).drew.heap.size := by simp
        have hbo := HBS.out.below hb7
        have hbz := HB6.out.trans (hb7.mono HB6.out.size)
        go_split_ands
        clear hb7
        generalize (w6.alloc (.cells #[.int .i64 (R : Int), .int .i64 (o2 : Int)] 53)).drew = W7 at *
        go_wp2_with fail
        have l57 : w5.heap.size < W7.heap.size := by omega
        rcases (show ((o2 : Int) == (SG : Int)) = true ∧ decide (o2 = SG) = true ∨ ((o2 : Int) == (SG : Int)) = false ∧ decide (o2 = SG) = false by
            by_cases hos : o2 = SG
            · left; simp [hos]
            · right; simp [hos]; omega) with ⟨f1, f2⟩ | ⟨f1, f2⟩
      all_goals
        have hV3 := HV2.out
        rw [f2] at hV3
        have HV3 := Lib.hid hV3
        clear hV3 f2
        go_region_held3 (fun w' => w'.cell? ⟨w5.heap.size, 0, none⟩ = some (.int .i64 (R : Int)) ∧ w'.cell? ⟨w5.heap.size, 1, none⟩ = some (.int .i64 (SG : Int)) ∧ w'.cell? ⟨w6.heap.size, 0, none⟩ = some (.int .i64 (R : Int)) ∧ w'.cell? ⟨w6.heap.size, 1, none⟩ = some (.int .i64 (o2 : Int)) ∧ BasesOk w' ∧ Below w.heap.size w w' ∧ w6.heap.size < w'.heap.size)
          (first
            | exact ⟨d0, d1, e0, e1, hbo, hbz.drew, l67⟩
            | (go_split_ands
               refine ⟨?_, ?_, ?_, ?_, ?_, ?_, ?_⟩
               · (rw [hbk.cell (by simp; omega)]; assumption)
               · (rw [hbk.cell (by simp; omega)]; assumption)
               · (rw [hbk.cell (by simp; omega)]; assumption)
               · (rw [hbk.cell (by simp; omega)]; assumption)
               · exact BasesOk.below ‹BasesOk _› hbk
               · exact Below.trans ‹Below w.heap.size w _› (hbk.mono (‹Below w.heap.size w _›).size)
               · (have := hbk.size; omega)))
          (first
            | (go_split_ands; go_at_call 39; ((with_reducible refine (HV1.out _ (by assumption)).mono ?_); rintro e wk ⟨rfl, hbk⟩))
            | (go_split_ands; go_at_call 39; ((with_reducible refine (HV3.out _ (by assumption)).mono ?_); rintro e wk ⟨rfl, hbk⟩))
            | (go_split_ands; go_at_call 10; ((with_reducible refine (l_awake _ (by assumption)).mono ?_); rintro e wk ⟨rfl, hbk⟩)))
      all_goals
        go_split_ands
        have hbf : Below w.heap.size w wk := by assumption
        clear HB5 HB6
        go_wp2_with fail
        go_ret
        exact ⟨rfl, hbf⟩
    · have t2 : decide ((300 : Int) < (text.size : Int)) = true := decide_eq_true (by omega)
      have HW := Lib.hid hw
      clear hw ha
      go_enter Tryd.func7, Tryd.ntmps7
      go_wp2_with fail
      refine (k_Light A n c _ hn).mono ?_
      rintro e w' ⟨rfl, rfl⟩
      go_wp2_with fail
      refine (l_awake _ HW.out).mono ?_
      rintro e w1 ⟨rfl, hb1⟩
      go_wp2_with fail
      go_ret
      exact ⟨rfl, hb1⟩
  · have t1 : decide ((n : Int) ≤ 500) = false := decide_eq_false (by omega)
    have HW := Lib.hid hw
    clear hw ha
    go_enter Tryd.func7, Tryd.ntmps7
    go_wp2_with fail
    refine (k_Light A n c _ hn).mono ?_
    rintro e w' ⟨rfl, rfl⟩
    go_wp2_with fail
    refine (l_awake _ HW.out).mono ?_
    rintro e w1 ⟨rfl, hb1⟩
    go_wp2_with fail
    go_ret
    exact ⟨rfl, hb1⟩
end Go.Proofs.YtmneokkdkgflkaaDoor
