/- The law on the polynomial that has most points. What a slice of ints that is read as data gives. What a slice of ints that is read as data gives, at any length. -/
import Derived.Test.YtjfphobfikadlaaDoorN29
import Derived.Test.YtjfphobfikadlaaDoorN30
import Derived.Test.YtjfphobfikadlaaDoorN40
import Derived.Test.YtjfphobfikadlaaDoorN41
import Derived.BigQuiet
import Derived.Test.YtjfphobfikadlaaDoorN03
import Derived.ProofKit
import Derived.SizedLaws
import Derived.Test.YtjfphobfikadlaaDoorN04
set_option linter.unusedVariables false
set_option linter.unusedSimpArgs false
namespace Go.Proofs.YtjfphobfikadlaaDoor
open Go.RowKit Num

theorem val_of (p : Int) (hp : IntR p) : ∃ val : Bool, (val = true ↔ VPrm p) ∧ ∀ W, BasesOk W → Calls Tryd.prog 54 #[.int .i64 p] W fun e w' => e = .returned (.bool val) ∧ W = w' :=
  ⟨_, by simp, fun W h => f_ValidG p W h hp.1 hp.2⟩
set_option maxRecDepth 100000 in
set_option maxHeartbeats 4000000 in
/-- What is too long. -/
theorem l_OneBad (p need lies : Int) (A1 A2 : Option Addr) (n1 c1 n2 c2 : Nat) (w : World) (hw : BasesOk w) (A : Option Addr) (n c : Nat) (hn : n ≤ 9223372036854775807)
    (hn1 : n1 ≤ 9223372036854775807) (hn2 : n2 ≤ 9223372036854775807) (h : ¬ (n ≤ 500 ∧ n1 ≤ 20 ∧ n2 ≤ 20)) :
    Calls Tryd.prog 5 #[.slice A n c, .int .i64 p, .int .i64 need, .int .i64 lies, .slice A1 n1 c1, .slice A2 n2 c2] w (BoolBelow true w) := by
  by_cases h5 : n ≤ 500
  case neg =>
    have t1 : decide ((n : Int) ≤ 500) = false := decide_eq_false (by omega)
    have HW := Lib.hid hw
    clear hw h h5
    go_enter Tryd.func5, Tryd.ntmps5
    go_wp2_with fail
    refine (k_Light A n c _ hn).mono ?_
    rintro e w' ⟨rfl, rfl⟩
    go_wp2_with fail
    refine (l_awake _ HW.out).mono ?_
    rintro e w1 ⟨rfl, hb1⟩
    go_wp2_with fail
    go_ret
    exact ⟨rfl, hb1⟩
  have t1 : decide ((n : Int) ≤ 500) = true := decide_eq_true (by omega)
  by_cases h20 : n1 ≤ 20
  case neg =>
    have t2 : decide ((20 : Int) < (n1 : Int)) = true := decide_eq_true (by omega)
    have t3 : decide (20 < n1) = true := decide_eq_true (by omega)
    have HW := Lib.hid hw
    clear hw h h5
    go_enter Tryd.func5, Tryd.ntmps5
    go_wp2_with fail
    refine (k_Light A n c _ hn).mono ?_
    rintro e w' ⟨rfl, rfl⟩
    go_wp2_with fail
    refine (l_awake _ HW.out).mono ?_
    rintro e w1 ⟨rfl, hb1⟩
    go_wp2_with fail
    go_ret
    exact ⟨rfl, hb1⟩
  have t2 : decide ((20 : Int) < (n1 : Int)) = false := decide_eq_false (by omega)
  have t3 : decide (20 < n1) = false := decide_eq_false (by omega)
  have t4 : decide ((20 : Int) < (n2 : Int)) = true := decide_eq_true (by omega)
  have t5 : decide (20 < n2) = true := decide_eq_true (by omega)
  have HW := Lib.hid hw
  clear hw h h5
  go_enter Tryd.func5, Tryd.ntmps5
  go_wp2_with fail
  refine (k_Light A n c _ hn).mono ?_
  rintro e w' ⟨rfl, rfl⟩
  go_wp2_with fail
  refine (l_awake _ HW.out).mono ?_
  rintro e w1 ⟨rfl, hb1⟩
  go_wp2_with fail
  go_ret
  exact ⟨rfl, hb1⟩
set_option maxRecDepth 100000 in
set_option maxHeartbeats 16000000 in
theorem l_One (v : Value) (p need lies : Int) (A1 A2 : Option Addr) (n1 c1 n2 c2 : Nat) (X Y : List Int) (w : World) (hw : BasesOk w) (A : Option Addr) (n c : Nat) (hv : v = .slice A n c) (hn : n ≤ 9223372036854775807) (ha : n ≤ 500 → ArgL w v)
    (hp : IntR p) (hneed : IntR need) (hlies : IntR lies) (hn1 : n1 ≤ 9223372036854775807) (hn2 : n2 ≤ 9223372036854775807) (hx : IntsAt w (fun b => b < w.heap.size) (.slice A1 n1 c1) X) (hy : IntsAt w (fun b => b < w.heap.size) (.slice A2 n2 c2) Y) :
    Calls Tryd.prog 5 #[v, .int .i64 p, .int .i64 need, .int .i64 lies, .slice A1 n1 c1, .slice A2 n2 c2] w (BoolBelow true w) := by
  subst hv
  have hmx : Tryd.prog.follows .mixedOrders = true := by kernel_rfl
  by_cases hall : n ≤ 500 ∧ n1 ≤ 20 ∧ n2 ≤ 20
  case neg => exact l_OneBad p need lies A1 A2 n1 c1 n2 c2 w hw A n c hn hn1 hn2 hall
  obtain ⟨h5, h20, h21⟩ := hall
  have t1 : decide ((n : Int) ≤ 500) = true := decide_eq_true (by omega)
  have t2 : decide ((20 : Int) < (n1 : Int)) = false := decide_eq_false (by omega)
  have t3 : decide (20 < n1) = false := decide_eq_false (by omega)
  have t4 : decide ((20 : Int) < (n2 : Int)) = false := decide_eq_false (by omega)
  have t5 : decide (20 < n2) = false := decide_eq_false (by omega)
  replace ha := ha h5
  have lX : X.length ≤ 20 := by obtain ⟨_, _, _, e, hl, _⟩ := hx; injection e; omega
  have lY : Y.length ≤ 20 := by obtain ⟨_, _, _, e, hl, _⟩ := hy; injection e; omega
  have HW := Lib.hid hw
  have HA := Lib.hid ha
  have HX := Lib.hid hx
  have HY := Lib.hid hy
  have HPR0 := Lib.hid hp
  have HNE := Lib.hid hneed
  have HLI := Lib.hid hlies
  have HLX := Lib.hid lX
  have HLY := Lib.hid lY
  clear hw ha hx hy hp hneed hlies lX lY
  go_enter Tryd.func5, Tryd.ntmps5
  go_wp2_with fail
  refine (k_Light A n c _ hn).mono ?_
  rintro e w' ⟨rfl, rfl⟩
  go_wp2_with fail
  refine (k_Roll _ _ HA.out).mono ?_
  rintro e w1 ⟨rfl, hd1, hb1⟩
  have hlt1 := hd1.lt
  obtain ⟨d, hd⟩ : ∃ d, w.heap.size = d := ⟨_, rfl⟩
  rw [hd] at hd1 hb1 hlt1 ⊢
  have HD := Lib.hid hd
  have HD1 := Lib.hid hd1
  have HB1 := Lib.hid hb1
  clear hd hd1 hb1 HA
  go_wp2_with fail
  refine (k_Prime d _ HD1.out).mono ?_
  rintro e w2 ⟨q, hkp, rfl, hd2, hg2⟩
  obtain ⟨hpr, hp5⟩ := kitP_prm hkp
  have p2 := hpr.1
  have hb2 : Below d w w2 := HB1.out.grown hg2 (by omega) (fun g hg => by injection hg with hg; omega)
  have HPR := Lib.hid hpr
  have HB2 := Lib.hid hb2
  have HD2 := Lib.hid hd2
  clear hkp hpr hb2 hd2 hg2 HD1 HB1
  go_wp2_with fail
  refine (k_Plan d q _ HD2.out p2 (by omega)).mono ?_
  rintro e w3 ⟨nd, hold, q1, q2, q3, q4, rfl, hd3, hg3⟩
  have l2 := HD2.out.lt
  have hb3 : Below d w w3 := HB2.out.grown hg3 (by omega) (fun g hg => by injection hg with hg; omega)
  have l3 := hd3.lt
  have hst3 : St d w3.heap.size q nd hold w (w3.alloc (.cells #[.int .i64 (q : Int), .int .i64 (nd : Int), .int .i64 (hold : Int)] 28)) := ⟨hd3.alloc _, Blk.new w3 _ _, hb3.alloc (by omega) _, l3⟩
  have epl : planV q nd hold = .agg #[.int .i64 (q : Int), .int .i64 (nd : Int), .int .i64 (hold : Int)] := rfl
  rw [epl]
  have HST3 := Lib.hid hst3
  clear hb3 hd3 hg3 HB2 HD2 epl hst3
  go_wp2_with fail
  generalize (w3.alloc (.cells #[.int .i64 (q : Int), .int .i64 (nd : Int), .int .i64 (hold : Int)] 28)) = w4 at *
  refine (k_Dealt d q nd hold 1 w4 HST3.out.dice HPR.out (by omega) q1 q2 (by omega) q4 (by omega) (by omega)).mono ?_
  rintro e w5 ⟨vs, vl, sec, rnd, rfl, his, hsh, s1, s3, hsF, hrF, hrl, hd5, hg5⟩
  have l4 : d < w4.heap.size := HST3.out.dice.lt
  have hst5 := HST3.out.step hg5 hd5
  have hsh5 : ShAt w5 (fun b => d < b ∧ b < w5.heap.size) vl (dealL q (nd - 1) sec rnd hold) := hsh.mono fun b hb => ⟨by omega, hb.2⟩
  have hfd := FromDeal.deal (p := q) (k := nd - 1) (hold := hold) (sec := sec) (rnd := rnd) (by omega)
  have hfl := dealt_len q (nd - 1) sec rnd hold
  obtain ⟨L, hL⟩ : ∃ L, dealL q (nd - 1) sec rnd hold = L := ⟨_, rfl⟩
  rw [hL] at hfd hfl hsh5
  have hg5' := hfd.good
  obtain ⟨A5, m5, c5, rfl, hm5, hmc5, hqr5⟩ := id hsh5
  have HST5 := Lib.hid hst5
  have HSH5 := Lib.hid hsh5
  have HGD := Lib.hid hg5'
  have HFL := Lib.hid hfl
  have HM5 := Lib.hid hm5
  have hm57 : m5 ≤ 7 := by omega
  have hm1 : 1 ≤ m5 := by omega
  clear hst5 hsh5 hfd hg5' hfl his hsh hsF hrF hrl hd5 hg5 hL HST3 hm5 hqr5
  go_wp2_with fail
  refine (k_Next d 3 _ HST5.out.dice (by omega) (by omega)).mono ?_
  rintro e w6 ⟨r, hr, rfl, hd6, hg6⟩
  have hst6 := HST5.out.step hg6 hd6
  have hsh6 := HSH5.out.gd hg6
  have HST6 := Lib.hid hst6
  have HSH6 := Lib.hid hsh6
  clear hst6 hsh6 hd6 hg6 HST5 HSH5
  go_wp2_with fail
  refine (k_LieM d q sec.length r (min r L.length) (.slice A5 m5 c5) L _ w6 HST6.out.dice p2 (by omega) HSH6.out (fun b hb => hb.2) (by have := HM5.out; omega) (by have := HM5.out; omega) (by omega) (by omega) rfl (fun k hk => by have := HGD.out.holder k hk; omega) HGD.out.len HGD.out.inF).mono ?_
  rintro e w7 ⟨v7, u7, L7, rfl, hI, hsh7, his7, hd7, hg7⟩
  have hst7 := HST6.out.step hg7 hd7
  have l6 := HST6.out.dice.lt
  have hsh7' : ShAt w7 (fun b => d < b ∧ b < w7.heap.size) v7 L7 := hsh7.mono fun b hb => ⟨by omega, hb.2⟩
  have hl7 : L7.length = m5 := by rw [hI.len, ← HM5.out]
  have hgood : GoodSh q hold sec.length L7 := {
    holder := fun k hk => by rw [hI.holder k (by rw [← hI.len]; exact hk)]; exact HGD.out.holder k (by rw [← hI.len]; exact hk)
    once := fun i j hi hj hne => by rw [hI.holder i (by rw [← hI.len]; exact hi), hI.holder j (by rw [← hI.len]; exact hj)]; exact HGD.out.once i j (by rw [← hI.len]; exact hi) (by rw [← hI.len]; exact hj) hne
    len := fun k hk => hI.vlen k (by rw [← hI.len]; exact hk)
    inF := fun k hk => hI.inF k (by rw [← hI.len]; exact hk) }
  obtain ⟨A7, m7, c7, rfl, hq7, hmc7, hqr7⟩ := id hsh7'
  obtain rfl : m7 = m5 := by omega
  have HST7 := Lib.hid hst7
  have HSH7 := Lib.hid hsh7'
  have HGD7 := Lib.hid hgood
  have HL7 := Lib.hid hl7
  clear hst7 hsh7 hsh7' hgood hl7 his7 hd7 hg7 hI hq7 hqr7 HST6 HSH6 HGD HFL HM5
  have hpo := r_Points (.slice A7 m7 c7) L7 0 _ w7 HSH7.out (fun b hb => hb.2) (by have := HL7.out; omega) (fun k hk => by rw [HGD7.out.len k hk]; omega)
  rw [show ((0 : Nat) : Int) = 0 from rfl] at hpo
  have HPO := Lib.hid hpo
  clear hpo
  go_wp2_with fail
  refine HPO.out.mono ?_
  rintro e w8 ⟨vx, vy, rfl, hvx, hvy, hb8⟩
  have l7 := HST7.out.dice.lt
  have hst8 := HST7.out.below hb8
  have hvx' : IntsAt w8 (fun b => d < b ∧ b < w8.heap.size) vx (hsOf L7) := hvx.ints.mono fun b hb => ⟨by omega, hb.2⟩
  have hvy' : IntsAt w8 (fun b => d < b ∧ b < w8.heap.size) vy (colY L7 0) := hvy.ints.mono fun b hb => ⟨by omega, hb.2⟩
  have HST8 := Lib.hid hst8
  have HVX := Lib.hid hvx'
  have HVY := Lib.hid hvy'
  clear hst8 hvx hvy hvx' hvy' hb8 HST7 HSH7
  have hst9 : St d w3.heap.size q nd hold w (w8.alloc (.cells #[.int .i64 0, .int .i64 1, .int .i64 2, .int .i64 lies] 3)) := HST8.out.below ((Below.refl _ _).alloc (Nat.le_refl _) _)
  have hvx9 := HVX.out.gd (only_of_below ((Below.refl w8.heap.size w8).alloc (Nat.le_refl _) (.cells #[.int .i64 0, .int .i64 1, .int .i64 2, .int .i64 lies] 3)) (some d))
  have hvy9 := HVY.out.gd (only_of_below ((Below.refl w8.heap.size w8).alloc (Nat.le_refl _) (.cells #[.int .i64 0, .int .i64 1, .int .i64 2, .int .i64 lies] 3)) (some d))
  have hlb : Blk (w8.alloc (.cells #[.int .i64 0, .int .i64 1, .int .i64 2, .int .i64 lies] 3)) w8.heap.size 3 #[.int .i64 0, .int .i64 1, .int .i64 2, .int .i64 lies] := Blk.new w8 _ _
  have hls := hlb.lt
  have HST9 := Lib.hid hst9
  have HVX9 := Lib.hid hvx9
  have HVY9 := Lib.hid hvy9
  have HLB := Lib.hid hlb
  clear hst9 hvx9 hvy9 hlb HVX HVY HST8
  go_wp2_with fail
  generalize (w8.alloc (.cells #[.int .i64 0, .int .i64 1, .int .i64 2, .int .i64 lies] 3)) = wl at *
  obtain ⟨lb, hlbe⟩ : ∃ lb, w8.heap.size = lb := ⟨_, rfl⟩
  rw [hlbe] at hls HLB ⊢
  clear hlbe
  obtain ⟨pb, hpbe⟩ : ∃ pb, w3.heap.size = pb := ⟨_, rfl⟩
  rw [hpbe] at HST9 ⊢
  clear hpbe
  have hpl := HST9.out.plan.lt
  have hin9 : ∀ W : World, Below wl.heap.size wl W → IntsAt W (fun b => b < wl.heap.size) vx (hsOf L7) ∧ IntsAt W (fun b => b < wl.heap.size) vy (colY L7 0) :=
    fun W hb => ⟨(HVX9.out.keep fun b hb' => hb.block b hb'.2).mono fun b hb' => hb'.2, (HVY9.out.keep fun b hb' => hb.block b hb'.2).mono fun b hb' => hb'.2⟩
  have hinr : ∀ W : World, Below wl.heap.size wl W → IntsAt W (fun b => b < wl.heap.size) (.slice A1 n1 c1) X ∧ IntsAt W (fun b => b < wl.heap.size) (.slice A2 n2 c2) Y :=
    fun W hb => by
      have h1 : Below d w W := HST9.out.old.trans (hb.mono (by have := HST9.out.dice.lt; omega))
      have h2 := HST9.out.dice.lt
      have h3 := HD.out
      exact ⟨(HX.out.keep fun b hb' => h1.block b (by omega)).mono fun b hb' => by omega, (HY.out.keep fun b hb' => h1.block b (by omega)).mono fun b hb' => by omega⟩
  have hbas : ∀ W : World, Below wl.heap.size wl W → BasesOk W := fun W hb => HW.out.below (by
      have h1 : Below d w W := HST9.out.old.trans (hb.mono (by have := HST9.out.dice.lt; omega))
      rw [HD.out]; exact h1)
  obtain ⟨val, hval, hvc⟩ := val_of (q : Int) ⟨by omega, by omega⟩
  obtain ⟨va2, hva2, hvc2⟩ := val_of p HPR0.out
  have hca : ∀ (W : World) (k : Int), Below wl.heap.size wl W → IntR k → Calls Tryd.prog 20 #[.int .i64 (q : Int), .int .i64 (nd : Int), .int .i64 k, vx, vy] W (OneAPost q nd k val (hsOf L7) (colY L7 0) W) := fun W k hb hk => by
    have hz := hb.size
    have h7 := HL7.out
    exact c_OneA q nd k val hval vx vy _ _ _ _ W (hin9 W hb).1 (fun b hb' => by omega) (hin9 W hb).2 (fun b hb' => by omega) (by rw [hsOf_len]; omega) (by rw [colY_len]; omega) ⟨by omega, by omega⟩ ⟨hk.1, by have := hk.2; omega⟩ (hvc W (hbas W hb))
  have hra : ∀ (W : World) (k : Int), Below wl.heap.size wl W → IntR k → Calls Tryd.prog 21 #[.int .i64 (q : Int), .int .i64 (nd : Int), .int .i64 k, vx, vy] W (OneAPost q nd k val (hsOf L7) (colY L7 0) W) := fun W k hb hk => by
    have hz := hb.size
    have h7 := HL7.out
    exact r_OneA q nd k val hval vx vy _ _ _ _ W (hin9 W hb).1 (fun b hb' => by omega) (hin9 W hb).2 (fun b hb' => by omega) (by rw [hsOf_len]; omega) (by rw [colY_len]; omega) ⟨by omega, by omega⟩ ⟨hk.1, by have := hk.2; omega⟩
  have hcb : ∀ (W : World), Below wl.heap.size wl W → Calls Tryd.prog 20 #[.int .i64 p, .int .i64 need, .int .i64 lies, .slice A1 n1 c1, .slice A2 n2 c2] W (OneAPost p need lies va2 X Y W) := fun W hb => by
    have hz := hb.size
    have h7 := HLX.out
    have h8 := HLY.out
    exact c_OneA p need lies va2 hva2 _ _ _ _ _ _ W (hinr W hb).1 (fun b hb' => by omega) (hinr W hb).2 (fun b hb' => by omega) (by omega) (by omega) ⟨HNE.out.1, by have := HNE.out.2; omega⟩ ⟨HLI.out.1, by have := HLI.out.2; omega⟩ (hvc2 W (hbas W hb))
  have hrb : ∀ (W : World), Below wl.heap.size wl W → Calls Tryd.prog 21 #[.int .i64 p, .int .i64 need, .int .i64 lies, .slice A1 n1 c1, .slice A2 n2 c2] W (OneAPost p need lies va2 X Y W) := fun W hb => by
    have hz := hb.size
    have h7 := HLX.out
    have h8 := HLY.out
    exact r_OneA p need lies va2 hva2 _ _ _ _ _ _ W (hinr W hb).1 (fun b hb' => by omega) (hinr W hb).2 (fun b hb' => by omega) (by omega) (by omega) ⟨HNE.out.1, by have := HNE.out.2; omega⟩ ⟨HLI.out.1, by have := HLI.out.2; omega⟩
  have HCA := Lib.hid hca
  have HRA := Lib.hid hra
  have HCB := Lib.hid hcb
  have HRB := Lib.hid hrb
  have HBAS := Lib.hid hbas
  have HVAL := Lib.hid hval
  have HVAL2 := Lib.hid hva2
  clear hca hra hcb hrb hbas hval hva2 hvc hvc2 hin9 hinr HX HY HVX9 HVY9 HPR HGD7 HLX HLY
  go_loopw [74] (fun t wr => ∃ i : Nat, i ≤ 4 ∧ t = .int .i64 (i : Int) ∧ Below wl.heap.size wl wr) (fun t _ => 4 - (intOf t).toNat)
  case atStart => exact ⟨0, by omega, rfl, Below.refl _ _⟩
  case round =>
    obtain ⟨i, hi4, rfl, hbr⟩ := hrel
    have HBR := Lib.hid hbr
    by_cases hlt : i < 4
    · obtain ⟨k, hk, hkr⟩ : ∃ k : Int, wr.cell? ⟨lb, i, none⟩ = some (.int .i64 k) ∧ IntR k := by
        have hB := HLB.out.below hbr hls
        have hl := HLI.out
        match i, hlt with
        | 0, _ => exact ⟨0, hB.cell 0, by unfold IntR; omega⟩
        | 1, _ => exact ⟨1, hB.cell 1, by unfold IntR; omega⟩
        | 2, _ => exact ⟨2, hB.cell 2, by unfold IntR; omega⟩
        | 3, _ => exact ⟨lies, hB.cell 3, hl⟩
      have g1 := (HST9.out.plan.below hbr hpl).cell 1
      have qi : (i : Int) < 4 := by omega
      have HKR := Lib.hid hkr
      clear hbr hkr
      go_wp2_with fail
      refine (HCA.out _ k HBR.out HKR.out).mono ?_
      rintro e wa ⟨va, F, ea, rfl, hra, lF, hIa, hba⟩
      have hwa : Below wl.heap.size wl wa := HBR.out.trans (hba.mono HBR.out.size)
      have g2 := (HST9.out.plan.below hwa hpl).cell 1
      have HWA := Lib.hid hwa
      have HRA1 := Lib.hid hra
      have HIA := Lib.hid hIa
      have hza := HBR.out.size
      clear hwa hra hIa hba hk g1
      go_wp2_with fail
      refine (HRA.out _ k HWA.out HKR.out).mono ?_
      rintro e wb ⟨vb, G, eb, rfl, hrb, lG, hIb, hbb⟩
      obtain ⟨rfl, rfl⟩ := HRA1.out.uniq HVAL.out hrb
      have hwb : Below wl.heap.size wl wb := HWA.out.trans (hbb.mono HWA.out.size)
      have sm := r_Same va vb F F _ _ wb (HIA.out.below hbb).ints hIb.ints (by omega) (by omega)
      rw [decide_eq_true rfl] at sm
      have HSM := Lib.hid sm
      have HWB := Lib.hid hwb
      clear hrb hIb hbb hwb sm HIA HRA1 lF lG g2
      go_wp2_with fail
      refine HSM.out.mono ?_
      rintro e w' ⟨rfl, rfl⟩
      go_wp2_with fail
      go_roundw
      case measure => simp [intOf]; omega
      case rel => exact ⟨i + 1, by omega, by go_num, HWB.out⟩
    · have hi : i = 4 := by omega
      subst hi
      clear hbr
      go_wp2_with fail
      refine (HCB.out _ HBR.out).mono ?_
      rintro e wa ⟨va, F, ea, rfl, hra, lF, hIa, hba⟩
      have hwa : Below wl.heap.size wl wa := HBR.out.trans (hba.mono HBR.out.size)
      have HWA := Lib.hid hwa
      have HRA1 := Lib.hid hra
      have HIA := Lib.hid hIa
      clear hwa hra hIa hba
      go_wp2_with fail
      refine (HRB.out _ HWA.out).mono ?_
      rintro e wb ⟨vb, G, eb, rfl, hrb, lG, hIb, hbb⟩
      obtain ⟨rfl, rfl⟩ := HRA1.out.uniq HVAL2.out hrb
      have hwb : Below wl.heap.size wl wb := HWA.out.trans (hbb.mono HWA.out.size)
      have sm : ∀ W : World, Below wb.heap.size wb W → Calls Tryd.prog 18 #[va, vb] W (fun e w' => e = .returned (.bool true) ∧ Below W.heap.size W w') := fun W hb => by
        have := r_Same va vb F F _ _ W ((HIA.out.below hbb).below hb).ints (hIb.below hb).ints (by omega) (by omega)
        rw [decide_eq_true rfl] at this
        exact this.mono fun e w' h => ⟨h.1, by rw [← h.2]; exact Below.refl _ _⟩
      have cr1 := fun W : World => c_RoomG q nd hold (m7 : Int) W (by omega) (by omega) (by omega)
      have rr1 := fun W : World => r_RoomG q nd hold (m7 : Int) W (by omega) (by omega) (by omega)
      have cr2 := fun W : World => c_RoomG q nd hold need W (by omega) (by omega) (by have := HNE.out.2; omega)
      have rr2 := fun W : World => r_RoomG q nd hold need W (by omega) (by omega) (by have := HNE.out.2; omega)
      have aw := fun (W : World) (hb : Below wl.heap.size wl W) => l_awake W (HBAS.out W hb)
      generalize roomI nd (m7 : Int) = z1 at *
      generalize roomI nd need = z2 at *
      have mk : ∀ W : World, Below wb.heap.size wb W → W.cell? ⟨pb, 0, none⟩ = some (.int .i64 (q : Int)) ∧ W.cell? ⟨pb, 1, none⟩ = some (.int .i64 (nd : Int)) ∧ W.cell? ⟨pb, 2, none⟩ = some (.int .i64 (hold : Int)) ∧ Hid (Below wb.heap.size wb W) := fun W h => by
        have hb := HST9.out.plan.below (hwb.trans (h.mono hwb.size)) hpl
        exact ⟨hb.cell 0, hb.cell 1, hb.cell 2, Lib.hid h⟩
      have HMK := Lib.hid mk
      have HST := Lib.hid (mk wb.drew (Below.refl _ _).drew)
      have step : ∀ (W W' : World) (h : Hid (Below wb.heap.size wb W)), Below W.heap.size W W' → W'.cell? ⟨pb, 0, none⟩ = some (.int .i64 (q : Int)) ∧ W'.cell? ⟨pb, 1, none⟩ = some (.int .i64 (nd : Int)) ∧ W'.cell? ⟨pb, 2, none⟩ = some (.int .i64 (hold : Int)) ∧ Hid (Below wb.heap.size wb W') :=
        fun W W' h hb => HMK.out W' (h.out.trans (hb.mono h.out.size))
      have HSTEP := Lib.hid step
      have SM := Lib.hid sm
      have CR1 := Lib.hid cr1
      have RR1 := Lib.hid rr1
      have CR2 := Lib.hid cr2
      have RR2 := Lib.hid rr2
      have AW := Lib.hid aw
      have HWB := Lib.hid hwb
      clear hrb hIb hbb hwb sm cr1 rr1 cr2 rr2 aw HIA HRA1 lF lG mk step
      go_wp2_with fail
      go_region_held3 (fun W => W.cell? ⟨pb, 0, none⟩ = some (.int .i64 (q : Int)) ∧ W.cell? ⟨pb, 1, none⟩ = some (.int .i64 (nd : Int)) ∧ W.cell? ⟨pb, 2, none⟩ = some (.int .i64 (hold : Int)) ∧ Hid (Below wb.heap.size wb W))
        (first
          | exact HST.out
          | exact HSX.out)
        (first
          | (go_at_call 18
             go_split_ands
             ((with_reducible refine (SM.out _ (by first | exact (‹Hid (Below wb.heap.size wb _)›).out | exact HST.out.2.2.2.out)).mono ?_))
             rintro e wk ⟨rfl, hbk⟩
             have HSX := Lib.hid (HSTEP.out _ wk (by first | exact ‹Hid (Below wb.heap.size wb _)› | exact HST.out.2.2.2) hbk))
          | (go_at_call 14
             go_split_ands
             (first
               | (with_reducible refine (CR1.out _).mono ?_)
               | (with_reducible refine (CR2.out _).mono ?_))
             rintro e wk ⟨rfl, hbk⟩
             have HSX := Lib.hid (HSTEP.out _ wk (by first | exact ‹Hid (Below wb.heap.size wb _)› | exact HST.out.2.2.2) hbk))
          | (go_at_call 22
             go_split_ands
             (first
               | (with_reducible refine (RR1.out _).mono ?_)
               | (with_reducible refine (RR2.out _).mono ?_))
             rintro e wk ⟨rfl, hbk⟩
             have HSX := Lib.hid (HSTEP.out _ wk (by first | exact ‹Hid (Below wb.heap.size wb _)› | exact HST.out.2.2.2) hbk))
          | (go_at_call 8
             go_split_ands
             ((with_reducible refine (AW.out _ (HWB.out.trans ((‹Hid (Below wb.heap.size wb _)›).out.mono HWB.out.size))).mono ?_))
             rintro e wk ⟨rfl, hbk⟩
             have HSX := Lib.hid (HSTEP.out _ wk (by first | exact ‹Hid (Below wb.heap.size wb _)› | exact HST.out.2.2.2) hbk)))
      all_goals
        go_split_ands
        have hz := (‹Hid (Below wb.heap.size wb _)›).out
        have hfin := HST9.out.old.trans (((HWB.out.trans (hz.mono HWB.out.size))).mono (by have := HST9.out.dice.lt; omega))
        rw [← HD.out] at hfin
        have HF := Lib.hid hfin
        clear hz hfin
        go_wp2_with fail
        go_ret
        exact ⟨rfl, HF.out⟩
end Go.Proofs.YtjfphobfikadlaaDoor
namespace Go.Proofs.YtjfphobfikadlaaDoor
open Go.ChangeShapes Go.WideShapes Go.ChangeAt Go.RowKit

theorem ints_fact {H : Type} {enc : TypeId × Value → H} {W : World} {t e : TypeId} {a : Option Addr} {n c : Nat} {d : DataW H} {p : List MemPlace} (ht : Tryd.prog.underlying t = some (.slice e)) (he : Tryd.prog.underlying e = some (.int .i64)) (hc : Tryd.prog.cellsOf e = 1)
    (h : DataW.Trod enc Tryd.prog W 0 (fun _ => true) true t (.slice a n c) d p) (hlt : ∀ x ∈ p, x.block < W.heap.size) :
    n ≤ 9223372036854775807 ∧ (n ≤ 500 → ArgL W (.slice a n c)) := by
  obtain ⟨fu, hf⟩ := h
  rcases open_ints ht he hc hf with ⟨hcs, hx⟩ | ⟨b, len', cap', zs, hcs, _, hl, hm, hz, hx, hcell, hwz⟩
  · simp [Value.cells] at hcs
    obtain ⟨rfl, rfl, rfl⟩ := hcs
    exact ⟨by omega, fun _ => ⟨none, 0, 0, fun _ => 0, rfl, by omega, fun h => absurd h (by omega)⟩⟩
  · simp [Value.cells] at hcs
    obtain ⟨rfl, rfl, rfl⟩ := hcs
    simp only [Prod.mk.injEq] at hx
    obtain ⟨rfl, rfl⟩ := hx
    simp only [if_true] at hz
    unfold maxLen at hm
    refine ⟨by omega, fun h5 => ⟨some b, n, c, fun i => zs.getD i 0, rfl, h5, fun hn => ?_⟩⟩
    obtain ⟨b0, off, spot⟩ := b
    have hspot : spot = none := by simpa [Addr.add] using World.cell?_spot (hcell 0 (by omega))
    subst hspot
    refine ⟨b0, off, rfl, hlt (.cell b0 off) (MemPlace.mem_row.2 ⟨0, by omega, by simp⟩), fun i hi => ?_⟩
    rw [← add_plain]; exact hcell i (by omega)
end Go.Proofs.YtjfphobfikadlaaDoor
namespace Go.Proofs.YtjfphobfikadlaaDoor
open Go.ChangeShapes Go.WideShapes Go.ChangeAt Go.RowKit

theorem ints_factA {H : Type} {enc : TypeId × Value → H} {W : World} {t e : TypeId} {a : Option Addr} {n c : Nat} {d : DataW H} {p : List MemPlace} (ht : Tryd.prog.underlying t = some (.slice e)) (he : Tryd.prog.underlying e = some (.int .i64)) (hc : Tryd.prog.cellsOf e = 1)
    (h : DataW.Trod enc Tryd.prog W 0 (fun _ => true) true t (.slice a n c) d p) (hlt : ∀ x ∈ p, x.block < W.heap.size) :
    n ≤ 9223372036854775807 ∧ ∃ X, IntsAt W (fun b => b < W.heap.size) (.slice a n c) X := by
  obtain ⟨fu, hf⟩ := h
  rcases open_ints ht he hc hf with ⟨hcs, hx⟩ | ⟨b, len', cap', zs, hcs, _, hl, hm, hz, hx, hcell, hwz⟩
  · simp [Value.cells] at hcs
    obtain ⟨rfl, rfl, rfl⟩ := hcs
    exact ⟨by omega, [], none, 0, 0, rfl, rfl, by omega, fun h => absurd h (by omega)⟩
  · simp [Value.cells] at hcs
    obtain ⟨rfl, rfl, rfl⟩ := hcs
    simp only [Prod.mk.injEq] at hx
    obtain ⟨rfl, rfl⟩ := hx
    simp only [if_true] at hz
    unfold maxLen at hm
    refine ⟨by omega, zs.take n, some b, n, c, rfl, by rw [List.length_take]; omega, hl, fun hn => ?_⟩
    obtain ⟨b0, off, spot⟩ := b
    have hspot : spot = none := by simpa [Addr.add] using World.cell?_spot (hcell 0 (by omega))
    subst hspot
    refine ⟨b0, off, rfl, hlt (.cell b0 off) (MemPlace.mem_row.2 ⟨0, by omega, by simp⟩), fun i hi => ?_⟩
    rw [← add_plain, List.getD_eq_getElem?_getD, List.getElem?_take, if_pos hi, ← List.getD_eq_getElem?_getD]; exact hcell i (by omega)
end Go.Proofs.YtjfphobfikadlaaDoor
