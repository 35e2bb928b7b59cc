/- The law on wrong shares that change nothing. -/
import Derived.Test.YtjfphobfikadlaaDoorCoBeaN
set_option linter.unusedVariables false
set_option linter.unusedSimpArgs false
namespace Go.Proofs.YtjfphobfikadlaaDoor
open Go.RowKit Num

set_option maxRecDepth 100000 in
set_option maxHeartbeats 8000000 in
theorem l_Bears (v : Value) (w : World) (hw : BasesOk w) (A : Option Addr) (n c : Nat) (hv : v = .slice A n c) (hn : n ≤ 9223372036854775807) (ha : n ≤ 500 → ArgL w v) :
    Calls Tryd.prog 3 #[v] w (BoolBelow true w) := by
  subst hv
  by_cases h5 : n ≤ 500
  · have t1 : decide ((n : Int) ≤ 500) = true := decide_eq_true (by omega)
    have ha := ha h5
    have HW := Lib.hid hw
    have HA := Lib.hid ha
    clear hw ha
    go_enter Tryd.func3, Tryd.ntmps3
    go_wp2_with fail
    refine (k_Light A n c _ hn).mono ?_
    rintro e w' ⟨rfl, rfl⟩
    go_wp2_with fail
    refine (k_Roll _ _ HA.out).mono ?_
    rintro e w1 ⟨rfl, hd1, hb1⟩
    have hlt1 := hd1.lt
    obtain ⟨d, hd⟩ : ∃ d, w.heap.size = d := ⟨_, rfl⟩
    rw [hd] at hd1 hb1 hlt1 ⊢
    have HD := Lib.hid hd
    have HD1 := Lib.hid hd1
    have HB1 := Lib.hid hb1
    clear hd hd1 hb1 HA
    go_wp2_with fail
    refine (k_Prime d _ HD1.out).mono ?_
    rintro e w2 ⟨p, hkp, rfl, hd2, hg2⟩
    obtain ⟨hpr, hp5⟩ := kitP_prm hkp
    have p2 := hpr.1
    have hb2 : Below d w w2 := HB1.out.grown hg2 (by omega) (fun g hg => by injection hg with hg; omega)
    have HPR := Lib.hid hpr
    have HB2 := Lib.hid hb2
    have HD2 := Lib.hid hd2
    clear hkp hpr hb2 hd2 hg2 HD1 HB1
    go_wp2_with fail
    refine (k_Plan d p _ HD2.out p2 (by omega)).mono ?_
    rintro e w3 ⟨need, hold, n1, n2, n3, n4, rfl, hd3, hg3⟩
    have l2 := HD2.out.lt
    have hb3 : Below d w w3 := HB2.out.grown hg3 (by omega) (fun g hg => by injection hg with hg; omega)
    have l3 := hd3.lt
    have hst3 : St d w3.heap.size p need hold w (w3.alloc (.cells #[.int .i64 (p : Int), .int .i64 (need : Int), .int .i64 (hold : Int)] 28)) := ⟨hd3.alloc _, Blk.new w3 _ _, hb3.alloc (by omega) _, l3⟩
    have epl : planV p need hold = .agg #[.int .i64 (p : Int), .int .i64 (need : Int), .int .i64 (hold : Int)] := rfl
    rw [epl]
    have HST3 := Lib.hid hst3
    clear hb3 hd3 hg3 HB2 HD2 epl hst3
    go_wp2_with fail
    generalize (w3.alloc (.cells #[.int .i64 (p : Int), .int .i64 (need : Int), .int .i64 (hold : Int)] 28)) = w4 at *
    refine (k_Dealt d p need hold 3 w4 HST3.out.dice HPR.out (by omega) n1 n2 (by omega) n4 (by omega) (by omega)).mono ?_
    rintro e w5 ⟨vs, vl, sec, rnd, rfl, his, hsh, s1, s3, hsF, hrF, hrl, hd5, hg5⟩
    have l4 : d < w4.heap.size := HST3.out.dice.lt
    have hst5 := HST3.out.step hg5 hd5
    have his5 : IntsAt w5 (fun b => d < b ∧ b < w5.heap.size) vs sec := his.mono fun b hb => ⟨by omega, hb.2⟩
    have hsh5 : ShAt w5 (fun b => d < b ∧ b < w5.heap.size) vl (dealL p (need - 1) sec rnd hold) := hsh.mono fun b hb => ⟨by omega, hb.2⟩
    obtain ⟨As, ns, cs, rfl, hns, _, _⟩ := id his5
    have hfd := FromDeal.deal (p := p) (k := need - 1) (hold := hold) (sec := sec) (rnd := rnd) (by omega)
    have hfl := dealt_len p (need - 1) sec rnd hold
    obtain ⟨L, hL⟩ : ∃ L, dealL p (need - 1) sec rnd hold = L := ⟨_, rfl⟩
    rw [hL] at hfd hfl hsh5
    have hpd := fun i hi => polD_ok (p := p) (k := need - 1) (m := sec.length) (by omega) hsF hrF hrl rfl i hi
    have hsb := sec_back (p := p) (k := need - 1) (m := sec.length) (rnd := rnd) (by omega) hsF rfl
    obtain ⟨P, hP⟩ : ∃ P, polD (need - 1) sec rnd = P := ⟨_, rfl⟩
    rw [hP] at hfd hsb
    simp only [hP, show need - 1 + 1 = need by omega] at hpd
    have HST5 := Lib.hid hst5
    have HIS5 := Lib.hid his5
    have HSH5 := Lib.hid hsh5
    have HFD := Lib.hid hfd
    have HFL := Lib.hid hfl
    have HPD := Lib.hid hpd
    have HSB := Lib.hid hsb
    have HNS := Lib.hid hns
    clear hst5 his5 hsh5 hfd hfl hpd hsb hns his hsh hsF hrF hrl hd5 hg5 hL hP HST3
    have g0 := HST5.out.plan.cell 0
    have g1 := HST5.out.plan.cell 1
    have g2 := HST5.out.plan.cell 2
    go_wp2_with fail
    refine (k_Turn d need vl L _ w5 HST5.out.dice HSH5.out (fun b hb => hb.2) (by have := HFL.out; omega) (by have := HFL.out; omega) (by have := HFL.out; omega) (fun k hk => by rw [HFD.out.good.len k hk]; omega)).mono ?_
    rintro e w6 ⟨v6, L6, rfl, hsh6, hle6, hle6', hso, hd6, hg6⟩
    have l5 := HST5.out.dice.lt
    have hst6 := HST5.out.step hg6 hd6
    have his6 := HIS5.out.gd hg6
    have hsh6' : ShAt w6 (fun b => d < b ∧ b < w6.heap.size) v6 L6 := hsh6.mono fun b hb => ⟨by omega, hb.2⟩
    have hfd6 := HFD.out.some hso
    obtain ⟨A6, m6, c6, rfl, hm6, hmc6, _⟩ := id hsh6'
    have hm7 : m6 ≤ 7 := by have := HFL.out; omega
    have hnm6 : need ≤ m6 := by omega
    have HST6 := Lib.hid hst6
    have HIS6 := Lib.hid his6
    have HSH6 := Lib.hid hsh6'
    have HFD6 := Lib.hid hfd6
    have HM6 := Lib.hid hm6
    clear hst6 his6 hsh6 hsh6' hfd6 hm6 hso hd6 hg6 hle6 hle6' HST5 HIS5 HSH5 HFD HFL g0 g1 g2
    have g0 := HST6.out.plan.cell 0
    have g1 := HST6.out.plan.cell 1
    have g2 := HST6.out.plan.cell 2
    go_wp2_with fail
    refine (c_Room p need hold m6 w6 (by omega) hnm6 (by omega)).mono ?_
    rintro e w7 ⟨rfl, hb7⟩
    obtain ⟨room, hroom⟩ : ∃ room, (m6 - need) / 2 = room := ⟨_, rfl⟩
    rw [hroom]
    have hr1 : need + 2 * room ≤ m6 := by omega
    have hst7 := HST6.out.below hb7
    have his7 := HIS6.out.gd (only_of_below hb7 _)
    have hsh7 := HSH6.out.gd (only_of_below hb7 _)
    have HST7 := Lib.hid hst7
    have HIS7 := Lib.hid his7
    have HSH7 := Lib.hid hsh7
    have HROOM := Lib.hid hroom
    clear hst7 his7 hsh7 hb7 HST6 HIS6 HSH6 g0 g1 g2 hroom
    have t3 : decide ((room : Int) < 0) = false := decide_eq_false (by omega)
    have t4 : decide ((m6 : Int) < (room : Int)) = false := decide_eq_false (by omega)
    have t5 : decide (m6 < room) = false := decide_eq_false (by omega)
    go_wp2_with fail
    have hnx := fun (W : World) (x : Int) (q : Nat) (hx : x = (q : Int)) (h1 : 1 ≤ q) (h2 : q ≤ 100) (h : Dc W d) => (by subst hx; exact k_Next d q W h h1 (by omega) : Calls Tryd.prog 16 #[.pointer (some ⟨d, 0, none⟩), .int .i64 x] W (NextPost d q W))
    have hli := fun (W : World) (r : Nat) (hr : r ≤ room) (h : Dc W d) (hg : w7.grownBy W (some d)) => k_Lie d p sec.length r (.slice A6 m6 c6) L6 _ W h p2 (by omega) (HSH7.out.gd hg) (fun b hb => hb.2) (by have := HM6.out; omega) (by have := HM6.out; omega) (by omega) (by omega) (by have := HM6.out; omega) (fun k hk => by have := HFD6.out.good.holder k hk; omega) HFD6.out.good.len HFD6.out.good.inF
    have hwr : IntKind.i64.wrap ((room : Int) + 1) = ((room + 1 : Nat) : Int) := by rw [IntWalk.i64_in _ ⟨by omega, by omega⟩]; omega
    have mk : ∀ W : World, Dc W d → w7.grownBy W (some d) → W.cell? ⟨w3.heap.size, 0, none⟩ = some (.int .i64 (p : Int)) ∧ Hid (Dc W d ∧ w7.grownBy W (some d)) := fun W h1 h2 => ⟨(HST7.out.step h2 h1).plan.cell 0, Lib.hid ⟨h1, h2⟩⟩
    have HNX := Lib.hid hnx
    have HLI := Lib.hid hli
    have HWR := Lib.hid hwr
    have MK := Lib.hid mk
    clear hnx hli hwr mk
    go_region_held3 (fun W => W.cell? ⟨w3.heap.size, 0, none⟩ = some (.int .i64 (p : Int)) ∧ Hid (Dc W d ∧ w7.grownBy W (some d)))
      (first
        | exact HP2.out
        | exact HP.out
        | exact MK.out _ HST7.out.dice.drew (only_drewN (World.grownBy.refl w7 _) 1))
      (first
        | (go_at_call 16
           (with_reducible refine (HNX.out _ _ (room + 1) HWR.out (by omega) (by omega) HST7.out.dice.drew).mono ?_)
           rintro e w8 ⟨r, hr, rfl, hd8, hg8⟩
           have hg8' : w7.grownBy w8 (some d) := (only_drewN (World.grownBy.refl w7 _) 1).trans hg8
           have HP := Lib.hid (MK.out w8 hd8 hg8')
           have hr' : r ≤ room := by omega
           have HR := Lib.hid hr'
           have HD8 := Lib.hid hd8
           have HG8 := Lib.hid hg8'
           clear hr hr' hd8 hg8 hg8')
        | (go_at_call 15
           (with_reducible refine (HLI.out _ r HR.out HD8.out HG8.out).mono ?_)
           rintro e w9 ⟨v9, u9, L9, rfl, hI, hsh9, his9, hd9, hg9⟩
           have hg9' : w7.grownBy w9 (some d) := HG8.out.trans hg9
           have hs7 := HST7.out.dice.lt
           have hs8 := HG8.out.size
           have HP2 := Lib.hid (MK.out w9 hd9 hg9')
           have hsh9' : ShAt w9 (fun b => d < b ∧ b < w9.heap.size) v9 L9 := hsh9.mono fun b hb => ⟨by omega, hb.2⟩
           have his9' : IntsAt w9 (fun b => d < b ∧ b < w9.heap.size) u9 (liarsL L6 r) := his9.mono fun b hb => ⟨by omega, hb.2⟩
           have HI := Lib.hid hI
           have HSH9 := Lib.hid hsh9'
           have HIS9 := Lib.hid his9'
           have HD9 := Lib.hid hd9
           have HG9 := Lib.hid hg9'
           clear hI hsh9 hsh9' his9 his9' hd9 hg9 hg9' hs7 hs8))
    clear HP HP2 HNX HLI HWR MK HD8 HG8
    have hst9 := HST7.out.step HG9.out HD9.out
    have his9 := HIS7.out.gd HG9.out
    have HST9 := Lib.hid hst9
    have HIX := Lib.hid his9
    clear hst9 his9 HST7 HIS7 HSH7
    have g0 := HST9.out.plan.cell 0
    have g1 := HST9.out.plan.cell 1
    have g2 := HST9.out.plan.cell 2
    have hgood := HFD6.out.good' HI.out
    have hrb := c_Robust p need hold sec.length v9 L9 _ w9 (HW.out.below (by rw [HD.out]; exact HST9.out.old)) HPR.out (by omega) n1 n2 (by omega) n4 HSH9.out (fun b hb => hb.2) (by rw [HI.out.len, ← HM6.out]; exact hnm6) (by rw [HI.out.len, ← HM6.out]; omega) (by omega) hgood (fun B n v xs W => s_Sort B n v xs W)
    have HRB := Lib.hid hrb
    have HGOOD := Lib.hid hgood
    clear hrb hgood
    go_wp2_with fail
    refine HRB.out.mono ?_
    rintro e w10 hpost
    have hb10 := hpost.2
    rw [HI.out.len, ← HM6.out, HROOM.out] at hpost
    obtain ⟨x10, y10, rfl, hox, hoy⟩ := (HFD6.out.lied (by omega) (by omega) HI.out HPD.out).found HGOOD.out HPR.out n4 (by omega) (Nat.le_trans (many_filter _) HR.out) (by rw [HI.out.len, ← HM6.out]; exact hr1) hpost (liars_asc L6 r) (liars_mem' HFD6.out.good (by omega) (by have := HM6.out; have := HR.out; omega) HI.out)
    rw [HSB.out] at hox
    have l9 := HST9.out.dice.lt
    have hst10 := HST9.out.below hb10
    have his10 := HIX.out.gd (only_of_below hb10 _)
    have hli10 := HIS9.out.gd (only_of_below hb10 _)
    have hll : (liarsL L6 r).length ≤ 17 := liarsM_len L6 r 17
    have sm1 := r_Same x10 (.slice As ns cs) sec sec _ _ w10 hox.ints his10 (by omega) (by omega)
    have sm2 := r_Same y10 u9 (liarsL L6 r) (liarsL L6 r) _ _ w10 hoy.ints hli10 (by omega) (by omega)
    rw [decide_eq_true rfl] at sm1 sm2
    have haw := l_awake w10 (HW.out.below (by rw [HD.out]; exact hst10.old))
    have HSM1 := Lib.hid sm1
    have HSM2 := Lib.hid sm2
    have HAW := Lib.hid haw
    have HST10 := Lib.hid hst10
    clear hpost hb10 hox hoy hst10 his10 hli10 sm1 sm2 haw HRB g0 g1 g2 hll
    go_wp2_with fail
    refine HSM1.out.mono ?_
    rintro e w' ⟨rfl, rfl⟩
    go_wp2_with fail
    refine HSM2.out.mono ?_
    rintro e w' ⟨rfl, rfl⟩
    go_wp2_with fail
    refine HAW.out.mono ?_
    rintro e w11 ⟨rfl, hb11⟩
    have hfin := HST10.out.old.trans (hb11.mono (by have := HST10.out.dice.lt; omega))
    rw [← HD.out] at hfin
    have HF := Lib.hid hfin
    clear hb11 hfin
    go_wp2_with fail
    go_ret
    exact ⟨rfl, HF.out⟩
  · have t1 : decide ((n : Int) ≤ 500) = false := decide_eq_false (by omega)
    have HW := Lib.hid hw
    clear hw ha
    go_enter Tryd.func3, Tryd.ntmps3
    go_wp2_with fail
    refine (k_Light A n c _ hn).mono ?_
    rintro e w' ⟨rfl, rfl⟩
    go_wp2_with fail
    refine (l_awake _ HW.out).mono ?_
    rintro e w1 ⟨rfl, hb1⟩
    go_wp2_with fail
    go_ret
    exact ⟨rfl, hb1⟩
end Go.Proofs.YtjfphobfikadlaaDoor
