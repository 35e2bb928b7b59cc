/- The law on one more wrong share than there is room for. -/
import Derived.Test.YtjfphobfikadlaaDoorCoBeaN
set_option linter.unusedVariables false
set_option linter.unusedSimpArgs false
namespace Go.Proofs.YtjfphobfikadlaaDoor
open Go.RowKit Num

set_option maxRecDepth 100000 in
set_option maxHeartbeats 8000000 in
theorem l_Room (v : Value) (w : World) (hw : BasesOk w) (A : Option Addr) (n c : Nat) (hv : v = .slice A n c) (hn : n ≤ 9223372036854775807) (ha : n ≤ 500 → ArgL w v) :
    Calls Tryd.prog 4 #[v] w (BoolBelow true w) := by
  subst hv
  by_cases h5 : n ≤ 500
  · have t1 : decide ((n : Int) ≤ 500) = true := decide_eq_true (by omega)
    have ha := ha h5
    have HW := Lib.hid hw
    have HA := Lib.hid ha
    clear hw ha
    go_enter Tryd.func4, Tryd.ntmps4
    go_wp2_with fail
    refine (k_Light A n c _ hn).mono ?_
    rintro e w' ⟨rfl, rfl⟩
    go_wp2_with fail
    refine (k_Roll _ _ HA.out).mono ?_
    rintro e w1 ⟨rfl, hd1, hb1⟩
    have hlt1 := hd1.lt
    obtain ⟨d, hd⟩ : ∃ d, w.heap.size = d := ⟨_, rfl⟩
    rw [hd] at hd1 hb1 hlt1 ⊢
    have HD := Lib.hid hd
    have HD1 := Lib.hid hd1
    have HB1 := Lib.hid hb1
    clear hd hd1 hb1 HA
    go_wp2_with fail
    refine (k_Prime d _ HD1.out).mono ?_
    rintro e w2 ⟨p, hkp, rfl, hd2, hg2⟩
    obtain ⟨hpr, hp5⟩ := kitP_prm hkp
    have p2 := hpr.1
    have hb2 : Below d w w2 := HB1.out.grown hg2 (by omega) (fun g hg => by injection hg with hg; omega)
    have HPR := Lib.hid hpr
    have HB2 := Lib.hid hb2
    have HD2 := Lib.hid hd2
    clear hkp hpr hb2 hd2 hg2 HD1 HB1
    go_wp2_with fail
    refine (k_Plan d p _ HD2.out p2 (by omega)).mono ?_
    rintro e w3 ⟨need, hold, n1, n2, n3, n4, rfl, hd3, hg3⟩
    have l2 := HD2.out.lt
    have hb3 : Below d w w3 := HB2.out.grown hg3 (by omega) (fun g hg => by injection hg with hg; omega)
    have l3 := hd3.lt
    have hst3 : St d w3.heap.size p need hold w (w3.alloc (.cells #[.int .i64 (p : Int), .int .i64 (need : Int), .int .i64 (hold : Int)] 28)) := ⟨hd3.alloc _, Blk.new w3 _ _, hb3.alloc (by omega) _, l3⟩
    have epl : planV p need hold = .agg #[.int .i64 (p : Int), .int .i64 (need : Int), .int .i64 (hold : Int)] := rfl
    rw [epl]
    have HST3 := Lib.hid hst3
    clear hb3 hd3 hg3 HB2 HD2 epl hst3
    go_wp2_with fail
    generalize (w3.alloc (.cells #[.int .i64 (p : Int), .int .i64 (need : Int), .int .i64 (hold : Int)] 28)) = w4 at *
    refine (k_Dealt d p need hold 1 w4 HST3.out.dice HPR.out (by omega) n1 n2 (by omega) n4 (by omega) (by omega)).mono ?_
    rintro e w5 ⟨vs, vl, sec, rnd, rfl, his, hsh, s1, s3, hsF, hrF, hrl, hd5, hg5⟩
    have l4 : d < w4.heap.size := HST3.out.dice.lt
    have hst5 := HST3.out.step hg5 hd5
    have his5 : IntsAt w5 (fun b => d < b ∧ b < w5.heap.size) vs sec := his.mono fun b hb => ⟨by omega, hb.2⟩
    have hsh5 : ShAt w5 (fun b => d < b ∧ b < w5.heap.size) vl (dealL p (need - 1) sec rnd hold) := hsh.mono fun b hb => ⟨by omega, hb.2⟩
    obtain ⟨As, ns, cs, rfl, hns, _, _⟩ := id his5
    have hfd := FromDeal.deal (p := p) (k := need - 1) (hold := hold) (sec := sec) (rnd := rnd) (by omega)
    have hfl := dealt_len p (need - 1) sec rnd hold
    obtain ⟨L, hL⟩ : ∃ L, dealL p (need - 1) sec rnd hold = L := ⟨_, rfl⟩
    rw [hL] at hfd hfl hsh5
    have hpd := fun i hi => polD_ok (p := p) (k := need - 1) (m := sec.length) (by omega) hsF hrF hrl rfl i hi
    have hsb := sec_back (p := p) (k := need - 1) (m := sec.length) (rnd := rnd) (by omega) hsF rfl
    obtain ⟨P, hP⟩ : ∃ P, polD (need - 1) sec rnd = P := ⟨_, rfl⟩
    rw [hP] at hfd hsb
    simp only [hP, show need - 1 + 1 = need by omega] at hpd
    have HST5 := Lib.hid hst5
    have HIS5 := Lib.hid his5
    have HSH5 := Lib.hid hsh5
    have HFD := Lib.hid hfd
    have HFL := Lib.hid hfl
    have HPD := Lib.hid hpd
    have HSB := Lib.hid hsb
    have HNS := Lib.hid hns
    clear hst5 his5 hsh5 hfd hfl hpd hsb hns his hsh hsF hrF hrl hd5 hg5 hL hP HST3
    have g0 := HST5.out.plan.cell 0
    have g1 := HST5.out.plan.cell 1
    have g2 := HST5.out.plan.cell 2
    obtain ⟨A6, m6, c6, rfl, hm6, hmc6, _⟩ := id HSH5.out
    have hm7 : m6 ≤ 7 := by have := HFL.out; omega
    have hnm6 : need ≤ m6 := by have := HFL.out; omega
    have HM6 := Lib.hid hm6
    clear hm6 hmc6
    go_wp2_with fail
    refine (c_Room p need hold m6 w5 (by omega) hnm6 (by omega)).mono ?_
    rintro e w7 ⟨rfl, hb7⟩
    have l5 := HST5.out.dice.lt
    obtain ⟨room, hroom⟩ : ∃ room, (m6 - need) / 2 = room := ⟨_, rfl⟩
    rw [hroom]
    have hr1 : need + 2 * room ≤ m6 := by omega
    have hst7 := HST5.out.below hb7
    have his7 := HIS5.out.gd (only_of_below hb7 _)
    have hsh7 := HSH5.out.gd (only_of_below hb7 _)
    have HST7 := Lib.hid hst7
    have HIS7 := Lib.hid his7
    have HSH7 := Lib.hid hsh7
    have HROOM := Lib.hid hroom
    clear hst7 his7 hsh7 hb7 HST5 HIS5 HSH5 g0 g1 g2 hroom
    have t3 : decide ((room : Int) < 0) = false := decide_eq_false (by omega)
    have t4 : decide ((m6 : Int) ≤ (room : Int)) = false := decide_eq_false (by omega)
    have t5 : decide (m6 ≤ room) = false := decide_eq_false (by omega)
    have q0 := HST7.out.plan.cell 0
    have hli := k_Lie d p sec.length (room + 1) (.slice A6 m6 c6) L _ w7 HST7.out.dice p2 (by omega) HSH7.out (fun b hb => hb.2) (by have := HM6.out; omega) (by have := HM6.out; omega) (by omega) (by omega) (by have := HM6.out; omega) (fun k hk => by have := HFD.out.good.holder k hk; omega) HFD.out.good.len HFD.out.good.inF
    rw [show ((room + 1 : Nat) : Int) = (room : Int) + 1 by omega] at hli
    have HLI := Lib.hid hli
    clear hli
    go_wp2_with fail
    refine HLI.out.mono ?_
    rintro e w9 ⟨v9, u9, L9, rfl, hI, hsh9, his9, hd9, hg9⟩
    have hs7 := HST7.out.dice.lt
    have hsh9' : ShAt w9 (fun b => d < b ∧ b < w9.heap.size) v9 L9 := hsh9.mono fun b hb => ⟨by omega, hb.2⟩
    have his9' : IntsAt w9 (fun b => d < b ∧ b < w9.heap.size) u9 (liarsL L (room + 1)) := his9.mono fun b hb => ⟨by omega, hb.2⟩
    have hst9 := HST7.out.step hg9 hd9
    have hix := HIS7.out.gd hg9
    have HI := Lib.hid hI
    have HSH9 := Lib.hid hsh9'
    have HIS9 := Lib.hid his9'
    have HST9 := Lib.hid hst9
    have HIX := Lib.hid hix
    clear hI hsh9 hsh9' his9 his9' hd9 hg9 hst9 hix hs7 q0 HST7 HIS7 HSH7 HLI
    have g0 := HST9.out.plan.cell 0
    have g1 := HST9.out.plan.cell 1
    have g2 := HST9.out.plan.cell 2
    have hgood := HFD.out.good' HI.out
    have hrb := c_Robust p need hold sec.length v9 L9 _ w9 (HW.out.below (by rw [HD.out]; exact HST9.out.old)) HPR.out (by omega) n1 n2 (by omega) n4 HSH9.out (fun b hb => hb.2) (by rw [HI.out.len, ← HM6.out]; exact hnm6) (by rw [HI.out.len, ← HM6.out]; omega) (by omega) hgood (fun B n v xs W => s_Sort B n v xs W)
    have HRB := Lib.hid hrb
    clear hrb hgood
    go_wp2_with fail
    refine HRB.out.mono ?_
    rintro e w10 hpost
    have hb10 := hpost.2
    rw [HI.out.len, ← HM6.out, HROOM.out] at hpost
    have l9 := HST9.out.dice.lt
    have hst10 := HST9.out.below hb10
    have his10 := HIX.out.gd (only_of_below hb10 _)
    have hli10 := HIS9.out.gd (only_of_below hb10 _)
    have hres : (e = .returned (.tuple #[.slice none 0 0, .slice none 0 0, .int .i64 9])) ∨ ∃ X B vs vl, e = .returned (.tuple #[vs, vl, .int .i64 0]) ∧ OwnI w10 w9.heap.size vs X ∧ OwnI w10 w9.heap.size vl B ∧ X.length = sec.length ∧ B.length ≤ room := by
      rcases hpost.1 with ⟨h, _⟩ | ⟨F, B, _, _, _, ⟨_, h⟩ | ⟨h1, vs, vl, h2, h3, h4⟩⟩
      · exact .inl h
      · exact .inl h
      · exact .inr ⟨_, B, vs, vl, h2, h3, h4, by simp, h1⟩
    have haw := l_awake w10 (HW.out.below (by rw [HD.out]; exact hst10.old))
    have hll : (liarsL L (room + 1)).length ≤ 17 := liarsM_len L (room + 1) 17
    have hmn := liars_many HFD.out.good (many := room + 1) (by omega) (by have := HM6.out; omega)
    have HAW := Lib.hid haw
    have HST10 := Lib.hid hst10
    have HI10 := Lib.hid his10
    have HL10 := Lib.hid hli10
    have HMN := Lib.hid hmn
    clear hpost hb10 hst10 his10 hli10 haw HRB g0 g1 g2 hmn
    rcases hres with rfl | ⟨X, B, xv, yv, rfl, hox, hoy, hX, hB⟩
    · go_wp2_with fail
      refine HAW.out.mono ?_
      rintro e w11 ⟨rfl, hb11⟩
      have hfin := HST10.out.old.trans (hb11.mono (by have := HST10.out.dice.lt; omega))
      rw [← HD.out] at hfin
      have HF := Lib.hid hfin
      clear hb11 hfin
      go_wp2_with fail
      go_ret
      exact ⟨rfl, HF.out⟩
    · obtain ⟨Ax, nx, cx, rfl, hnx, _, _⟩ := hox.ints
      obtain ⟨Ay, ny, cy, rfl, hny, hny2, hny3⟩ := id hoy.ints
      have sm := r_Same (.slice Ay ny cy) u9 B (liarsL L (room + 1)) _ _ w10 hoy.ints HL10.out (by omega) (by omega)
      rw [decide_eq_false (fun e => by have h1 := HMN.out; rw [← e] at h1; omega)] at sm
      have hnn : nx = ns := by have := HNS.out; omega
      have t6 : decide ((ny : Int) ≤ (room : Int)) = true := decide_eq_true (by omega)
      have t7 : decide (ny ≤ room) = true := decide_eq_true (by omega)
      subst hnn
      have HSM := Lib.hid sm
      clear hox hoy hX hB hnx hny hny3 sm
      go_wp2_with fail
      refine HSM.out.mono ?_
      rintro e w' ⟨rfl, rfl⟩
      go_wp2_with fail
      refine HAW.out.mono ?_
      rintro e w11 ⟨rfl, hb11⟩
      have hfin := HST10.out.old.trans (hb11.mono (by have := HST10.out.dice.lt; omega))
      rw [← HD.out] at hfin
      have HF := Lib.hid hfin
      clear hb11 hfin
      go_wp2_with fail
      go_ret
      exact ⟨rfl, HF.out⟩
  · have t1 : decide ((n : Int) ≤ 500) = false := decide_eq_false (by omega)
    have HW := Lib.hid hw
    clear hw ha
    go_enter Tryd.func4, Tryd.ntmps4
    go_wp2_with fail
    refine (k_Light A n c _ hn).mono ?_
    rintro e w' ⟨rfl, rfl⟩
    go_wp2_with fail
    refine (l_awake _ HW.out).mono ?_
    rintro e w1 ⟨rfl, hb1⟩
    go_wp2_with fail
    go_ret
    exact ⟨rfl, hb1⟩
end Go.Proofs.YtjfphobfikadlaaDoor
