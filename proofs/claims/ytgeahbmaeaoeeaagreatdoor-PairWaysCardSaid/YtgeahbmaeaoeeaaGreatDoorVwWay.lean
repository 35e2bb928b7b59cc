/- Contracts: a coalition below the threshold; how many lists of random numbers lead to what it sees. -/
import Derived.Test.YtgeahbmaeaoeeaaGreatDoorVwChk
import Derived.Test.YtgeahbmaeaoeeaaGreatDoorVwStg
set_option linter.unusedVariables false
set_option linter.unusedSimpArgs false
namespace Go.Proofs.YtgeahbmaeaoeeaaGreatDoor
open Go.RowKit Num

/-- What belongs to each good plan. -/
structure PlanP (p need hold : Nat) : Prop where
  prm : Prm p
  le : p ≤ 1073741824
  n1 : 1 ≤ need
  n2 : need ≤ hold
  n3 : hold ≤ 16
  n4 : hold < p
set_option maxRecDepth 100000 in
set_option maxHeartbeats 400000 in
theorem v_Knows (p need hold : Nat) (Ah Ae Ao At : Option Addr) (nh ch ne ce no co nt ct : Nat) (w : World) (b : Bool) (hb : decide (need ≤ nh) = b) :
    Calls Tryz.prog 48 #[.agg #[.int .i64 (p : Int), .int .i64 (need : Int), .int .i64 (hold : Int)], .agg #[.slice Ah nh ch, .slice Ae ne ce, .slice Ao no co, .slice At nt ct]] w (BoolBelow b w) := by
  have HB := Lib.hid (((Below.refl w.heap.size w).alloc (Nat.le_refl _) (.cells #[.int .i64 (p : Int), .int .i64 (need : Int), .int .i64 (hold : Int)] 29)).alloc (by simp) (.cells #[.slice Ah nh ch, .slice Ae ne ce, .slice Ao no co, .slice At nt ct] 44))
  have h1 : decide ((need : Int) ≤ (nh : Int)) = b := by rw [← hb]; exact decide_eq_decide.2 (by omega)
  have HH := Lib.hid h1
  clear hb h1
  go_enter Tryz.func48, Tryz.ntmps48
  go_wp2_with fail
  go_ret
  refine ⟨ret_bool ?_, HB.out⟩
  have := HH.out
  first | exact this | (rw [← this]; exact decide_eq_decide.2 (by omega))
set_option maxRecDepth 100000 in
set_option maxHeartbeats 1000000 in
theorem q_belowT (p need hold : Nat) (Ah Ae Ao At : Option Addr) (nh ch ne ce no co nt ct : Nat) (H : List Int) (E : List SeenS) (w : World) (hw : BasesOk w) (hp : PlanP p need hold)
    (hH : IntsAt w (· < w.heap.size) (.slice Ah nh ch) H) (hE : SeensAt w (· < w.heap.size) (.slice Ae ne ce) E) (hlh : H.length ≤ 1000000) (hle : E.length ≤ 1000000) (hg : GoodV p hold H E) (z : Int) (hz : (need ≤ H.length ∧ z = 3) ∨ (H.length < need ∧ z = 0)) :
    Calls Tryz.prog 26 #[.agg #[.int .i64 (p : Int), .int .i64 (need : Int), .int .i64 (hold : Int)], .agg #[.slice Ah nh ch, .slice Ae ne ce, .slice Ao no co, .slice At nt ct]] w (IntBelowM z w) := by
  have hb0 := ((Below.refl w.heap.size w).alloc (Nat.le_refl _) (.cells #[.int .i64 (p : Int), .int .i64 (need : Int), .int .i64 (hold : Int)] 29)).alloc (by simp) (.cells #[.slice Ah nh ch, .slice Ae ne ce, .slice Ao no co, .slice At nt ct] 44)
  have hpb := (Blk.new w 29 #[.int .i64 (p : Int), .int .i64 (need : Int), .int .i64 (hold : Int)]).alloc (.cells #[.slice Ah nh ch, .slice Ae ne ce, .slice Ao no co, .slice At nt ct] 44)
  have hvb := Blk.new (w.alloc (.cells #[.int .i64 (p : Int), .int .i64 (need : Int), .int .i64 (hold : Int)] 29)) 44 #[.slice Ah nh ch, .slice Ae ne ce, .slice Ao no co, .slice At nt ct]
  rw [World.size_alloc] at hvb
  have hnh : nh = H.length := by obtain ⟨A, n, c, he, hn, -⟩ := hH; injection he with e1 e2 e3; omega
  have hck := v_CheckT p need hold (.slice Ah nh ch) (.slice Ae ne ce) Ao At no co nt ct H E _ (hw.below hb0) hp.prm hp.le hp.n1 hp.n2 hp.n3 hp.n4 (hH.up hb0) (hE.up hb0) hlh hle hg
  have hkn : ∀ W, Calls Tryz.prog 48 #[.agg #[.int .i64 (p : Int), .int .i64 (need : Int), .int .i64 (hold : Int)], .agg #[.slice Ah nh ch, .slice Ae ne ce, .slice Ao no co, .slice At nt ct]] W (BoolBelow (decide (need ≤ H.length)) W) := fun W => v_Knows p need hold Ah Ae Ao At nh ch ne ce no co nt ct W _ (by rw [hnh])
  have HCK := Lib.hid hck
  have HKN := Lib.hid hkn
  have HB0 := Lib.hid hb0
  have HPB := Lib.hid hpb
  have HVB := Lib.hid hvb
  have p0 := (hpb.cell 0).trans (show _ = some (Value.int .i64 (p : Int)) from rfl)
  have p1 := (hpb.cell 1).trans (show _ = some (Value.int .i64 (need : Int)) from rfl)
  have p2 := (hpb.cell 2).trans (show _ = some (Value.int .i64 (hold : Int)) from rfl)
  have y0 := (hvb.cell 0).trans (show _ = some (Value.slice Ah nh ch) from rfl)
  have y1 := (hvb.cell 1).trans (show _ = some (Value.slice Ae ne ce) from rfl)
  have y2 := (hvb.cell 2).trans (show _ = some (Value.slice Ao no co) from rfl)
  have y3 := (hvb.cell 3).trans (show _ = some (Value.slice At nt ct) from rfl)
  clear hck hkn hb0 hpb hvb hw hH hE hg hnh
  go_enter Tryz.func26, Tryz.ntmps26
  go_wp2_with fail
  generalize ((w.alloc (.cells #[.int .i64 (p : Int), .int .i64 (need : Int), .int .i64 (hold : Int)] 29)).alloc (.cells #[.slice Ah nh ch, .slice Ae ne ce, .slice Ao no co, .slice At nt ct] 44)) = w0 at *
  refine HCK.out.mono ?_
  rintro e w1 ⟨rfl, hb1⟩
  have HB1 := Lib.hid (HB0.out.trans (hb1.mono HB0.out.size))
  have hpb1 := HPB.out.below hb1 HPB.out.lt
  have hvb1 := HVB.out.below hb1 HVB.out.lt
  clear p0 p1 p2 y0 y1 y2 y3
  have p0 := (hpb1.cell 0).trans (show _ = some (Value.int .i64 (p : Int)) from rfl)
  have p1 := (hpb1.cell 1).trans (show _ = some (Value.int .i64 (need : Int)) from rfl)
  have p2 := (hpb1.cell 2).trans (show _ = some (Value.int .i64 (hold : Int)) from rfl)
  have y0 := (hvb1.cell 0).trans (show _ = some (Value.slice Ah nh ch) from rfl)
  have y1 := (hvb1.cell 1).trans (show _ = some (Value.slice Ae ne ce) from rfl)
  have y2 := (hvb1.cell 2).trans (show _ = some (Value.slice Ao no co) from rfl)
  have y3 := (hvb1.cell 3).trans (show _ = some (Value.slice At nt ct) from rfl)
  clear hb1 hpb1 hvb1
  rcases hz with ⟨h3, rfl⟩ | ⟨h3, rfl⟩
  · have hk : decide (need ≤ H.length) = true := decide_eq_true h3
    rw [hk] at HKN
    clear hk h3
    go_wp2_with fail
    refine (HKN.out _).mono ?_
    rintro e w2 ⟨rfl, hb2⟩
    have HB2 := Lib.hid (HB1.out.trans (hb2.mono HB1.out.size))
    clear hb2
    go_wp2_with fail
    go_ret
    exact ⟨rfl, HB2.out⟩
  · have hk : decide (need ≤ H.length) = false := decide_eq_false (by omega)
    rw [hk] at HKN
    clear hk h3
    go_wp2_with fail
    refine (HKN.out _).mono ?_
    rintro e w2 ⟨rfl, hb2⟩
    have HB2 := Lib.hid (HB1.out.trans (hb2.mono HB1.out.size))
    clear hb2
    go_wp2_with fail
    go_ret
    exact ⟨rfl, HB2.out⟩
/-- How many values the entries have. -/
def valN (p : Nat) (E : List SeenS) : Nat → Nat
  | 0 => 0
  | k + 1 => valN p E k + (cntG p (seeL E k).len.toNat + 1)
theorem valN_le (p : Nat) (E : List SeenS) (h : ∀ k, k < E.length → cntG p (seeL E k).len.toNat ≤ 2048) : ∀ k, k ≤ E.length → valN p E k ≤ k * 2049
  | 0, _ => Nat.zero_le _
  | k + 1, hk => by
    have h1 := valN_le p E h k (by omega)
    have h2 := h k (by omega)
    show valN p E k + (cntG p (seeL E k).len.toNat + 1) ≤ (k + 1) * 2049
    omega
/-- Ways: below the threshold, where no entry is withdrawn. -/
def WaysE (n : Nat) (z : Int) (w : World) (e : Ending) (w' : World) : Prop := e = .returned (.tuple #[.int .i64 (n : Int), .int .i64 z]) ∧ Below w.heap.size w w'
set_option maxRecDepth 100000 in
set_option maxHeartbeats 2000000 in
theorem q_WaysT (p need hold : Nat) (Ah Ae Ao At : Option Addr) (nh ch ne ce no co nt ct : Nat) (H : List Int) (E : List SeenS) (w : World) (hw : BasesOk w) (hp : PlanP p need hold)
    (hH : IntsAt w (· < w.heap.size) (.slice Ah nh ch) H) (hE : SeensAt w (· < w.heap.size) (.slice Ae ne ce) E) (hlh : H.length < need) (hle : E.length ≤ 10000) (hg : GoodV p hold H E) (hn2 : ∀ k, k < E.length → (seeL E k).st ≠ 2) :
    Calls Tryz.prog 12 #[.agg #[.int .i64 (p : Int), .int .i64 (need : Int), .int .i64 (hold : Int)], .agg #[.slice Ah nh ch, .slice Ae ne ce, .slice Ao no co, .slice At nt ct]] w (WaysE (pw 1000003 p ((need - 1 - H.length) * valN p E E.length)) 0 w) := by
  have hn16 := hp.n2
  have hn17 := hp.n3
  have hb0 := ((Below.refl w.heap.size w).alloc (Nat.le_refl _) (.cells #[.int .i64 (p : Int), .int .i64 (need : Int), .int .i64 (hold : Int)] 29)).alloc (by simp) (.cells #[.slice Ah nh ch, .slice Ae ne ce, .slice Ao no co, .slice At nt ct] 44)
  have hpb := (Blk.new w 29 #[.int .i64 (p : Int), .int .i64 (need : Int), .int .i64 (hold : Int)]).alloc (.cells #[.slice Ah nh ch, .slice Ae ne ce, .slice Ao no co, .slice At nt ct] 44)
  have hvb := Blk.new (w.alloc (.cells #[.int .i64 (p : Int), .int .i64 (need : Int), .int .i64 (hold : Int)] 29)) 44 #[.slice Ah nh ch, .slice Ae ne ce, .slice Ao no co, .slice At nt ct]
  rw [World.size_alloc] at hvb
  have hnh : nh = H.length := by obtain ⟨A, n, c, he, hn, -⟩ := hH; injection he with e1 e2 e3; omega
  have hbe := q_belowT p need hold Ah Ae Ao At nh ch ne ce no co nt ct H E _ (hw.below hb0) hp (hH.up hb0) (hE.up hb0) (by omega) (by omega) hg 0 (.inr ⟨hlh, rfl⟩)
  have hst : ∀ W, Below w.heap.size w W → Calls Tryz.prog 27 #[.agg #[.slice Ah nh ch, .slice Ae ne ce, .slice Ao no co, .slice At nt ct]] W (SeensE E W) := fun W hW => q_standingN _ _ _ _ E W (hE.up hW) (by omega) hn2
  have hct : ∀ W k, k < E.length → Calls Tryz.prog 28 #[.int .i64 (p : Int), .int .i64 (seeL E k).len] W (IntBelowM ((cntG p (seeL E k).len.toNat : Nat) : Int) W) := fun W k hk => by
    obtain ⟨e1, e2, e3, -⟩ := hg.prop k hk
    have := p_CountG p (seeL E k).len.toNat W hp.le (by omega)
    rw [← e1] at this; exact this
  have hvl := valN_le p E (fun k hk => (hg.prop k hk).2.2.1)
  have hvb1 := hvl E.length (Nat.le_refl _)
  have hpow : ∀ W, Calls Tryz.prog 29 #[.int .i64 (p : Int), .int .i64 (((need - 1 - nh) * valN p E E.length : Nat) : Int)] W fun r w' => r = .returned (.int .i64 (pw 1000003 p ((need - 1 - nh) * valN p E E.length) : Int)) ∧ W = w' := fun W => q_power p _ W (by have := hp.le; omega) (by
    have : (need - 1 - nh) * valN p E E.length ≤ 16 * (10000 * 2049) := Nat.mul_le_mul (by omega) (by omega)
    omega)
  have hmul : ((need : Int) - 1 - (nh : Int)) * ((valN p E E.length : Nat) : Int) = (((need - 1 - nh) * valN p E E.length : Nat) : Int) := by
    rw [Int.natCast_mul]; congr 1; omega
  have hmb : (need - 1 - nh) * valN p E E.length ≤ 16 * (10000 * 2049) := Nat.mul_le_mul (by omega) (by omega)
  have HBE := Lib.hid hbe
  have HST := Lib.hid hst
  have HCT := Lib.hid hct
  have HPW := Lib.hid hpow
  have HVL := Lib.hid hvl
  have HB0 := Lib.hid hb0
  have HPB := Lib.hid hpb
  have HVB := Lib.hid hvb
  have HMU := Lib.hid hmul
  have HNH := Lib.hid hnh
  have p0 := (hpb.cell 0).trans (show _ = some (Value.int .i64 (p : Int)) from rfl)
  have p1 := (hpb.cell 1).trans (show _ = some (Value.int .i64 (need : Int)) from rfl)
  have p2 := (hpb.cell 2).trans (show _ = some (Value.int .i64 (hold : Int)) from rfl)
  have y0 := (hvb.cell 0).trans (show _ = some (Value.slice Ah nh ch) from rfl)
  have y1 := (hvb.cell 1).trans (show _ = some (Value.slice Ae ne ce) from rfl)
  have y2 := (hvb.cell 2).trans (show _ = some (Value.slice Ao no co) from rfl)
  have y3 := (hvb.cell 3).trans (show _ = some (Value.slice At nt ct) from rfl)
  rw [← hnh] at hlh ⊢
  have hle' := hle
  clear hbe hst hct hpow hvl hb0 hpb hvb hw hH hE hg hnh hn2 hvb1 hmul
  go_enter Tryz.func12, Tryz.ntmps12
  go_wp2_with fail
  generalize ((w.alloc (.cells #[.int .i64 (p : Int), .int .i64 (need : Int), .int .i64 (hold : Int)] 29)).alloc (.cells #[.slice Ah nh ch, .slice Ae ne ce, .slice Ao no co, .slice At nt ct] 44)) = w0 at *
  refine HBE.out.mono ?_
  rintro e w1 ⟨rfl, hb1⟩
  have HB1 := Lib.hid (HB0.out.trans (hb1.mono HB0.out.size))
  have hpb1 := HPB.out.below hb1 HPB.out.lt
  have hvb1 := HVB.out.below hb1 HVB.out.lt
  clear p0 p1 p2 y0 y1 y2 y3
  have y0 := (hvb1.cell 0).trans (show _ = some (Value.slice Ah nh ch) from rfl)
  have y1 := (hvb1.cell 1).trans (show _ = some (Value.slice Ae ne ce) from rfl)
  have y2 := (hvb1.cell 2).trans (show _ = some (Value.slice Ao no co) from rfl)
  have y3 := (hvb1.cell 3).trans (show _ = some (Value.slice At nt ct) from rfl)
  have HPB1 := Lib.hid hpb1
  have HVB1 := Lib.hid hvb1
  clear hb1 hpb1 hvb1 HPB HVB HBE
  go_wp2_with fail
  refine (HST.out _ HB1.out).mono ?_
  rintro e w2 ⟨vs, rfl, hs2, hb2⟩
  have HB2 := Lib.hid (HB1.out.trans (hb2.mono HB1.out.size))
  have HPB2 := Lib.hid (HPB1.out.below hb2 HPB1.out.lt)
  have HVB2 := Lib.hid (HVB1.out.below hb2 HVB1.out.lt)
  obtain ⟨A, n, c, rfl, hn, hnc, hA⟩ := id hs2
  have HA := Lib.hid hA
  have HN := Lib.hid hn
  have n1 : n ≤ 10000 := by omega
  clear hs2 hb2 hA hn HPB1 HVB1 y0 y1 y2 y3
  go_wp2_with fail
  go_loopw [7, 19] (fun x t wr => ∃ i : Nat, i ≤ n ∧ t = .int .i64 (i : Int) ∧ x = .int .i64 ((valN p E i : Nat) : Int) ∧ Below w2.heap.size w2 wr) (fun _ t _ => n - (intOf t).toNat)
  case atStart => exact ⟨0, by omega, rfl, rfl, Below.refl _ _⟩
  case round =>
    obtain ⟨i, hi, rfl, rfl, hbr⟩ := hrel
    rename World => wr
    have HBR := Lib.hid hbr
    have hsz := hbr.size
    have hvi : valN p E i ≤ i * 2049 := HVL.out i (by rw [← HN.out]; exact hi)
    clear hbr
    by_cases hlt : i < n
    · obtain ⟨b, off, rfl, hSb, hcl⟩ := HA.out (by omega)
      obtain ⟨x, y, hs⟩ := hcl i hlt
      have hs2 := (hs.keep (HBR.out.block b hSb) (fun g hg => HBR.out.block g hg))
      obtain ⟨c0, c1, c2, c3, c4, c5, c6, ⟨A1, n1', k1, rfl, -⟩, ⟨A2, n2', k2, rfl, -⟩⟩ := hs2
      have hco := fun W => HCT.out W i (by rw [← HN.out]; exact hlt)
      have hvn : valN p E (i + 1) = valN p E i + (cntG p (seeL E i).len.toNat + 1) := rfl
      have hvi2 : valN p E (i + 1) ≤ (i + 1) * 2049 := HVL.out (i + 1) (by rw [← HN.out]; exact hlt)
      obtain ⟨q, hq⟩ : ∃ q, cntG p (seeL E i).len.toNat = q := ⟨_, rfl⟩
      obtain ⟨m, hm⟩ : ∃ m, valN p E i = m := ⟨_, rfl⟩
      obtain ⟨m', hm'⟩ : ∃ m', valN p E (i + 1) = m' := ⟨_, rfl⟩
      rw [hq] at hco hvn
      rw [hm, hm'] at hvn
      rw [hm] at hvi
      rw [hm'] at hvi2
      rw [hm]
      obtain ⟨s, hse⟩ : ∃ s, seeL E i = s := ⟨_, rfl⟩
      rw [hse] at c0 c1 c2 c3 c4 hco
      generalize s.num = z0 at *
      generalize s.time = z1 at *
      generalize s.st = z2 at *
      generalize s.len = z3 at *
      generalize s.ep = z4 at *
      have HCO := Lib.hid hco
      have HM := Lib.hid hm'
      have hq2 : q ≤ 100000000 := by omega
      have hm2 : m ≤ 100000000 := by omega
      have HVN := Lib.hid hvn
      have hpr := HPB2.out.below HBR.out HPB2.out.lt
      have hbx : Below wr.heap.size wr (wr.alloc (.cells #[.int .i64 z0, .int .i64 z1, .int .i64 z2, .int .i64 z3, .int .i64 z4, .slice A1 n1' k1, .slice A2 n2' k2] 39)) := (Below.refl _ _).alloc (Nat.le_refl _) _
      have p0 : ∀ o, (wr.alloc o).cell? ⟨w.heap.size, 0, none⟩ = some (.int .i64 (p : Int)) := fun o => ((hpr.alloc o).cell 0).trans rfl
      have HX := Lib.hid (HBR.out.trans (hbx.mono hsz))
      have zi : (i : Int) < (n : Int) := by omega
      have zi0 : (0 : Int) ≤ (i : Int) := by omega
      clear hco hm hm' hvn hs hcl hse hpr hbx hq hvi hvi2
      go_wp2_with fail
      refine (HCO.out _).mono ?_
      rintro e w3 ⟨rfl, hb3⟩
      have HB3 := Lib.hid (HX.out.trans (hb3.mono HX.out.size))
      clear hb3
      go_wp2_with fail
      go_roundw
      case measure => simp [intOf]; omega
      case rel => exact ⟨i + 1, by omega, by go_num, (by rw [HM.out, HVN.out]; go_num), HB3.out⟩
    · obtain rfl : i = n := by omega
      have hpr := HPB2.out.below HBR.out HPB2.out.lt
      have hvr := HVB2.out.below HBR.out HVB2.out.lt
      have p0 := (hpr.cell 0).trans (show _ = some (Value.int .i64 (p : Int)) from rfl)
      have p1 := (hpr.cell 1).trans (show _ = some (Value.int .i64 (need : Int)) from rfl)
      have y0 := (hvr.cell 0).trans (show _ = some (Value.slice Ah nh ch) from rfl)
      have zi : ¬ (i : Int) < (i : Int) := by omega
      have hmu := HMU.out
      have hpo := HPW.out
      obtain ⟨pv, hpv0⟩ : ∃ pv, pw 1000003 p ((need - 1 - nh) * valN p E E.length) = pv := ⟨_, rfl⟩
      have HPV := Lib.hid hpv0
      rw [hpv0] at hpo
      clear hpv0
      rw [← HN.out] at hmu hpo
      rw [← HN.out] at hmb
      generalize valN p E i = m at *
      generalize (need - 1 - nh) * m = e at *
      have HPO := Lib.hid hpo
      have HB4 := Lib.hid (HB2.out.trans (HBR.out.mono HB2.out.size))
      have w1' : IntKind.i64.wrap ((need : Int) - 1) = (need : Int) - 1 := wraps_i64_63 _ (by omega) (by omega)
      have w2' : IntKind.i64.wrap ((need : Int) - 1 - (nh : Int)) = (need : Int) - 1 - (nh : Int) := wraps_i64_63 _ (by omega) (by omega)
      have w3' : IntKind.i64.wrap (((need : Int) - 1 - (nh : Int)) * (m : Int)) = (e : Int) := by rw [hmu]; exact wraps_i64_63 _ (by omega) (by omega)
      clear hpo hpr hvr hmu
      go_wp2_with fail
      refine (HPO.out _).mono ?_
      rintro e w5 ⟨rfl, rfl⟩
      go_wp2_with fail
      go_ret2
      exact ⟨by rw [HPV.out]; rfl, HB4.out⟩
end Go.Proofs.YtgeahbmaeaoeeaaGreatDoor
