/- Contracts: the statement StatementBack: a heavy argument. Contracts: the statement StatementBack: a light argument. -/
import Derived.Test.YtaljcojkcgjmcaaGreatDoorX40
import Derived.Test.YtaljcojkcgjmcaaGreatDoorX45
import Derived.Test.YtaljcojkcgjmcaaGreatDoorX20
set_option linter.unusedVariables false
set_option linter.unusedSimpArgs false
namespace Go.Proofs.YtaljcojkcgjmcaaGreatDoor
open Go.RowKit Num

theorem lb_F (A : Option Addr) (n c : Nat) (w : World) (h : n ≤ 9223372036854775807) (h5 : ¬ n ≤ 500) : Calls Tryz.prog 4 #[.slice A n c] w fun e w' => e = .returned (.bool false) ∧ w = w' := by
  have := k_Light A n c w h
  rwa [decide_eq_false (by omega)] at this
theorem lb_T (A : Option Addr) (n c : Nat) (w : World) (h : n ≤ 9223372036854775807) (h5 : n ≤ 500) : Calls Tryz.prog 4 #[.slice A n c] w fun e w' => e = .returned (.bool true) ∧ w = w' := by
  have := k_Light A n c w h
  rwa [decide_eq_true (by omega)] at this
set_option maxRecDepth 100000 in
set_option maxHeartbeats 400000 in
theorem b_heavy (A : Option Addr) (n c : Nat) (w : World) (hl : ParOk w) (hn : n ≤ 9223372036854775807) (h5 : ¬ n ≤ 500) : Calls Tryz.prog 3 #[.slice A n c] w (AwkO w) := by
  have HL := Lib.hid hl
  clear hl
  go_enter Tryz.func3, Tryz.ntmps3
  go_wp2_with fail
  refine (lb_F A n c _ hn h5).mono ?_
  rintro e w1 ⟨rfl, rfl⟩
  go_wp2_with fail
  refine (aw_awake _ HL.out).mono ?_
  rintro e w2 ⟨rfl, hb2⟩
  have HB2 := Lib.hid hb2
  clear hb2
  go_wp2_with fail
  go_ret
  exact ⟨rfl, HB2.out⟩
end Go.Proofs.YtaljcojkcgjmcaaGreatDoor
namespace Go.Proofs.YtaljcojkcgjmcaaGreatDoor
open Go.RowKit Num

/-- A statement in memory, its values and its block. -/
structure BkS1 (W : World) (q : Nat) (va vc vs : Value) (s : Stm) : Prop where
  blk : Blk W q 33 #[.string s.resp, .int .i64 s.dep, .int .i64 s.day, va, vc, vs]
  at_ : StmAt W (· < W.heap.size) va vc vs s
section
variable {W W' : World} {q : Nat} {va vc vs : Value} {s : Stm}
theorem BkS1.step (h : BkS1 W q va vc vs s) (hb : Below W.heap.size W W') : BkS1 W' q va vc vs s :=
  ⟨h.blk.below' hb h.blk.lt, (h.at_.keep fun b hB => hb.block b hB).mono fun b hB => Nat.lt_of_lt_of_le hB hb.size⟩
theorem BkS1.new (h : StmAt W (· < W.heap.size) va vc vs s) : BkS1 (W.alloc (.cells #[.string s.resp, .int .i64 s.dep, .int .i64 s.day, va, vc, vs] 33)) W.heap.size va vc vs s :=
  ⟨Blk.new W _ _, (h.keep fun b hB => Below.heap_alloc W _ b hB).mono fun b hB => by rw [World.size_alloc]; omega⟩
theorem BkS1.alloc (h : BkS1 W q va vc vs s) (o : Obj) : BkS1 (W.alloc o) q va vc vs s := h.step (below_al' W o)
end
theorem byt_small {s : Stm} (z : bytZ s = 0) : (bytS s).size ≤ 16384 := by
  obtain ⟨-, -, h3, h4⟩ := bytZ_parts z
  have h : (bytS s).size = (stmW s).length := by rw [h4]; exact List.size_toArray ..
  rw [h]; exact h3
theorem rd_good (s : Stm) (z : bytZ s = 0) (hm : StmSm s) (w : World) (hl : ParOk w) : Calls Tryz.prog 10 #[.string (bytS s)] w fun e w' => ∃ Aa na ca Ac nc cc As ns cs, e = .returned (.tuple #[.agg #[.string s.resp, .int .i64 s.dep, .int .i64 s.day, .slice Aa na ca, .slice Ac nc cc, .slice As ns cs], .int .i64 0]) ∧ StmAt w' (· < w'.heap.size) (.slice Aa na ca) (.slice Ac nc cc) (.slice As ns cs) s ∧ Below w.heap.size w w' := by
  have hs := byt_small z
  have hr := read_back s hm.ok z hm.cond
  refine (s_Read (bytS s) w (by omega) hl).mono ?_
  rintro e w' ⟨t, y, Aa, na, ca, Ac, nc, cc, As, ns, cs, rfl, hx, hb, hor⟩
  have h9 : t = s ∧ y = 0 := by
    rcases hor with ⟨_, _, h3, h4⟩ | ⟨h1, _, _⟩
    · exact ⟨h3.trans hr.1, h4⟩
    · exact absurd ⟨hs, hr.2⟩ h1
  obtain ⟨rfl, rfl⟩ := h9
  exact ⟨Aa, na, ca, Ac, nc, cc, As, ns, cs, rfl, hx.mono fun b hb => hb.2, hb⟩
theorem sm_args {s : Stm} (h : StmSm s) : ∀ x ∈ s.cond, x.args.length ≤ 1000000 := h.both.2
set_option maxRecDepth 100000 in
set_option maxHeartbeats 2000000 in
theorem b_light (A : Option Addr) (n c : Nat) (w : World) (hl : ParOk w) (hn : n ≤ 9223372036854775807) (h5 : n ≤ 500) (har : ArgL w (.slice A n c)) : Calls Tryz.prog 3 #[.slice A n c] w (AwkO w) := by
  have HL := Lib.hid hl
  have HAR := Lib.hid har
  clear hl har
  go_enter Tryz.func3, Tryz.ntmps3
  go_wp2_with fail
  refine (lb_T A n c _ hn h5).mono ?_
  rintro e w1 ⟨rfl, rfl⟩
  go_wp2_with fail
  refine (k_Roll _ _ HAR.out).mono ?_
  rintro e w1 ⟨rfl, hd1, hb1⟩
  have hdb := hd1.lt
  have HD1 := Lib.hid hd1
  have HB1 := Lib.hid hb1
  clear hd1 hb1
  go_wp2_with fail
  refine (k_Form w.heap.size w1 HD1.out).mono ?_
  rintro e w2 ⟨t, Af, nf, cf, Lf, rfl, hF, -, hlf, hsm, hd2, hg2⟩
  have hst := k_Statement w.heap.size t Af nf cf Lf w2 hd2 (hF.mono fun b hb => ⟨by omega, hb.2⟩) (by omega) (fun k hk => Nat.le_trans (hsm k hk).1 (by omega))
  have HST := Lib.hid hst
  have HG2 := Lib.hid hg2
  have hz2 := hg2.size
  clear hF hlf hsm hd2 hg2 hst HD1
  go_wp2_with fail
  refine HST.out.mono ?_
  rintro e w3 ⟨s1, A1, n1, c1, A2, n2, c2, A3, n3, c3, rfl, hS, hm1, hd3, hg3⟩
  have hz3 := hg3.size
  have HS1 := Lib.hid hS
  have HM1 := Lib.hid hm1
  have HG3 := Lib.hid (gb_trans HG2.out hg3)
  have HD3 := Lib.hid hd3
  clear hS hm1 hd3 hg3 HST HG2
  go_wp2_with fail
  refine (k_Form w.heap.size w3 HD3.out).mono ?_
  rintro e w4 ⟨t4, A4, n4, c4, L4, rfl, hF, -, hlf, hsm, hd4, hg4⟩
  have hst := k_Statement w.heap.size t4 A4 n4 c4 L4 w4 hd4 (hF.mono fun b hb => ⟨by omega, hb.2⟩) (by omega) (fun k hk => Nat.le_trans (hsm k hk).1 (by omega))
  have HST := Lib.hid hst
  have HG4 := Lib.hid hg4
  have hz4 := hg4.size
  clear hF hlf hsm hd4 hg4 hst HD3
  go_wp2_with fail
  refine HST.out.mono ?_
  rintro e w5 ⟨s2, B1, m1, d1, B2, m2, d2, B3, m3, d3, rfl, hS2, hm2, -, hg5⟩
  have hz5 := hg5.size
  have hg35 := gb_trans HG4.out hg5
  have hS1' : StmAt w5 (· < w5.heap.size) (.slice A1 n1 c1) (.slice A2 n2 c2) (.slice A3 n3 c3) s1 := (HS1.out.keep fun b hb => hg35.block b hb.2 (by intro e; injection e; omega)).mono fun b hb => by omega
  have hS2' : StmAt w5 (· < w5.heap.size) (.slice B1 m1 d1) (.slice B2 m2 d2) (.slice B3 m3 d3) s2 := hS2.mono fun b hb => hb.2
  have hB5 : Below w.heap.size w w5 := HB1.out.grown (gb_trans HG3.out hg35) (by omega) (fun g hg => by injection hg; omega)
  have hX1 := (BkS1.new hS1').alloc (.cells #[.string s2.resp, .int .i64 s2.dep, .int .i64 s2.day, .slice B1 m1 d1, .slice B2 m2 d2, .slice B3 m3 d3] 33)
  have hS2'' : StmAt (w5.alloc (.cells #[.string s1.resp, .int .i64 s1.dep, .int .i64 s1.day, .slice A1 n1 c1, .slice A2 n2 c2, .slice A3 n3 c3] 33)) (· < (w5.alloc (.cells #[.string s1.resp, .int .i64 s1.dep, .int .i64 s1.day, .slice A1 n1 c1, .slice A2 n2 c2, .slice A3 n3 c3] 33)).heap.size) (.slice B1 m1 d1) (.slice B2 m2 d2) (.slice B3 m3 d3) s2 := (hS2'.keep fun b hb => Below.heap_alloc w5 _ b hb).mono fun b hb => by rw [World.size_alloc]; omega
  have hX2 := BkS1.new hS2''
  rw [World.size_alloc] at hX2
  have hB6 := (hB5.alloc hB5.size (.cells #[.string s1.resp, .int .i64 s1.dep, .int .i64 s1.day, .slice A1 n1 c1, .slice A2 n2 c2, .slice A3 n3 c3] 33)).alloc (by have := hB5.size; rw [World.size_alloc]; omega) (.cells #[.string s2.resp, .int .i64 s2.dep, .int .i64 s2.day, .slice B1 m1 d1, .slice B2 m2 d2, .slice B3 m3 d3] 33)
  have K := Lib.hid (And.intro hX1 (And.intro hX2 (And.intro hB6 (And.intro HM1.out hm2))))
  clear hX1 hX2 hB6 hS1' hS2' hS2'' hB5 hg35 hS2 hm2 hg5 HS1 HM1 HG3 HG4 HST HB1
  go_upto_region 5 with fail
  generalize (w5.alloc (.cells #[.string s1.resp, .int .i64 s1.dep, .int .i64 s1.day, .slice A1 n1 c1, .slice A2 n2 c2, .slice A3 n3 c3] 33)).alloc (.cells #[.string s2.resp, .int .i64 s2.dep, .int .i64 s2.day, .slice B1 m1 d1, .slice B2 m2 d2, .slice B3 m3 d3] 33) = w6 at K ⊢
  obtain ⟨q1, hq1⟩ : ∃ q1, w5.heap.size = q1 := ⟨_, rfl⟩
  rw [hq1] at K
  try rw [hq1]
  obtain ⟨q2, hq2⟩ : ∃ q2, q1 + 1 = q2 := ⟨_, rfl⟩
  rw [hq2] at K
  try rw [hq2]
  clear hq1 hq2
  obtain ⟨hX1, hX2, hB6, hm1, hm2⟩ := K.out
  have hb1 := s_Bytes s1 A1 A2 A3 n1 c1 n2 c2 n3 c3 (· < w6.heap.size) w6 hX1.at_ (fun b hb => hb) hm1.ok (HL.out.later hB6).lib
  have HBY1 := Lib.hid hb1
  have HM := Lib.hid (And.intro hm1 hm2)
  have K6 := Lib.hid (And.intro hX1 (And.intro hX2 hB6))
  have x0 := (hX1.blk.cell 0).trans (show _ = some (Value.string s1.resp) from rfl)
  have x1 := (hX1.blk.cell 1).trans (show _ = some (Value.int .i64 s1.dep) from rfl)
  have x2 := (hX1.blk.cell 2).trans (show _ = some (Value.int .i64 s1.day) from rfl)
  have x3 := (hX1.blk.cell 3).trans (show _ = some (Value.slice A1 n1 c1) from rfl)
  have x4 := (hX1.blk.cell 4).trans (show _ = some (Value.slice A2 n2 c2) from rfl)
  have x5 := (hX1.blk.cell 5).trans (show _ = some (Value.slice A3 n3 c3) from rfl)
  clear hX1 hX2 hB6 hm1 hm2 hb1 K
  go_wp2_with fail
  refine HBY1.out.mono ?_
  rintro e w7 ⟨rfl, hb7⟩
  have hX1 := K6.out.1.step hb7
  have hX2 := K6.out.2.1.step hb7
  have hB7 := K6.out.2.2.trans (hb7.mono K6.out.2.2.size)
  have hby2 := s_Bytes s2 B1 B2 B3 m1 d1 m2 d2 m3 d3 (· < w7.heap.size) w7 hX2.at_ (fun b hb => hb) HM.out.2.ok (HL.out.later hB7).lib
  have HBY2 := Lib.hid hby2
  have K7 := Lib.hid (And.intro hX1 (And.intro hX2 hB7))
  clear x0 x1 x2 x3 x4 x5
  have y0 := (hX2.blk.cell 0).trans (show _ = some (Value.string s2.resp) from rfl)
  have y1 := (hX2.blk.cell 1).trans (show _ = some (Value.int .i64 s2.dep) from rfl)
  have y2 := (hX2.blk.cell 2).trans (show _ = some (Value.int .i64 s2.day) from rfl)
  have y3 := (hX2.blk.cell 3).trans (show _ = some (Value.slice B1 m1 d1) from rfl)
  have y4 := (hX2.blk.cell 4).trans (show _ = some (Value.slice B2 m2 d2) from rfl)
  have y5 := (hX2.blk.cell 5).trans (show _ = some (Value.slice B3 m3 d3) from rfl)
  clear hX1 hX2 hB7 hb7 hby2 K6 HBY1
  go_wp2_with fail
  refine HBY2.out.mono ?_
  rintro e w8 ⟨rfl, hb8⟩
  have K8 := Lib.hid (And.intro (K7.out.1.step hb8) (And.intro (K7.out.2.1.step hb8) (K7.out.2.2.trans (hb8.mono K7.out.2.2.size))))
  clear hb8 K7 HBY2 y0 y1 y2 y3 y4 y5
  by_cases z1 : bytZ s1 = 0
  · by_cases z2 : bytZ s2 = 0
    · have hrd1 := fun (W : World) (h : Below w.heap.size w W) => rd_good s1 z1 HM.out.1 W (HL.out.later h)
      have hrd2 := fun (W : World) (h : Below w.heap.size w W) => rd_good s2 z2 HM.out.2 W (HL.out.later h)
      have hinj := byt_inj s1 s2 HM.out.1.ok HM.out.2.ok z1 z2 HM.out.1.cond HM.out.2.cond
      rw [z1, z2]
      obtain ⟨bs1, hbs1⟩ : ∃ b, bytS s1 = b := ⟨_, rfl⟩
      obtain ⟨bs2, hbs2⟩ : ∃ b, bytS s2 = b := ⟨_, rfl⟩
      rw [hbs1] at hrd1 hinj
      rw [hbs2] at hrd2 hinj
      rw [hbs1, hbs2]
      have HR1 := Lib.hid hrd1
      have HR2 := Lib.hid hrd2
      have HI := Lib.hid hinj
      clear hrd1 hrd2 hinj hbs1 hbs2 z1 z2
      go_wp2_with fail
      refine (HR1.out _ K8.out.2.2).mono ?_
      rintro e w9 ⟨C1, p1, e1, C2, p2, e2, C3, p3, e3, rfl, hx, hb9⟩
      have hX1 := (K8.out.1.step hb9).alloc (.cells #[.string s1.resp, .int .i64 s1.dep, .int .i64 s1.day, .slice C1 p1 e1, .slice C2 p2 e2, .slice C3 p3 e3] 33)
      have hX2 := (K8.out.2.1.step hb9).alloc (.cells #[.string s1.resp, .int .i64 s1.dep, .int .i64 s1.day, .slice C1 p1 e1, .slice C2 p2 e2, .slice C3 p3 e3] 33)
      have hU1 := BkS1.new hx
      have hB9 := K8.out.2.2.trans (hb9.mono K8.out.2.2.size)
      have hBA := hB9.alloc hB9.size (.cells #[.string s1.resp, .int .i64 s1.dep, .int .i64 s1.day, .slice C1 p1 e1, .slice C2 p2 e2, .slice C3 p3 e3] 33)
      go_upto_region 10 with fail
      generalize w9.alloc (.cells #[.string s1.resp, .int .i64 s1.dep, .int .i64 s1.day, .slice C1 p1 e1, .slice C2 p2 e2, .slice C3 p3 e3] 33) = wa at *
      obtain ⟨q3, hq3⟩ : ∃ q3, w9.heap.size = q3 := ⟨_, rfl⟩
      rw [hq3] at hU1
      try rw [hq3]
      have KA := Lib.hid (And.intro hX1 (And.intro hX2 (And.intro hU1 hBA)))
      clear hX1 hX2 hU1 hB9 hBA hb9 hx K8 HR1 hq3
      go_wp2_with fail
      refine (HR2.out _ KA.out.2.2.2).mono ?_
      rintro e w9b ⟨D1, r1, f1, D2, r2, f2, D3, r3, f3, rfl, hx, hb9⟩
      have hX1 := (KA.out.1.step hb9).alloc (.cells #[.string s2.resp, .int .i64 s2.dep, .int .i64 s2.day, .slice D1 r1 f1, .slice D2 r2 f2, .slice D3 r3 f3] 33)
      have hX2 := (KA.out.2.1.step hb9).alloc (.cells #[.string s2.resp, .int .i64 s2.dep, .int .i64 s2.day, .slice D1 r1 f1, .slice D2 r2 f2, .slice D3 r3 f3] 33)
      have hU1 := (KA.out.2.2.1.step hb9).alloc (.cells #[.string s2.resp, .int .i64 s2.dep, .int .i64 s2.day, .slice D1 r1 f1, .slice D2 r2 f2, .slice D3 r3 f3] 33)
      have hU2 := BkS1.new hx
      have hB9 := KA.out.2.2.2.trans (hb9.mono KA.out.2.2.2.size)
      have hBA := hB9.alloc hB9.size (.cells #[.string s2.resp, .int .i64 s2.dep, .int .i64 s2.day, .slice D1 r1 f1, .slice D2 r2 f2, .slice D3 r3 f3] 33)
      go_upto_region 11 with fail
      generalize w9b.alloc (.cells #[.string s2.resp, .int .i64 s2.dep, .int .i64 s2.day, .slice D1 r1 f1, .slice D2 r2 f2, .slice D3 r3 f3] 33) = wb at *
      obtain ⟨q4, hq4⟩ : ∃ q4, w9b.heap.size = q4 := ⟨_, rfl⟩
      rw [hq4] at hU2
      try rw [hq4]
      have hsm1 : Calls Tryz.prog 11 #[.agg #[.string s1.resp, .int .i64 s1.dep, .int .i64 s1.day, .slice C1 p1 e1, .slice C2 p2 e2, .slice C3 p3 e3], .agg #[.string s1.resp, .int .i64 s1.dep, .int .i64 s1.day, .slice A1 n1 c1, .slice A2 n2 c2, .slice A3 n3 c3]] wb (SameB (s1 = s1) wb) := s_Same s1 s1 _ _ _ _ _ _ wb hU1.at_ hX1.at_ HM.out.1.ok HM.out.1.ok (sm_args HM.out.1) (sm_args HM.out.1)
      have HS1 := Lib.hid hsm1
      have KB := Lib.hid (And.intro hX1 (And.intro hX2 (And.intro hU2 hBA)))
      have x0 := (hX1.blk.cell 0).trans (show _ = some (Value.string s1.resp) from rfl)
      have x1 := (hX1.blk.cell 1).trans (show _ = some (Value.int .i64 s1.dep) from rfl)
      have x2 := (hX1.blk.cell 2).trans (show _ = some (Value.int .i64 s1.day) from rfl)
      have x3 := (hX1.blk.cell 3).trans (show _ = some (Value.slice A1 n1 c1) from rfl)
      have x4 := (hX1.blk.cell 4).trans (show _ = some (Value.slice A2 n2 c2) from rfl)
      have x5 := (hX1.blk.cell 5).trans (show _ = some (Value.slice A3 n3 c3) from rfl)
      have y0 := (hU1.blk.cell 0).trans (show _ = some (Value.string s1.resp) from rfl)
      have y1 := (hU1.blk.cell 1).trans (show _ = some (Value.int .i64 s1.dep) from rfl)
      have y2 := (hU1.blk.cell 2).trans (show _ = some (Value.int .i64 s1.day) from rfl)
      have y3 := (hU1.blk.cell 3).trans (show _ = some (Value.slice C1 p1 e1) from rfl)
      have y4 := (hU1.blk.cell 4).trans (show _ = some (Value.slice C2 p2 e2) from rfl)
      have y5 := (hU1.blk.cell 5).trans (show _ = some (Value.slice C3 p3 e3) from rfl)
      clear hX1 hX2 hU1 hU2 hB9 hBA hb9 hx KA HR2 hq4 hsm1
      cases hxy : (bs1.toList == bs2.toList)
      all_goals
        go_wp2_with fail
        refine HS1.out.mono ?_
        rintro e wc ⟨b1, rfl, hb1, hbc⟩
        have hbt : b1 = true := hb1.2 (by trivial)
        subst hbt
        have hX1 := KB.out.1.step hbc
        have hX2 := KB.out.2.1.step hbc
        have hU2 := KB.out.2.2.1.step hbc
        have hBC := KB.out.2.2.2.trans (hbc.mono KB.out.2.2.2.size)
        have hsm2 : Calls Tryz.prog 11 #[.agg #[.string s2.resp, .int .i64 s2.dep, .int .i64 s2.day, .slice D1 r1 f1, .slice D2 r2 f2, .slice D3 r3 f3], .agg #[.string s2.resp, .int .i64 s2.dep, .int .i64 s2.day, .slice B1 m1 d1, .slice B2 m2 d2, .slice B3 m3 d3]] wc (SameB (s2 = s2) wc) := s_Same s2 s2 _ _ _ _ _ _ wc hU2.at_ hX2.at_ HM.out.2.ok HM.out.2.ok (sm_args HM.out.2) (sm_args HM.out.2)
        have HS2 := Lib.hid hsm2
        have KC := Lib.hid (And.intro hX1 (And.intro hX2 hBC))
        clear x0 x1 x2 x3 x4 x5 y0 y1 y2 y3 y4 y5
        have x0 := (hX2.blk.cell 0).trans (show _ = some (Value.string s2.resp) from rfl)
        have x1 := (hX2.blk.cell 1).trans (show _ = some (Value.int .i64 s2.dep) from rfl)
        have x2 := (hX2.blk.cell 2).trans (show _ = some (Value.int .i64 s2.day) from rfl)
        have x3 := (hX2.blk.cell 3).trans (show _ = some (Value.slice B1 m1 d1) from rfl)
        have x4 := (hX2.blk.cell 4).trans (show _ = some (Value.slice B2 m2 d2) from rfl)
        have x5 := (hX2.blk.cell 5).trans (show _ = some (Value.slice B3 m3 d3) from rfl)
        have y0 := (hU2.blk.cell 0).trans (show _ = some (Value.string s2.resp) from rfl)
        have y1 := (hU2.blk.cell 1).trans (show _ = some (Value.int .i64 s2.dep) from rfl)
        have y2 := (hU2.blk.cell 2).trans (show _ = some (Value.int .i64 s2.day) from rfl)
        have y3 := (hU2.blk.cell 3).trans (show _ = some (Value.slice D1 r1 f1) from rfl)
        have y4 := (hU2.blk.cell 4).trans (show _ = some (Value.slice D2 r2 f2) from rfl)
        have y5 := (hU2.blk.cell 5).trans (show _ = some (Value.slice D3 r3 f3) from rfl)
        clear hX1 hX2 hU2 hBC hbc hb1 KB HS1 hsm2
        go_wp2_with fail
        refine HS2.out.mono ?_
        rintro e wd ⟨b2, rfl, hb2, hbd⟩
        have hbt : b2 = true := hb2.2 (by trivial)
        subst hbt
        have hX1 := KC.out.1.step hbd
        have hX2 := KC.out.2.1.step hbd
        have hBD := KC.out.2.2.trans (hbd.mono KC.out.2.2.size)
        have hsm3 : Calls Tryz.prog 11 #[.agg #[.string s1.resp, .int .i64 s1.dep, .int .i64 s1.day, .slice A1 n1 c1, .slice A2 n2 c2, .slice A3 n3 c3], .agg #[.string s2.resp, .int .i64 s2.dep, .int .i64 s2.day, .slice B1 m1 d1, .slice B2 m2 d2, .slice B3 m3 d3]] wd (SameB (s1 = s2) wd) := s_Same s1 s2 _ _ _ _ _ _ wd hX1.at_ hX2.at_ HM.out.1.ok HM.out.2.ok (sm_args HM.out.1) (sm_args HM.out.2)
        have HS3 := Lib.hid hsm3
        have HBD := Lib.hid hBD
        clear x0 x1 x2 x3 x4 x5 y0 y1 y2 y3 y4 y5
        have x0 := (hX1.blk.cell 0).trans (show _ = some (Value.string s1.resp) from rfl)
        have x1 := (hX1.blk.cell 1).trans (show _ = some (Value.int .i64 s1.dep) from rfl)
        have x2 := (hX1.blk.cell 2).trans (show _ = some (Value.int .i64 s1.day) from rfl)
        have x3 := (hX1.blk.cell 3).trans (show _ = some (Value.slice A1 n1 c1) from rfl)
        have x4 := (hX1.blk.cell 4).trans (show _ = some (Value.slice A2 n2 c2) from rfl)
        have x5 := (hX1.blk.cell 5).trans (show _ = some (Value.slice A3 n3 c3) from rfl)
        have y0 := (hX2.blk.cell 0).trans (show _ = some (Value.string s2.resp) from rfl)
        have y1 := (hX2.blk.cell 1).trans (show _ = some (Value.int .i64 s2.dep) from rfl)
        have y2 := (hX2.blk.cell 2).trans (show _ = some (Value.int .i64 s2.day) from rfl)
        have y3 := (hX2.blk.cell 3).trans (show _ = some (Value.slice B1 m1 d1) from rfl)
        have y4 := (hX2.blk.cell 4).trans (show _ = some (Value.slice B2 m2 d2) from rfl)
        have y5 := (hX2.blk.cell 5).trans (show _ = some (Value.slice B3 m3 d3) from rfl)
        clear hX1 hX2 hBD hbd hb2 KC HS2 hsm3
        go_wp2_with fail
        refine HS3.out.mono ?_
        rintro e we ⟨b3, rfl, hb3, hbe⟩
        have HBE := Lib.hid (HBD.out.trans (hbe.mono HBD.out.size))
        have hb3' : b3 = (bs1.toList == bs2.toList) := by
          rw [Bool.eq_iff_iff, hb3, ← HI.out]
          refine ⟨fun h => by rw [h]; simp, fun h => (bytes_of h).symm⟩
        rw [hxy] at hb3'
        subst hb3'
        clear x0 x1 x2 x3 x4 x5 y0 y1 y2 y3 y4 y5 hbe hb3 HS3 HBD
        go_wp2_with fail
        refine (aw_awake _ (HL.out.later HBE.out)).mono ?_
        rintro e wf ⟨rfl, hbf⟩
        have HBF := Lib.hid (HBE.out.trans (hbf.mono HBE.out.size))
        clear hbf
        go_wp2_with fail
        go_ret
        exact ⟨rfl, HBF.out⟩
    · go_wp2_with fail
      refine (aw_awake _ (HL.out.later K8.out.2.2)).mono ?_
      rintro e w9 ⟨rfl, hb9⟩
      have HB9 := Lib.hid (K8.out.2.2.trans (hb9.mono K8.out.2.2.size))
      clear hb9
      go_wp2_with fail
      go_ret
      exact ⟨rfl, HB9.out⟩
  · go_wp2_with fail
    refine (aw_awake _ (HL.out.later K8.out.2.2)).mono ?_
    rintro e w9 ⟨rfl, hb9⟩
    have HB9 := Lib.hid (K8.out.2.2.trans (hb9.mono K8.out.2.2.size))
    clear hb9
    go_wp2_with fail
    go_ret
    exact ⟨rfl, HB9.out⟩
end Go.Proofs.YtaljcojkcgjmcaaGreatDoor
