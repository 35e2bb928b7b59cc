/- The walk of a drawn region: friends are made out of the dice. Contracts: whether shares are good in a plan (they are): the reference. Numbers that pass the test of Miller and Rabin with 2, 3, 5 and 7: what a composite one up to 2 to the power of 30 would have to be. No program stands in it. -/
import Derived.Test.YtjfphobfikadlaaGreatDoorY24
import Derived.Test.YtjfphobfikadlaaGreatDoorY29
import Derived.Test.YtjfphobfikadlaaGreatDoorY38
import Derived.Test.YtjfphobfikadlaaGreatDoorY30
import Derived.Test.YtjfphobfikadlaaGreatDoorY02
set_option linter.unusedVariables false
set_option linter.unusedSimpArgs false
namespace Go.Proofs.YtjfphobfikadlaaGreatDoor
open Go.RowKit Num

/-- What the calls keep: the dice, the plan, all that lay there before. -/
structure LsK (w : World) (d B p need hold : Nat) (W : World) : Prop where
  dice : Dc W d
  plan : Blk W B 34 #[.int .i64 (p : Int), .int .i64 (need : Int), .int .i64 (hold : Int)]
  old : Below d w W
  lt : d < B
section
variable {w W W' : World} {d B p need hold : Nat}
theorem LsK.alloc (h : LsK w d B p need hold W) (o : Obj) : LsK w d B p need hold (W.alloc o) :=
  ⟨h.dice.alloc o, h.plan.below ((Below.refl W.heap.size W).alloc (Nat.le_refl _) o) h.plan.lt, h.old.alloc (Nat.le_of_lt h.dice.lt) o, h.lt⟩
theorem LsK.drew (h : LsK w d B p need hold W) : LsK w d B p need hold W.drew := ⟨h.dice.drew, h.plan, h.old.drew, h.lt⟩
theorem LsK.below (h : LsK w d B p need hold W) (hb : Below W.heap.size W W') : LsK w d B p need hold W' :=
  ⟨h.dice.below hb h.dice.lt, h.plan.below hb h.plan.lt, h.old.trans (hb.mono (Nat.le_of_lt h.dice.lt)), h.lt⟩
theorem LsK.grown (h : LsK w d B p need hold W) (hg : W.grownBy W' (some d)) (hd : Dc W' d) : LsK w d B p need hold W' :=
  ⟨hd, h.plan.grown hg (fun e => by injection e with e; have := h.lt; omega), h.old.grown hg (Nat.le_of_lt h.dice.lt) (fun g hg => by injection hg with hg; omega), h.lt⟩
theorem LsK.ne_d (h : LsK w d B p need hold W) : some W.heap.size ≠ some d := fun e => by injection e with e; have := h.dice.lt; omega
theorem LsK.cell0 (h : LsK w d B p need hold W) : W.cell? ⟨B, 0, none⟩ = some (.int .i64 (p : Int)) := h.plan.cell 0
theorem LsK.cell1 (h : LsK w d B p need hold W) : W.cell? ⟨B, 1, none⟩ = some (.int .i64 (need : Int)) := h.plan.cell 1
theorem LsK.cell2 (h : LsK w d B p need hold W) : W.cell? ⟨B, 2, none⟩ = some (.int .i64 (hold : Int)) := h.plan.cell 2
end
/-- Shares as they are dealt. -/
def LsS (p hold : Nat) (W : World) (S : Nat → Prop) (v : Value) : Prop := ∃ L : List Sh, ShAt W S v L ∧ GoodSh p hold (cntP p) L ∧ L.length = hold ∧ ∀ j, j < hold → (shAt L j).1 = (j : Int) + 1
theorem LsS.keep {p hold : Nat} {W W' : World} {S S' : Nat → Prop} {v : Value} (h : LsS p hold W S v) (hk : ∀ z, S z → W'.heap[z]? = W.heap[z]?) (hS : ∀ z, S z → S' z) : LsS p hold W' S' v := by
  obtain ⟨L, h1, h2, h3, h4⟩ := h
  exact ⟨L, (h1.keep hk).mono hS, h2, h3, h4⟩
def LsQ (w : World) (d B p need hold : Nat) (l e : Value) (wx : World) : Prop := e = .int .i64 0 ∧ LsS p hold wx (fun z => z < wx.heap.size) l ∧ LsK w d B p need hold wx
theorem ls_first {w wk : World} {d B p need hold : Nat} {S : Nat → Prop} {vl : Value} (h : LsK w d B p need hold wk) (hl : LsS p hold wk S vl) (hS : ∀ z, S z → z < wk.heap.size) (o : Obj) : LsQ w d B p need hold vl (.int .i64 0) (wk.alloc o) :=
  ⟨rfl, hl.keep (fun z hz => Below.heap_alloc _ _ _ (hS z hz)) (fun z hz => by have := hS z hz; simp; omega), h.alloc o⟩
theorem ls_second {w wk : World} {d B p need hold C : Nat} {S : Nat → Prop} {vl : Value} {x0 x1 x2 x3 x4 x5 : Value} (h : LsK w d B p need hold wk) (kc : Blk wk C 40 #[x0, x1, x2, x3, x4, x5]) (hC : ∃ W, LsK w d B p need hold W ∧ C = W.heap.size) (hl : LsS p hold wk S vl) (hS : ∀ z, S z → z < wk.heap.size ∧ z ≠ C) (a b c e f g : Value) :
    LsQ w d B p need hold vl (.int .i64 0) ((((((wk.setCell ⟨C, 0, none⟩ a).setCell ⟨C, 1, none⟩ b).setCell ⟨C, 2, none⟩ c).setCell ⟨C, 3, none⟩ e).setCell ⟨C, 4, none⟩ f).setCell ⟨C, 5, none⟩ g) := by
  obtain ⟨h1, h2⟩ := circ_set kc a b c e f g
  generalize ((((((wk.setCell ⟨C, 0, none⟩ a).setCell ⟨C, 1, none⟩ b).setCell ⟨C, 2, none⟩ c).setCell ⟨C, 3, none⟩ e).setCell ⟨C, 4, none⟩ f).setCell ⟨C, 5, none⟩ g) = wf at *
  obtain ⟨W, hW, rfl⟩ := hC
  have hz := h2.size
  have hd := hW.dice.lt
  have hp := hW.plan.lt
  refine ⟨rfl, hl.keep (fun z hz => h2.block z (hS z hz).1 (fun e => by injection e with e; exact (hS z hz).2 e)) (fun z hz' => by have := (hS z hz').1; omega), ?_, ?_, ?_, h.lt⟩
  · exact h.dice.grown h2 (fun g hg => by injection hg with hg; omega)
  · exact h.plan.grown h2 (fun e => by injection e with e; omega)
  · exact h.old.grown h2 (Nat.le_of_lt h.dice.lt) (fun g hg => by injection hg with hg; omega)
theorem packP_len (p : Nat) (l : List UInt8) (hp : p < 256 ∨ 16777216 ≤ p) (hl : l.length = 16) : (packP p l).length = cntP p := by
  unfold packP
  rcases hp with h | h
  · rw [if_pos h, bitsL_len, hl, cnt0 h]
  · rw [if_neg (by omega), pack3_len, hl, cnt3 h]
end Go.Proofs.YtjfphobfikadlaaGreatDoor
namespace Go.Proofs.YtjfphobfikadlaaGreatDoor
open Go.RowKit Num

set_option maxHeartbeats 400000 in
theorem r_StandsA (p need hold h : Nat) (v : Value) (xs : List Int) (S : Nat → Prop) (w : World) (hp : Prm p) (h2 : p ≤ 1073741824) (hv : IntsAt w S v xs) (hS : ∀ b, S b → b < w.heap.size) (hl : xs.length ≤ 1000000) (hx : InF p xs) (h1 : 1 ≤ h) (h2' : h ≤ hold) :
    Calls Tryz.prog 131 #[.agg #[.int .i64 (p : Int), .int .i64 (need : Int), .int .i64 (hold : Int)], .agg #[.int .i64 (h : Int), v]] w (BoolBelow true w) := by
  obtain ⟨A, n, c, rfl, hn, hnc, hcc⟩ := id hv
  have t1 : decide ((1 : Int) ≤ (h : Int)) = true := decide_eq_true (by omega)
  have t2 : decide ((h : Int) ≤ (hold : Int)) = true := decide_eq_true (by omega)
  have t3 : decide (h ≤ hold) = true := decide_eq_true h2'
  have e := fun (o o' : Obj) => r_Elements p (.slice A n c) xs S ((w.alloc o).alloc o') hp h2 ((hv.keep fun b hb => Below.heap_alloc _ _ _ (hS b hb)).keep fun b hb => Below.heap_alloc _ _ _ (by have := hS b hb; simp; omega)) hl hx
  have E := Lib.hid e
  clear e hv hx hn hcc h1 h2'
  go_enter Tryz.func131, Tryz.ntmps131
  go_wp2_with fail
  refine (E.out _ _).mono ?_
  rintro e w' ⟨rfl, rfl⟩
  go_wp2_with fail
  go_ret
  exact ⟨rfl, (((Below.refl _ _).alloc (Nat.le_refl _) _).alloc (by simp) _)⟩
set_option maxRecDepth 100000 in
set_option maxHeartbeats 4000000 in
theorem r_GoodA (p need hold m : Nat) (v : Value) (L : List Sh) (S : Nat → Prop) (w : World) (hp : Prm p) (hp2 : p ≤ 1073741824) (n3 : hold ≤ 16)
    (hv : ShAt w S v L) (hS : ∀ b, S b → b < w.heap.size) (hl : L.length ≤ 16) (hm : m ≤ 2048) (ho : GoodSh p hold m L) :
    Calls Tryz.prog 77 #[.agg #[.int .i64 (p : Int), .int .i64 (need : Int), .int .i64 (hold : Int)], v] w (BoolBelow true w) := by
  obtain ⟨i0, hi, hz0, hz1, hz2⟩ := info_parts infoS
  obtain ⟨A, n, c, rfl, hn, hnc, hc⟩ := id hv
  have hsl := fun (W : World) (i : Nat) (h : i ≤ c) => run_slice_hi (P := Tryz.prog) W 41 49 i0 Tryz.underlying41 hi A n c i h (i : Int) rfl
  have HSL := Lib.hid hsl
  have hn1 : n ≤ 16 := by omega
  have HV := Lib.hid hv
  have HN := Lib.hid hn
  have HO := Lib.hid ho
  have hst : ∀ (W : World) (h : Nat) (u : Value) (xs : List Int), IntsAt W (fun b => b < W.heap.size) u xs → xs.length = m → InF p xs → 1 ≤ h → h ≤ hold → Calls Tryz.prog 131 #[.agg #[.int .i64 (p : Int), .int .i64 (need : Int), .int .i64 (hold : Int)], .agg #[.int .i64 (h : Int), u]] W (BoolBelow true W) := fun W h u xs hu hx hf h1 h2 =>
    r_StandsA p need hold h u xs _ W hp hp2 hu (fun b hb => hb) (by omega) hf h1 h2
  have HST := Lib.hid hst
  clear hv hn ho hc hst hsl
  have kp0 : Blk ((w.alloc (.cells #[.int .i64 (p : Int), .int .i64 (need : Int), .int .i64 (hold : Int)] 34))) w.heap.size 34 #[.int .i64 (p : Int), .int .i64 (need : Int), .int .i64 (hold : Int)] := Blk.new w _ _
  have hb0 : Below w.heap.size w (w.alloc (.cells #[.int .i64 (p : Int), .int .i64 (need : Int), .int .i64 (hold : Int)] 34)) := (Below.refl _ _).alloc (Nat.le_refl _) _
  have hs0 : (w.alloc (.cells #[.int .i64 (p : Int), .int .i64 (need : Int), .int .i64 (hold : Int)] 34)).heap.size = w.heap.size + 1 := by simp
  have KP := Lib.hid kp0
  have HB0 := Lib.hid hb0
  clear kp0 hb0
  go_enter Tryz.func77, Tryz.ntmps77
  go_wp2_with fail
  generalize (w.alloc (.cells #[.int .i64 (p : Int), .int .i64 (need : Int), .int .i64 (hold : Int)] 34)) = w2 at *
  have HS0 := Lib.hid hs0
  have hsz2 : w.heap.size < w2.heap.size := by omega
  clear hs0
  go_loopw [11] (fun t wr => ∃ k : Nat, k ≤ n ∧ t = .int .i64 k ∧ Below w2.heap.size w2 wr) (fun t _ => n - (intOf t).toNat)
  case atStart => exact ⟨0, by omega, rfl, Below.refl _ _⟩
  case round =>
    obtain ⟨k, hk, rfl, hbl⟩ := hrel
    have hz := hbl.size
    by_cases hlt : k < n
    · have hkl : k < L.length := by have := HN.out; omega
      obtain ⟨A1, n1', c1, hv1, e1, e2, hcs⟩ := HV.out
      injection hv1 with v1 v2 v3
      subst v1 v2 v3
      obtain ⟨b, off, rfl, hSb, hcell⟩ := hcs (by omega)
      obtain ⟨u, m0, m1, hu⟩ := hcell k hlt
      obtain ⟨u0, _, m3, hu0⟩ := hcell 0 (by omega)
      obtain ⟨Au, nu, cu, rfl, f1, f2, f3⟩ := id hu
      obtain ⟨Av, nv, cv, rfl, g1, g2, g3⟩ := id hu0
      have hone := HO.out.len k hkl
      have hone0 := HO.out.len 0 (by omega)
      have hin := HO.out.inF k hkl
      have hnu : nu = m := by omega
      have hnv : nv = m := by omega
      subst hnv
      subst hnu
      have hho := HO.out.holder k hkl
      obtain ⟨H, hH⟩ := Int.eq_ofNat_of_zero_le (show 0 ≤ (shAt L k).1 by omega)
      rw [hH] at m0 hho
      have bb : b < w.heap.size := hS b hSb
      have hww : Below w.heap.size w wr := HB0.out.trans (hbl.mono (by omega))
      have r0 := (hww.cell (p := ⟨b, off + k * 2, none⟩) bb).trans m0
      have r1 := (hww.cell (p := ⟨b, off + k * 2 + 1, none⟩) bb).trans m1
      have r2 := (hww.cell (p := ⟨b, off + 0 * 2 + 1, none⟩) bb).trans m3
      rw [Nat.zero_mul, Nat.add_zero] at r2
      have kp := KP.out.below hbl (by omega)
      have r3 : wr.cell? ⟨w.heap.size, 0, none⟩ = some (.int .i64 (p : Int)) := kp.cell 0
      have r4 : wr.cell? ⟨w.heap.size, 1, none⟩ = some (.int .i64 (need : Int)) := kp.cell 1
      have r5 : wr.cell? ⟨w.heap.size, 2, none⟩ = some (.int .i64 (hold : Int)) := kp.cell 2
      have z1 : b < wr.heap.size := by omega
      have z3 : w.heap.size < wr.heap.size := by omega
      have qk : (k : Int) < (n : Int) := by omega
      have qk0 : (0 : Int) ≤ (k : Int) := by omega
      have q0n : (0 : Int) < (n : Int) := by omega
      have q0m : 0 < n := by omega
      have hiu : ∀ W, Below wr.heap.size wr W → IntsAt W (fun b => b < W.heap.size) (.slice Au nu cu) (shAt L k).2 := fun W hW =>
        (hu.keep fun b hb => (hW.block b (by have := hS b hb; omega)).trans (hww.block b (hS b hb))).mono fun b hb => by have := hS b hb; have := hW.size; omega
      have hsd : ∀ W, Below wr.heap.size wr W → Calls Tryz.prog 131 #[.agg #[.int .i64 (p : Int), .int .i64 (need : Int), .int .i64 (hold : Int)], .agg #[.int .i64 (H : Int), .slice Au nu cu]] W (BoolBelow true W) := fun W hW =>
        HST.out W H _ _ (hiu W hW) hone hin (by omega) (by omega)
      have hslk := fun W => HSL.out W k (by omega)
      have HSLK := Lib.hid hslk
      have HSD := Lib.hid hsd
      have HH := Lib.hid hH
      have HBL := Lib.hid hbl
      have HWW := Lib.hid hww
      have HCELL := Lib.hid hcell
      clear hcell m0 m1 m3 kp hH hbl hww hone hone0 hcs f1 f2 f3 e1 e2 g1 g2 g3 hu hu0 hin hho hiu hsd hslk
      go_wp2_with fail
      have ha : Below wr.heap.size wr (wr.alloc (.cells #[.int .i64 (H : Int), .slice Au nu cu] 49)) := (Below.refl _ _).alloc (Nat.le_refl _) _
      have t0 : (wr.alloc (.cells #[.int .i64 (H : Int), .slice Au nu cu] 49)).cell? ⟨wr.heap.size, 0, none⟩ = some (.int .i64 (H : Int)) := by rw [World.cell?_alloc_new]; rfl
      have t1 : (wr.alloc (.cells #[.int .i64 (H : Int), .slice Au nu cu] 49)).cell? ⟨wr.heap.size, 1, none⟩ = some (.slice Au nu cu) := by rw [World.cell?_alloc_new]; rfl
      have t2 := (ha.cell (p := ⟨b, off + 1, none⟩) z1).trans r2
      have t3 := (ha.cell (p := ⟨w.heap.size, 0, none⟩) z3).trans r3
      have t4 := (ha.cell (p := ⟨w.heap.size, 1, none⟩) z3).trans r4
      have t5 := (ha.cell (p := ⟨w.heap.size, 2, none⟩) z3).trans r5
      have hsa : wr.heap.size < (wr.alloc (.cells #[.int .i64 (H : Int), .slice Au nu cu] 49)).heap.size := by simp
      generalize (wr.alloc (.cells #[.int .i64 (H : Int), .slice Au nu cu] 49)) = W1 at *
      clear r0 r1 r2 r3 r4 r5
      have mk : ∀ W : World, Below W1.heap.size W1 W → W.cell? ⟨wr.heap.size, 0, none⟩ = some (.int .i64 (H : Int)) ∧ W.cell? ⟨wr.heap.size, 1, none⟩ = some (.slice Au nu cu) ∧ W.cell? ⟨b, off + 1, none⟩ = some (.slice Av nu cv) ∧ W.cell? ⟨w.heap.size, 0, none⟩ = some (.int .i64 (p : Int)) ∧ W.cell? ⟨w.heap.size, 1, none⟩ = some (.int .i64 (need : Int)) ∧ W.cell? ⟨w.heap.size, 2, none⟩ = some (.int .i64 (hold : Int)) ∧ Hid (Below W1.heap.size W1 W) := fun W hW =>
        ⟨(hW.cell (p := ⟨wr.heap.size, 0, none⟩) hsa).trans t0, (hW.cell (p := ⟨wr.heap.size, 1, none⟩) hsa).trans t1, (hW.cell (p := ⟨b, off + 1, none⟩) (by simp; omega)).trans t2, (hW.cell (p := ⟨w.heap.size, 0, none⟩) (by simp; omega)).trans t3, (hW.cell (p := ⟨w.heap.size, 1, none⟩) (by simp; omega)).trans t4, (hW.cell (p := ⟨w.heap.size, 2, none⟩) (by simp; omega)).trans t5, Lib.hid hW⟩
      have MK := Lib.hid mk
      have HA := Lib.hid ha
      have d5 : decide ((2048 : Int) < (nu : Int)) = false := decide_eq_false (by omega)
      clear mk ha t0 t1 t2 t3 t4 t5
      go_region_held3 (fun W => W.cell? ⟨wr.heap.size, 0, none⟩ = some (.int .i64 (H : Int)) ∧ W.cell? ⟨wr.heap.size, 1, none⟩ = some (.slice Au nu cu) ∧ W.cell? ⟨b, off + 1, none⟩ = some (.slice Av nu cv) ∧ W.cell? ⟨w.heap.size, 0, none⟩ = some (.int .i64 (p : Int)) ∧ W.cell? ⟨w.heap.size, 1, none⟩ = some (.int .i64 (need : Int)) ∧ W.cell? ⟨w.heap.size, 2, none⟩ = some (.int .i64 (hold : Int)) ∧ Hid (Below W1.heap.size W1 W))
        (first
          | exact HP.out
          | exact MK.out _ (Below.refl _ _).drew)
        (first
          | (go_at_call 131
             (with_reducible refine (HSD.out _ (HA.out.trans (((Below.refl W1.heap.size W1).drew).mono (Nat.le_of_lt hsa)))).mono ?_)
             rintro e wk ⟨rfl, hbk⟩
             have hbk' : Below W1.heap.size W1 wk := ((Below.refl W1.heap.size W1).drew).trans hbk
             have HB2 := Lib.hid hbk'
             have HP := Lib.hid (MK.out wk hbk')
             clear hbk hbk'))
      have HP2 := HP.out
      go_split_ands
      have hall : Below wr.heap.size wr wk := HA.out.trans (HB2.out.mono (by omega))
      have hbk2 := HBL.out.trans (hall.mono hz)
      have hsk := hall.size
      have hsw1 := HB2.out.size
      have zk : wr.heap.size < wk.heap.size := by omega
      have ck0 : wk.cell? ⟨wr.heap.size, 0, none⟩ = some (.int .i64 (H : Int)) := by assumption
      have HBK := Lib.hid hbk2
      have hwk : Below w.heap.size w wk := HB0.out.trans (hbk2.mono (by omega))
      have HWK := Lib.hid hwk
      have hslk := HSLK.out
      clear hbk2 hall hwk HB2 HA HSLK
      go_wp2_with fail
      go_loopw [41] (fun t wq => ∃ j : Nat, j ≤ k ∧ t = .int .i64 j ∧ Below wk.heap.size wk wq) (fun t _ => k - (intOf t).toNat)
      case atStart => exact ⟨0, by omega, rfl, Below.refl _ _⟩
      case round =>
        obtain ⟨j, hj, rfl, hbq⟩ := hrel
        rename World => wq0
        have hzq := hbq.size
        by_cases hjk : j < k
        · obtain ⟨uj, y0, y1, hyu⟩ := HCELL.out j (by omega)
          have hne := HO.out.once j k (by omega) hkl (by omega)
          obtain ⟨Ay, ny, cy, rfl, -, -, -⟩ := id hyu
          rw [HH.out] at hne
          have s0 := (hbq.cell (p := ⟨b, off + j * 2, none⟩) (by simp; omega)).trans ((HWK.out.cell (p := ⟨b, off + j * 2, none⟩) bb).trans y0)
          have s1 := (hbq.cell (p := ⟨b, off + j * 2 + 1, none⟩) (by simp; omega)).trans ((HWK.out.cell (p := ⟨b, off + j * 2 + 1, none⟩) bb).trans y1)
          have s2 := (hbq.cell (p := ⟨wr.heap.size, 0, none⟩) zk).trans ck0
          obtain ⟨G, hG⟩ : ∃ G, (shAt L j).1 = G := ⟨_, rfl⟩
          rw [hG] at s0 hne
          have tne : (G == (H : Int)) = false := by simpa using hne
          have HBQ := Lib.hid hbq
          have qj : (j : Int) < (k : Int) := by omega
          have qj0 : (0 : Int) ≤ (j : Int) := by omega
          have z5 : wr.heap.size < wq0.heap.size := by omega
          clear y0 y1 hyu hne hG hbq
          go_wp2_with fail
          go_roundw
          case measure => simp [intOf]; omega
          case rel => exact ⟨j + 1, by omega, by go_num, HBQ.out.alloc hzq _⟩
        · have hjj : j = k := by omega
          subst hjj
          have hfin := HBK.out.trans (hbq.mono (by omega))
          have HF := Lib.hid hfin
          clear hbq hfin
          go_wp2_with fail
          go_roundw
          case measure => simp [intOf]; omega
          case rel => exact ⟨j + 1, by omega, by go_num, HF.out⟩
    · have hkn : k = n := by omega
      subst hkn
      have hbf := HB0.out.trans (hbl.mono (by omega))
      have HBF := Lib.hid hbf
      clear hbl hbf
      go_wp2_with fail
      go_ret
      exact ⟨rfl, HBF.out⟩
end Go.Proofs.YtjfphobfikadlaaGreatDoor
namespace Go.Proofs.YtjfphobfikadlaaGreatDoor.Num

/-! ### Powers that the kernel can reckon -/
def st6 (m b y d : Nat) : Nat := Nat.mod (Nat.mul (Nat.pow y 64) (Nat.pow b d)) m
def p6 (m b e : Nat) : Nat :=
  st6 m b (st6 m b (st6 m b (st6 m b (Nat.mod (Nat.pow b (Nat.div e 16777216)) m) (Nat.mod (Nat.div e 262144) 64)) (Nat.mod (Nat.div e 4096) 64)) (Nat.mod (Nat.div e 64) 64)) (Nat.mod e 64)
theorem st6_pw (m b a d : Nat) : st6 m b (pw m b a) d = pw m b (64 * a + d) := by
  show (b ^ a % m) ^ 64 * b ^ d % m = b ^ (64 * a + d) % m
  rw [Nat.mul_mod, ← Nat.pow_mod, ← Nat.mul_mod, ← Nat.pow_mul, ← Nat.pow_add, Nat.mul_comm a 64]
theorem p6_pw (m b e : Nat) : p6 m b e = pw m b e := by
  unfold p6
  have e0 : Nat.mod (Nat.pow b (Nat.div e 16777216)) m = pw m b (e / 16777216) := rfl
  rw [e0, st6_pw, st6_pw, st6_pw, st6_pw]
  congr 1
  show 64 * (64 * (64 * (64 * (e / 16777216) + e / 262144 % 64) + e / 4096 % 64) + e / 64 % 64) + e % 64 = e
  omega
def fm (e : Nat) : Bool := Nat.beq (p6 (Nat.succ e) 2 e) 1
noncomputable def mrc (n b : Nat) (f : Nat) : Nat → Bool :=
  Nat.rec (fun _ => true) (fun _ ih e => bif Nat.beq (p6 n b e) (Nat.sub n 1) then true else bif Nat.beq (p6 n b e) 1 then (bif Nat.beq (Nat.mod e 2) 0 then ih (Nat.div e 2) else true) else false) f
noncomputable def mrs (n : Nat) : Bool := bif mrc n 2 31 (Nat.sub n 1) then (bif mrc n 3 31 (Nat.sub n 1) then (bif mrc n 5 31 (Nat.sub n 1) then mrc n 7 31 (Nat.sub n 1) else false) else false) else false
noncomputable def bad2 (n : Nat) : Bool := Nat.rec false (fun e _ => bif fm e then mrs (Nat.succ e) else false) n
theorem nbeq {a b : Nat} : Nat.beq a b = true ↔ a = b := ⟨Nat.eq_of_beq_eq_true, fun h => by subst h; exact Nat.beq_refl a⟩
theorem nbeq_f {a b : Nat} (h : a ≠ b) : Nat.beq a b = false := by
  cases hb : Nat.beq a b with
  | false => rfl
  | true => exact absurd (nbeq.1 hb) h
theorem mrc_step (n b f e : Nat) : mrc n b (f + 1) e = (bif Nat.beq (p6 n b e) (Nat.sub n 1) then true else bif Nat.beq (p6 n b e) 1 then (bif Nat.beq (Nat.mod e 2) 0 then mrc n b f (Nat.div e 2) else true) else false) := rfl
theorem pw_dbl {m b o i : Nat} (hm : 1 < m) (h : pw m b (o * 2 ^ i) = 1) : pw m b (o * 2 ^ (i + 1)) = 1 := by
  have e : o * 2 ^ (i + 1) = o * 2 ^ i + o * 2 ^ i := by rw [Nat.pow_succ, ← Nat.mul_assoc]; omega
  rw [e, ← pw_add, h, Nat.mod_eq_of_lt hm]
theorem pw_neg {m b o i : Nat} (hm : 2 < m) (h : pw m b (o * 2 ^ i) = m - 1) : pw m b (o * 2 ^ (i + 1)) = 1 := by
  have e : o * 2 ^ (i + 1) = o * 2 ^ i + o * 2 ^ i := by rw [Nat.pow_succ, ← Nat.mul_assoc]; omega
  rw [e, ← pw_add, h]
  obtain ⟨z, rfl⟩ : ∃ z, m = z + 2 := ⟨m - 2, by omega⟩
  rw [show z + 2 - 1 = z + 1 by omega, show (z + 1) * (z + 1) = (z + 2) * z + 1 by rw [Nat.add_mul, Nat.mul_add, Nat.add_mul]; omega, Nat.mul_add_mod, Nat.mod_eq_of_lt (by omega)]
theorem odd_half {o i : Nat} (ho : o % 2 = 1) (h : (o * 2 ^ i) % 2 = 0) : ∃ j, i = j + 1 ∧ o * 2 ^ i / 2 = o * 2 ^ j := by
  cases i with
  | zero => rw [Nat.pow_zero, Nat.mul_one] at h; omega
  | succ j => exact ⟨j, rfl, by rw [Nat.pow_succ, ← Nat.mul_assoc, Nat.mul_div_cancel _ (by omega)]⟩
theorem mrc_of {n b o t : Nat} (hn : 2 < n) (ho : o % 2 = 1) (h : MRat n b o t) : ∀ f, mrc n b f (o * 2 ^ t) = true := by
  rcases h with h1 | ⟨j, hj, h1⟩
  · have all1 : ∀ i, pw n b (o * 2 ^ i) = 1 := by
      intro i
      induction i with
      | zero => rwa [Nat.pow_zero, Nat.mul_one]
      | succ i ih => exact pw_dbl (by omega) ih
    have key : ∀ f i, mrc n b f (o * 2 ^ i) = true := by
      intro f
      induction f with
      | zero => intro i; rfl
      | succ f ih =>
        intro i
        rw [mrc_step, p6_pw, all1 i, nbeq_f (a := 1) (b := Nat.sub n 1) (by show 1 ≠ n - 1; omega)]
        show (bif Nat.beq (Nat.mod (o * 2 ^ i) 2) 0 then mrc n b f (Nat.div (o * 2 ^ i) 2) else true) = true
        cases hb : Nat.beq (Nat.mod (o * 2 ^ i) 2) 0 with
        | false => rfl
        | true =>
          obtain ⟨k, _, e⟩ := odd_half ho (nbeq.1 hb)
          show mrc n b f (o * 2 ^ i / 2) = true
          rw [e]; exact ih k
    exact fun f => key f t
  · have all1 : ∀ i, j < i → pw n b (o * 2 ^ i) = 1 := by
      intro i
      induction i with
      | zero => intro h; omega
      | succ i ih =>
        intro h
        rcases Nat.eq_or_lt_of_le (Nat.le_of_lt_succ h) with e | e
        · subst e; exact pw_neg hn h1
        · exact pw_dbl (by omega) (ih e)
    have key : ∀ f i, j ≤ i → mrc n b f (o * 2 ^ i) = true := by
      intro f
      induction f with
      | zero => intro i _; rfl
      | succ f ih =>
        intro i hi
        rw [mrc_step, p6_pw]
        rcases Nat.eq_or_lt_of_le hi with e | e
        · subst e
          rw [h1, show Nat.beq (n - 1) (Nat.sub n 1) = true from Nat.beq_refl _]; rfl
        · rw [all1 i e, nbeq_f (a := 1) (b := Nat.sub n 1) (by show 1 ≠ n - 1; omega)]
          show (bif Nat.beq (Nat.mod (o * 2 ^ i) 2) 0 then mrc n b f (Nat.div (o * 2 ^ i) 2) else true) = true
          cases hb : Nat.beq (Nat.mod (o * 2 ^ i) 2) 0 with
          | false => rfl
          | true =>
            obtain ⟨k, hk, e2⟩ := odd_half ho (nbeq.1 hb)
            show mrc n b f (o * 2 ^ i / 2) = true
            rw [e2]; exact ih k (by omega)
    exact fun f => key f t (by omega)
theorem mrc_mrB {n b : Nat} (hn : 2 < n) (h : mrB n b = true) (f : Nat) : mrc n b f (n - 1) = true := by
  obtain ⟨o, t, he, ho⟩ := odd_part (n - 1) (by omega)
  have := mrc_of hn ho ((mrB_at he ho).1 h) f
  rwa [he] at this
theorem fer_mrB {n b : Nat} (hn : 2 < n) (hodd : n % 2 = 1) (h : mrB n b = true) : pw n b (n - 1) = 1 := by
  obtain ⟨o, t, he, ho⟩ := odd_part (n - 1) (by omega)
  have h1 := (mrB_at he ho).1 h
  have ht : 1 ≤ t := by
    rcases Nat.eq_zero_or_pos t with h0 | h0
    · subst h0; rw [Nat.pow_zero, Nat.mul_one] at he; omega
    · exact h0
  rw [← he]
  rcases h1 with h1 | ⟨j, hj, h1⟩
  · have : ∀ i, pw n b (o * 2 ^ i) = 1 := by
      intro i
      induction i with
      | zero => rwa [Nat.pow_zero, Nat.mul_one]
      | succ i ih => exact pw_dbl (by omega) ih
    exact this t
  · have : ∀ i, j < i → pw n b (o * 2 ^ i) = 1 := by
      intro i
      induction i with
      | zero => intro h; omega
      | succ i ih =>
        intro h
        rcases Nat.eq_or_lt_of_le (Nat.le_of_lt_succ h) with e | e
        · subst e; exact pw_neg hn h1
        · exact pw_dbl (by omega) (ih e)
    exact this t hj
/-- What passes is found by the kernel's test. -/
theorem bad2_of {n : Nat} (hn : 2 < n) (hodd : n % 2 = 1) (h2 : mrB n 2 = true) (h3 : mrB n 3 = true) (h5 : mrB n 5 = true) (h7 : mrB n 7 = true) : bad2 n = true := by
  obtain ⟨e, rfl⟩ : ∃ e, n = e + 1 := ⟨n - 1, by omega⟩
  show (bif fm e then mrs (e + 1) else false) = true
  have f2 := fer_mrB hn hodd h2
  have e1 : fm e = true := by
    unfold fm
    rw [p6_pw, nbeq]
    exact f2
  have e2 : mrs (e + 1) = true := by
    unfold mrs
    have c := fun {b} (h : mrB (e + 1) b = true) => mrc_mrB hn h 31
    rw [show mrc (e + 1) 2 31 (Nat.sub (e + 1) 1) = true from c h2, show mrc (e + 1) 3 31 (Nat.sub (e + 1) 1) = true from c h3, show mrc (e + 1) 5 31 (Nat.sub (e + 1) 1) = true from c h5, show mrc (e + 1) 7 31 (Nat.sub (e + 1) 1) = true from c h7]
    rfl
  rw [e1, e2]; rfl
/-! ### Prime factors -/
theorem ex_prm : ∀ n : Nat, 2 ≤ n → ∃ s, Prm s ∧ s ∣ n := by
  intro n
  induction n using Nat.strongRecOn with
  | _ n ih =>
    intro hn
    by_cases h : Prm n
    · exact ⟨n, h, Nat.dvd_refl n⟩
    · have : ∃ d, d ∣ n ∧ d ≠ 1 ∧ d ≠ n := by
        apply Classical.byContradiction
        intro hno
        exact h ⟨hn, fun d hd => by
          by_cases h1 : d = 1
          · exact .inl h1
          · by_cases h2 : d = n
            · exact .inr h2
            · exact absurd ⟨d, hd, h1, h2⟩ hno⟩
      obtain ⟨d, hd, h1, h2⟩ := this
      have hle := Nat.le_of_dvd (by omega) hd
      have h0 : d ≠ 0 := by rintro rfl; have := Nat.eq_zero_of_zero_dvd hd; omega
      obtain ⟨s, hs, hsd⟩ := ih d (by omega) (by omega)
      exact ⟨s, hs, Nat.dvd_trans hsd hd⟩
theorem max_prm {n : Nat} (hn : 2 ≤ n) : ∃ r, Prm r ∧ r ∣ n ∧ ∀ s, Prm s → s ∣ n → s ≤ r := by
  have key : ∀ B, (∃ s, Prm s ∧ s ∣ n ∧ s ≤ B) → ∃ r, Prm r ∧ r ∣ n ∧ ∀ s, Prm s → s ∣ n → s ≤ B → s ≤ r := by
    intro B
    induction B with
    | zero => rintro ⟨s, hs, _, h⟩; have := hs.1; omega
    | succ B ih =>
      rintro ⟨s, hs, hd, h⟩
      by_cases hB : Prm (B + 1) ∧ (B + 1) ∣ n
      · exact ⟨B + 1, hB.1, hB.2, fun q _ _ h => h⟩
      · have hsB : s ≤ B := by
          rcases Nat.eq_or_lt_of_le h with e | e
          · subst e; exact absurd ⟨hs, hd⟩ hB
          · omega
        obtain ⟨r, h1, h2, h3⟩ := ih ⟨s, hs, hd, hsB⟩
        refine ⟨r, h1, h2, fun q hq hqd hqB => ?_⟩
        rcases Nat.eq_or_lt_of_le hqB with e | e
        · subst e; exact absurd ⟨hq, hqd⟩ hB
        · exact h3 q hq hqd (by omega)
  obtain ⟨s, hs, hd⟩ := ex_prm n hn
  obtain ⟨r, h1, h2, h3⟩ := key n ⟨s, hs, hd, Nat.le_of_dvd (by omega) hd⟩
  exact ⟨r, h1, h2, fun q hq hqd => h3 q hq hqd (Nat.le_of_dvd (by omega) hqd)⟩
/-- A composite number that passes. -/
structure Psp (n : Nat) : Prop where
  two : 2 < n
  le : n ≤ 1073741824
  np : ¬ Prm n
  co : ∀ b, b = 2 ∨ b = 3 ∨ b = 5 ∨ b = 7 → ¬ b ∣ n
  fer : ∀ b, b = 2 ∨ b = 3 ∨ b = 5 ∨ b = 7 → pw n b (n - 1) = 1
  bad : bad2 n = true
theorem pw_dvd {m d b e : Nat} (h : d ∣ m) (hd : 1 < d) (h1 : pw m b e = 1) : pw d b e = 1 := by
  unfold pw at *
  rw [← Nat.mod_mod_of_dvd _ h, h1, Nat.mod_eq_of_lt hd]
/-- All four bases to a power are 1. -/
def All1 (r e : Nat) : Prop := ∀ b, b = 2 ∨ b = 3 ∨ b = 5 ∨ b = 7 → pw r b e = 1
theorem Psp.ge11 {n r : Nat} (h : Psp n) (hr : Prm r) (hd : r ∣ n) : 11 ≤ r := by
  have h2 := hr.1
  apply Classical.byContradiction
  intro hlt
  have : r = 2 ∨ r = 3 ∨ r = 5 ∨ r = 7 ∨ r = 4 ∨ r = 6 ∨ r = 8 ∨ r = 9 ∨ r = 10 := by omega
  rcases this with e | e | e | e | e | e | e | e | e
  · exact h.co r (.inl e) hd
  · exact h.co r (.inr (.inl e)) hd
  · exact h.co r (.inr (.inr (.inl e))) hd
  · exact h.co r (.inr (.inr (.inr e))) hd
  all_goals subst e; exfalso
  · rcases hr.2 2 ⟨2, rfl⟩ with h | h <;> omega
  · rcases hr.2 2 ⟨3, rfl⟩ with h | h <;> omega
  · rcases hr.2 2 ⟨4, rfl⟩ with h | h <;> omega
  · rcases hr.2 3 ⟨3, rfl⟩ with h | h <;> omega
  · rcases hr.2 2 ⟨5, rfl⟩ with h | h <;> omega
/-- What is left behind a prime factor. -/
theorem Psp.cof {n r k : Nat} (h : Psp n) (hr : Prm r) (hk : n = r * k) : All1 r (k - 1) ∧ 11 ≤ k := by
  have hd : r ∣ n := ⟨k, hk⟩
  have h11 := h.ge11 hr hd
  have h2 := h.two
  have hk1 : 2 ≤ k := by
    rcases Nat.lt_or_ge k 2 with h0 | h0
    · exfalso
      rcases (show k = 0 ∨ k = 1 by omega) with rfl | rfl
      · omega
      · rw [Nat.mul_one] at hk; exact h.np (by rw [hk]; exact hr)
    · exact h0
  refine ⟨fun b hb => ?_, ?_⟩
  · have h3 := pw_dvd hd (by omega) (h.fer b hb)
    have hnb : ¬ r ∣ b := fun h => by have := Nat.le_of_dvd (by omega) h; omega
    have hf := fermat1 hr hnb
    have e : n - 1 = (k - 1) + (r - 1) * k := by
      obtain ⟨q, rfl⟩ : ∃ q, r = q + 1 := ⟨r - 1, by omega⟩
      rw [hk, Nat.add_sub_cancel, Nat.add_mul]; omega
    rw [e] at h3
    have h4 : pw r b ((r - 1) * k) = 1 := by
      rw [← pw_pw]
      show pw r (b ^ (r - 1) % r) k = 1
      rw [hf, pw_one, Nat.mod_eq_of_lt (by omega)]
    rw [← pw_add, h4, Nat.mul_one] at h3
    have := pw_lt (m := r) (by omega) b (k - 1)
    rwa [Nat.mod_eq_of_lt this] at h3
  · obtain ⟨s, hs, hsk⟩ := ex_prm k hk1
    have := h.ge11 hs (by rw [hk]; exact Nat.dvd_trans hsk ⟨r, Nat.mul_comm _ _⟩)
    have := Nat.le_of_dvd (by omega) hsk
    omega
end Go.Proofs.YtjfphobfikadlaaGreatDoor.Num
