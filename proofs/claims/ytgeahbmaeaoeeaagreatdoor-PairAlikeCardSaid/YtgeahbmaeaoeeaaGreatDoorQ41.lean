/- Contracts: how many elements bytes are. Contracts: ranges.In, order.Slot. Contract: whether an entry can be seen by a coalition, where it can. Contracts: numbers that ascend in a range; powers modulo 1000003. -/
import Derived.Test.YtgeahbmaeaoeeaaGreatDoorQ47
import Derived.Test.YtgeahbmaeaoeeaaGreatDoorQ01
import Derived.Test.YtgeahbmaeaoeeaaGreatDoorQ02
import Derived.Test.YtgeahbmaeaoeeaaGreatDoorQ37
import Derived.Test.YtgeahbmaeaoeeaaGreatDoorQ35
set_option linter.unusedVariables false
set_option linter.unusedSimpArgs false
namespace Go.Proofs.YtgeahbmaeaoeeaaGreatDoor
open Go.RowKit Num

/-- How many elements so many bytes are. -/
def cntG (p n : Nat) : Nat := if widP p = 0 then 8 * n else n / widP p + min (n % widP p) 1
theorem cntG_zero (p : Nat) : cntG p 0 = 0 := by unfold cntG; split <;> simp
set_option maxRecDepth 100000 in
set_option maxHeartbeats 1000000 in
theorem p_CountG (p n : Nat) (w : World) (h2 : p ≤ 1073741824) (hn : n ≤ 1000000) :
    Calls Tryz.prog 28 #[.int .i64 (p : Int), .int .i64 (n : Int)] w (IntBelowM ((cntG p n : Nat) : Int) w) := by
  have hw := fun W => p_Width p W h2
  have hle := widP_le p
  unfold cntG
  obtain ⟨v, hv⟩ : ∃ v, widP p = v := ⟨_, rfl⟩
  rw [hv] at hw hle ⊢
  have HW := Lib.hid hw
  have t0 : decide ((n : Int) < 0) = false := decide_eq_false (by omega)
  clear hw hv
  rcases Nat.eq_zero_or_pos v with h0 | h0
  · subst h0
    have e : (8 * (n : Int)) = ((8 * n : Nat) : Int) := by omega
    have E := Lib.hid e
    clear e
    go_enter Tryz.func28, Tryz.ntmps28
    go_wp2_with fail
    refine (HW.out _).mono ?_
    rintro e w' ⟨rfl, rfl⟩
    go_wp2_with fail
    go_ret
    exact ⟨ret_int E.out, Below.refl _ _⟩
  · rw [if_neg (by omega)]
    have q0 : ¬ (v : Int) = 0 := by omega
    have q1 : ((v : Int) == 0) = false := by simp; omega
    have hd : (n : Int).tdiv (v : Int) = ((n / v : Nat) : Int) := by rw [Int.tdiv_eq_ediv_of_nonneg (by omega)]; rfl
    have hm : (n : Int).tmod (v : Int) = ((n % v : Nat) : Int) := by rw [Int.tmod_eq_emod_of_nonneg (by omega)]; rfl
    have hdl : n / v ≤ n := Nat.div_le_self n v
    have hml : n % v < v := Nat.mod_lt n h0
    have hmin : min ((n % v : Nat) : Int) 1 = ((min (n % v) 1 : Nat) : Int) := by omega
    generalize n / v = a at *
    generalize hbb : n % v = b at *
    have hs : (a : Int) + ((min b 1 : Nat) : Int) = ((a + min b 1 : Nat) : Int) := by omega
    generalize hcc : min b 1 = c at *
    have hc1 : c ≤ 1 := by omega
    have HS := Lib.hid hs
    clear hbb hcc hs
    go_enter Tryz.func28, Tryz.ntmps28
    go_wp2_with fail
    refine (HW.out _).mono ?_
    rintro e w' ⟨rfl, rfl⟩
    go_wp2_with fail
    go_region
    all_goals go_wp2_with fail
    all_goals
      go_ret
      exact ⟨ret_int (by have := HS.out; omega), (Below.refl _ _).drew⟩
end Go.Proofs.YtgeahbmaeaoeeaaGreatDoor
namespace Go.Proofs.YtgeahbmaeaoeeaaGreatDoor
open Go.RowKit Num

set_option maxHeartbeats 400000 in
theorem o_In (n a b : Int) (w : World) : Calls Tryz.prog 46 #[.int .i64 n, .int .i64 a, .int .i64 b] w fun e w' => e = .returned (.bool (decide (a ≤ n ∧ n ≤ b))) ∧ w = w' := by
  by_cases h1 : a ≤ n
  · by_cases h2 : n ≤ b
    · have y1 : n ≥ a := h1
      go_enter Tryz.func46, Tryz.ntmps46
      go_wp2_with fail
      go_ret
      exact ⟨by simp [h1, h2], rfl⟩
    · have y1 : n ≥ a := h1
      go_enter Tryz.func46, Tryz.ntmps46
      go_wp2_with fail
      go_ret
      exact ⟨by simp [h1, h2], rfl⟩
  · have y1 : ¬ n ≥ a := h1
    go_enter Tryz.func46, Tryz.ntmps46
    go_wp2_with fail
    go_ret
    exact ⟨by first | rfl | (simp; done) | (simp [h1]; omega), rfl⟩
theorem o_InT (n a b : Int) (w : World) (h : a ≤ n ∧ n ≤ b) : Calls Tryz.prog 46 #[.int .i64 n, .int .i64 a, .int .i64 b] w fun e w' => e = .returned (.bool true) ∧ w = w' := by
  have := o_In n a b w
  rwa [decide_eq_true h] at this
/-- The first multiple that is not earlier. -/
def slotN (t p : Nat) : Nat := (t + p - 1) / p * p
theorem slot_ge (t p : Nat) (hp : 1 ≤ p) : t ≤ slotN t p ∧ slotN t p < t + p ∧ slotN t p % p = 0 := by
  unfold slotN
  have h1 := Nat.div_add_mod (t + p - 1) p
  have h2 := Nat.mod_lt (t + p - 1) (show 0 < p by omega)
  have h3 : p * ((t + p - 1) / p) = (t + p - 1) / p * p := Nat.mul_comm _ _
  refine ⟨by omega, by omega, Nat.mul_mod_left _ _⟩
theorem slot_mul (m p : Nat) (hp : 1 ≤ p) (r : Nat) (hr : r < p) (h0 : r < m * p + 1) : slotN (m * p - r) p = m * p := by
  have h1 : (m * p - r + p - 1) / p = m := by
    rw [show m * p - r + p - 1 = (p - 1 - r) + m * p by omega, Nat.add_mul_div_right _ _ (by omega : 0 < p), Nat.div_eq_of_lt (by omega)]; omega
  unfold slotN
  rw [h1]
theorem slot_again (t p : Nat) (hp : 1 ≤ p) : slotN (slotN t p) p = slotN t p := by
  have := slot_mul ((t + p - 1) / p) p hp 0 (by omega) (by omega)
  exact this
theorem slot_first (t p : Nat) (hp : 1 ≤ p) : slotN (slotN t p + 1 - p) p = slotN t p := by
  rcases Nat.eq_zero_or_pos ((t + p - 1) / p) with h | h
  · have e : slotN t p = 0 := by unfold slotN; rw [h]; omega
    rw [e, show 0 + 1 - p = 0 by omega]
    have := slot_mul 0 p hp 0 (by omega) (by omega)
    simpa using this
  · have h2 : p ≤ (t + p - 1) / p * p := Nat.le_mul_of_pos_left p h
    have := slot_mul ((t + p - 1) / p) p hp (p - 1) (by omega) (by omega)
    rw [show (t + p - 1) / p * p - (p - 1) = slotN t p + 1 - p by unfold slotN; omega] at this
    exact this
def SlotE (s : Nat) (w : World) (e : Ending) (w' : World) : Prop := e = .returned (.tuple #[.int .i64 (s : Int), .int .i64 0]) ∧ w = w'
end Go.Proofs.YtgeahbmaeaoeeaaGreatDoor
namespace Go.Proofs.YtgeahbmaeaoeeaaGreatDoor
open Go.RowKit Num

/-- An entry that a coalition can see; ln: how many bytes its box has. -/
def PropP (p : Nat) (H : List Int) (ln : Nat) (s : SeenS) : Prop := s.len = (ln : Int) ∧ ln ≤ 16384 ∧ cntG p ln ≤ 2048 ∧
  ((s.st = 2 ∧ s.boxes = [] ∧ s.who = []) ∨ ((s.st = 1 ∨ s.st = 3) ∧ StandP p ((cntG p ln : Nat) : Int) s.boxes H ∧ StandP p 1 s.who H))
theorem BoolIff.toT {P : Program} {f : FuncId} {args : Array Value} {w : World} {Q : Prop} (h : Calls P f args w (BoolIff Q w)) (hq : Q) : Calls P f args w (BoolBelow true w) :=
  h.mono fun e w' ⟨⟨b, he, hb⟩, hB⟩ => ⟨by rw [he, hb.2 hq], hB⟩
theorem StandP.len {p : Nat} {n : Nat} {L : List Sh} {H : List Int} (h : StandP p (n : Int) L H) : ∀ k, k < L.length → (shAt L k).2.length = n := fun k hk => by
  have := (h.2 k hk).2.1; omega
set_option maxRecDepth 100000 in
set_option maxHeartbeats 2000000 in
theorem v_properT (p ln : Nat) (need hold : Int) (s : SeenS) (u y uh : Value) (H : List Int) (w : World) (hw : BasesOk w) (hp : Prm p) (h2 : p ≤ 1073741824) (hu : ShAt w (· < w.heap.size) u s.boxes) (hy : ShAt w (· < w.heap.size) y s.who) (hh : IntsAt w (· < w.heap.size) uh H) (hlh : H.length ≤ 1000000) (hP : PropP p H ln s) :
    Calls Tryz.prog 74 #[.agg #[.int .i64 (p : Int), .int .i64 need, .int .i64 hold], .agg #[.int .i64 s.num, .int .i64 s.time, .int .i64 s.st, .int .i64 s.len, .int .i64 s.ep, u, y], uh] w (BoolBelow true w) := by
  obtain ⟨hl0, hl1, hl2, hst⟩ := hP
  obtain ⟨num, time, st, len, ep, boxes, who⟩ := s
  dsimp only at hl0 hst hu hy ⊢
  subst hl0
  obtain ⟨A1, n1, k1, rfl, hn1, hk1, hc1⟩ := id hu
  obtain ⟨A2, n2, k2, rfl, hn2, hk2, hc2⟩ := id hy
  have hb0 : Below w.heap.size w ((w.alloc (.cells #[.int .i64 (p : Int), .int .i64 need, .int .i64 hold] 29)).alloc (.cells #[.int .i64 num, .int .i64 time, .int .i64 st, .int .i64 (ln : Int), .int .i64 ep, .slice A1 n1 k1, .slice A2 n2 k2] 39)) := ((Below.refl _ w).alloc (Nat.le_refl _) _).alloc (by simp) _
  have hpb := (Blk.new w 29 #[.int .i64 (p : Int), .int .i64 need, .int .i64 hold]).alloc (.cells #[.int .i64 num, .int .i64 time, .int .i64 st, .int .i64 (ln : Int), .int .i64 ep, .slice A1 n1 k1, .slice A2 n2 k2] 39)
  have hsb := Blk.new (w.alloc (.cells #[.int .i64 (p : Int), .int .i64 need, .int .i64 hold] 29)) 39 #[.int .i64 num, .int .i64 time, .int .i64 st, .int .i64 (ln : Int), .int .i64 ep, .slice A1 n1 k1, .slice A2 n2 k2]
  rw [World.size_alloc] at hsb
  have hin := fun W => o_InT (ln : Int) 0 16384 W ⟨by omega, by omega⟩
  have hct := fun W => p_CountG p ln W h2 (by omega)
  have HIN := Lib.hid hin
  have HCT := Lib.hid hct
  have HB0 := Lib.hid hb0
  have HPB := Lib.hid hpb
  have HSB := Lib.hid hsb
  obtain ⟨c, hcc⟩ : ∃ c, cntG p ln = c := ⟨_, rfl⟩
  rw [hcc] at HCT hl2 hst
  have gc : decide ((2048 : Int) < (c : Int)) = false := decide_eq_false (by omega)
  have p0 := (hpb.cell 0).trans (show _ = some (Value.int .i64 (p : Int)) from rfl)
  have p1 := (hpb.cell 1).trans (show _ = some (Value.int .i64 need) from rfl)
  have p2 := (hpb.cell 2).trans (show _ = some (Value.int .i64 hold) from rfl)
  have s2 := (hsb.cell 2).trans (show _ = some (Value.int .i64 st) from rfl)
  have s3 := (hsb.cell 3).trans (show _ = some (Value.int .i64 (ln : Int)) from rfl)
  have s5 := (hsb.cell 5).trans (show _ = some (Value.slice A1 n1 k1) from rfl)
  have s6 := (hsb.cell 6).trans (show _ = some (Value.slice A2 n2 k2) from rfl)
  have HUU := Lib.hid hu
  have HYY := Lib.hid hy
  have HHH := Lib.hid hh
  have HWW := Lib.hid hw
  have HN1 := Lib.hid hn1
  have HN2 := Lib.hid hn2
  have HST := Lib.hid hst
  clear hin hct hb0 hpb hsb hu hy hh hw hn1 hn2 hc1 hc2 hst hcc
  go_enter Tryz.func74, Tryz.ntmps74
  go_wp2_with fail
  generalize ((w.alloc (.cells #[.int .i64 (p : Int), .int .i64 need, .int .i64 hold] 29)).alloc (.cells #[.int .i64 num, .int .i64 time, .int .i64 st, .int .i64 (ln : Int), .int .i64 ep, .slice A1 n1 k1, .slice A2 n2 k2] 39)) = w0 at *
  refine (HIN.out _).mono ?_
  rintro e w' ⟨rfl, rfl⟩
  go_wp2_with fail
  refine (HCT.out _).mono ?_
  rintro e w1 ⟨rfl, hb1⟩
  have hB1 := HB0.out.trans (hb1.mono HB0.out.size)
  have hpb1 := HPB.out.below hb1 HPB.out.lt
  have hsb1 := HSB.out.below hb1 HSB.out.lt
  have HB1 := Lib.hid hB1
  clear p0 p1 p2 s2 s3 s5 s6
  have p0 := (hpb1.cell 0).trans (show _ = some (Value.int .i64 (p : Int)) from rfl)
  have p1 := (hpb1.cell 1).trans (show _ = some (Value.int .i64 need) from rfl)
  have p2 := (hpb1.cell 2).trans (show _ = some (Value.int .i64 hold) from rfl)
  have s2 := (hsb1.cell 2).trans (show _ = some (Value.int .i64 st) from rfl)
  have s3 := (hsb1.cell 3).trans (show _ = some (Value.int .i64 (ln : Int)) from rfl)
  have s5 := (hsb1.cell 5).trans (show _ = some (Value.slice A1 n1 k1) from rfl)
  have s6 := (hsb1.cell 6).trans (show _ = some (Value.slice A2 n2 k2) from rfl)
  have l1 := hpb1.lt
  have l2 := hsb1.lt
  clear hb1 hB1 hpb1 hsb1
  rcases HST.out with ⟨rfl, hbx, hwh⟩ | ⟨hs13, hbx, hwh⟩
  · have e1 : n1 = 0 := by rw [HN1.out, hbx]; rfl
    have e2 : n2 = 0 := by rw [HN2.out, hwh]; rfl
    subst e1 e2
    clear hbx hwh HN1 HN2 HST HUU HYY
    go_wp2_with fail
    go_ret
    exact ⟨rfl, HB1.out⟩
  · have hs1 : ∀ W, Below w1.heap.size w1 W → Calls Tryz.prog 98 #[.agg #[.int .i64 (p : Int), .int .i64 need, .int .i64 hold], .slice A1 n1 k1, uh, .int .i64 (c : Int)] W (BoolBelow true W) := fun W hW =>
      BoolIff.toT (v_stand p need hold (c : Int) (.slice A1 n1 k1) uh boxes H W ((HWW.out.below HB1.out).below hW) hp h2 ((HUU.out.up HB1.out).up hW) ((HHH.out.up HB1.out).up hW) (by rw [hbx.1]; exact hlh) hlh (fun k hk => by rw [hbx.len k hk]; omega)) hbx
    have hs2 : ∀ W, Below w1.heap.size w1 W → Calls Tryz.prog 98 #[.agg #[.int .i64 (p : Int), .int .i64 need, .int .i64 hold], .slice A2 n2 k2, uh, .int .i64 1] W (BoolBelow true W) := fun W hW =>
      BoolIff.toT (v_stand p need hold 1 (.slice A2 n2 k2) uh who H W ((HWW.out.below HB1.out).below hW) hp h2 ((HYY.out.up HB1.out).up hW) ((HHH.out.up HB1.out).up hW) (by rw [hwh.1]; exact hlh) hlh (fun k hk => by rw [StandP.len (n := 1) hwh k hk]; omega)) hwh
    have lim : ∀ W, Below w1.heap.size w1 W → W.cell? ⟨w.heap.size, 0, none⟩ = some (.int .i64 (p : Int)) ∧ W.cell? ⟨w.heap.size, 1, none⟩ = some (.int .i64 need) ∧ W.cell? ⟨w.heap.size, 2, none⟩ = some (.int .i64 hold) ∧ W.cell? ⟨w.heap.size + 1, 3, none⟩ = some (.int .i64 (ln : Int)) ∧ W.cell? ⟨w.heap.size + 1, 5, none⟩ = some (.slice A1 n1 k1) ∧ W.cell? ⟨w.heap.size + 1, 6, none⟩ = some (.slice A2 n2 k2) ∧ Hid (Below w1.heap.size w1 W) := fun W hW =>
      ⟨(hW.cell (p := ⟨w.heap.size, 0, none⟩) l1).trans p0, (hW.cell (p := ⟨w.heap.size, 1, none⟩) l1).trans p1, (hW.cell (p := ⟨w.heap.size, 2, none⟩) l1).trans p2, (hW.cell (p := ⟨w.heap.size + 1, 3, none⟩) l2).trans s3, (hW.cell (p := ⟨w.heap.size + 1, 5, none⟩) l2).trans s5, (hW.cell (p := ⟨w.heap.size + 1, 6, none⟩) l2).trans s6, Lib.hid hW⟩
    have HS1 := Lib.hid hs1
    have HS2 := Lib.hid hs2
    have LIM := Lib.hid lim
    have K0 : Hid (Below w1.heap.size w1 w1.drew) := Lib.hid (Below.refl _ _).drew
    clear hs1 hs2 lim hbx hwh
    rcases hs13 with rfl | rfl
    all_goals
      go_wp2_with fail
      go_region_held3 (fun W => W.cell? ⟨w.heap.size, 0, none⟩ = some (.int .i64 (p : Int)) ∧ W.cell? ⟨w.heap.size, 1, none⟩ = some (.int .i64 need) ∧ W.cell? ⟨w.heap.size, 2, none⟩ = some (.int .i64 hold) ∧ W.cell? ⟨w.heap.size + 1, 3, none⟩ = some (.int .i64 (ln : Int)) ∧ W.cell? ⟨w.heap.size + 1, 5, none⟩ = some (.slice A1 n1 k1) ∧ W.cell? ⟨w.heap.size + 1, 6, none⟩ = some (.slice A2 n2 k2) ∧ Hid (Below w1.heap.size w1 W))
        (first
          | with_reducible exact LIM.out _ K0.out
          | with_reducible exact LIM.out _ K1.out
          | with_reducible exact LIM.out _ K2.out
          | with_reducible exact LIM.out _ K3.out)
        (first
          | (go_at_call 28; ((with_reducible refine (HCT.out _).mono ?_); rintro e w2 ⟨rfl, hbx⟩; have K1 := Lib.hid (K0.out.trans (hbx.mono K0.out.size)); clear hbx))
          | (go_at_call 98; ((with_reducible refine (HS1.out _ K1.out).mono ?_); rintro e w3 ⟨rfl, hbx⟩; have K2 := Lib.hid (K1.out.trans (hbx.mono K1.out.size)); clear hbx))
          | (go_at_call 98; ((with_reducible refine (HS2.out _ K2.out).mono ?_); rintro e w4 ⟨rfl, hbx⟩; have K3 := Lib.hid (K2.out.trans (hbx.mono K2.out.size)); clear hbx)))
      all_goals
        have HBE := Lib.hid (HB1.out.trans (K3.out.mono HB1.out.size))
        go_wp2_with fail
        go_ret
        exact ⟨rfl, HBE.out⟩
end Go.Proofs.YtgeahbmaeaoeeaaGreatDoor
namespace Go.Proofs.YtgeahbmaeaoeeaaGreatDoor
open Go.RowKit Num

/-- Numbers that strictly ascend, all in a range. -/
def RisP (L : List Int) (lo hi : Int) : Prop := ∀ i, i < L.length → (lo ≤ L.getD i 0 ∧ L.getD i 0 ≤ hi) ∧ (0 < i → L.getD (i - 1) 0 < L.getD i 0)
set_option maxRecDepth 100000 in
set_option maxHeartbeats 1000000 in
theorem g_Rising (v : Value) (L : List Int) (S : Nat → Prop) (lo hi : Int) (w : World) (hv : IntsAt w S v L) (hl : L.length ≤ 1000000) :
    Calls Tryz.prog 73 #[v, .int .i64 lo, .int .i64 hi] w fun e w' => (∃ b : Bool, e = .returned (.bool b) ∧ (b = true ↔ RisP L lo hi)) ∧ w = w' := by
  obtain ⟨A, n, ca, rfl, hn, hnc, hcc⟩ := id hv
  have hn1 : n ≤ 1000000 := by omega
  have HCC := Lib.hid hcc
  have HN := Lib.hid hn
  clear hv hn hcc hl
  go_enter Tryz.func73, Tryz.ntmps73
  go_wp2_with fail
  go_loopw [11] (fun t wr => ∃ i : Nat, i ≤ n ∧ t = .int .i64 i ∧ (∀ j, j < i → (lo ≤ L.getD j 0 ∧ L.getD j 0 ≤ hi) ∧ (0 < j → L.getD (j - 1) 0 < L.getD j 0)) ∧ w = wr) (fun t _ => n - (intOf t).toNat)
  case atStart => exact ⟨0, by omega, rfl, fun j hj => absurd hj (Nat.not_lt_zero j), rfl⟩
  case round =>
    obtain ⟨i, hin, rfl, hz, rfl⟩ := hrel
    have HZ := Lib.hid hz
    clear hz
    by_cases hlt : i < n
    · obtain ⟨b, off, rfl, _, hc⟩ := HCC.out (by omega)
      have cx := hc i hlt
      have cy := fun (h0 : 0 < i) => hc (i - 1) (by omega)
      obtain ⟨x, hx⟩ : ∃ x, L.getD i 0 = x := ⟨_, rfl⟩
      rw [hx] at cx
      have HX := Lib.hid hx
      have qi : (i : Int) < (n : Int) := by omega
      have qi0 : (0 : Int) ≤ (i : Int) := by omega
      have HIN := fun W => o_In x lo hi W
      clear hx hc
      have no : ∀ P : Prop, (P → ¬ ((lo ≤ x ∧ x ≤ hi) ∧ (0 < i → L.getD (i - 1) 0 < x))) → P → (false = true ↔ RisP L lo hi) := fun P h p => ⟨fun h0 => (by cases h0), fun h2 => (by have h3 := h2 i (by rw [← HN.out]; exact hlt); rw [HX.out] at h3; exact absurd h3 (h p))⟩
      have NO := Lib.hid no
      clear no
      by_cases h1 : lo ≤ x ∧ x ≤ hi
      · have hin2 := fun W => o_InT x lo hi W h1
        have H1 := Lib.hid h1
        have HIT := Lib.hid hin2
        clear HIN hin2 h1
        rcases Nat.eq_zero_or_pos i with h0 | h0
        · have g0 : ¬ (0 : Int) < (i : Int) := by omega
          have I0 := Lib.hid h0
          clear cy h0
          go_wp2_with fail
          refine (HIT.out _).mono ?_
          rintro e w' ⟨rfl, rfl⟩
          go_wp2_with fail
          go_roundw
          case measure => simp [intOf]; omega
          case rel => exact ⟨i + 1, by omega, by go_num, (fun j hj => by
            have hi0 := I0.out
            rw [show j = i by omega, HX.out]; exact ⟨H1.out, fun h => (by omega)⟩), trivial⟩
        · have cz := cy h0
          clear cy
          obtain ⟨y, hy⟩ : ∃ y, L.getD (i - 1) 0 = y := ⟨_, rfl⟩
          rw [hy] at cz
          have HY := Lib.hid hy
          have g0 : (0 : Int) < (i : Int) := by omega
          have g1 : (0 : Int) ≤ (i : Int) - 1 := by omega
          have g2 : (i : Int) - 1 < (n : Int) := by omega
          clear hy
          by_cases h2 : x ≤ y
          · have H2 := Lib.hid h2
            have t2 : decide (x ≤ y) = true := decide_eq_true h2
            clear h2
            go_wp2_with fail
            refine (HIT.out _).mono ?_
            rintro e w' ⟨rfl, rfl⟩
            go_wp2_with fail
            go_ret
            exact ⟨⟨false, rfl, NO.out (x ≤ y) (fun h c => by have := c.2 h0; rw [HY.out] at this; omega) H2.out⟩, rfl⟩
          · have H2 := Lib.hid h2
            have t2 : decide (x ≤ y) = false := decide_eq_false h2
            clear h2
            go_wp2_with fail
            refine (HIT.out _).mono ?_
            rintro e w' ⟨rfl, rfl⟩
            go_wp2_with fail
            go_roundw
            case measure => simp [intOf]; omega
            case rel => exact ⟨i + 1, by omega, by go_num, (fun j hj => by
              rcases Nat.lt_or_ge j i with h | h
              · exact HZ.out j h
              · rw [show j = i by omega, HX.out, HY.out]
                have := H2.out
                exact ⟨H1.out, fun _ => by omega⟩), trivial⟩
      · have hin2 := fun W => (by
          have := o_In x lo hi W
          rwa [decide_eq_false h1] at this)
        have H1 := Lib.hid h1
        have HIT := Lib.hid hin2
        clear HIN hin2 h1 cy
        go_wp2_with fail
        refine (HIT.out _).mono ?_
        rintro e w' ⟨rfl, rfl⟩
        go_wp2_with fail
        go_ret
        exact ⟨⟨false, rfl, NO.out (¬ (lo ≤ x ∧ x ≤ hi)) (fun h c => h c.1) H1.out⟩, rfl⟩
    · have hi' : i = n := by omega
      subst hi'
      have hr : RisP L lo hi := fun j hj => HZ.out j (by rw [HN.out]; exact hj)
      have HR := Lib.hid hr
      clear hr
      go_wp2_with fail
      go_ret
      exact ⟨⟨true, rfl, fun _ => HR.out, fun _ => rfl⟩, rfl⟩
theorem step_evenM (m o x t : Nat) (h : t % 2 = 0) : o * (x * x % m) ^ (t / 2) % m = o * x ^ t % m := step_even m o x t h
set_option maxHeartbeats 400000 in
theorem q_power (x e : Nat) (w : World) (hx : x < 1073741825) (he : e < 9223372036854775808) :
    Calls Tryz.prog 29 #[.int .i64 (x : Int), .int .i64 (e : Int)] w fun r w' => r = .returned (.int .i64 (pw 1000003 x e : Int)) ∧ w = w' := by
  go_enter Tryz.func29, Tryz.ntmps29
  have hxm : (x : Int).tmod 1000003 = ((x % 1000003 : Nat) : Int) := by rw [Int.tmod_eq_emod_of_nonneg (by omega)]; rfl
  have hxl := Nat.mod_lt x (show 0 < 1000003 by omega)
  have hpw : 1 * (x % 1000003) ^ e % 1000003 = pw 1000003 x e := by rw [Nat.one_mul]; exact (Nat.pow_mod x e 1000003).symm
  obtain ⟨x0, hx0⟩ : ∃ x0, x % 1000003 = x0 := ⟨_, rfl⟩
  rw [hx0] at hxm hxl hpw
  have HPW := Lib.hid hpw
  clear hx0 hpw
  go_wp2
  go_loop [5, 0, 1] (fun o y t => ∃ o' x' t' : Nat, o = .int .i64 o' ∧ y = .int .i64 x' ∧ t = .int .i64 t' ∧ o' < 1000003 ∧ x' < 1000003 ∧ t' < 9223372036854775808 ∧ o' * x' ^ t' % 1000003 = pw 1000003 x e) (fun _ _ t => (intOf t).toNat)
  case atStart => exact ⟨1, x0, e, rfl, rfl, rfl, by omega, hxl, he, HPW.out⟩
  case round =>
    obtain ⟨o', x', t', rfl, rfl, rfl, ho', hx', ht', hr⟩ := hrel
    have hR := Lib.hid hr
    clear hr
    have s1 : o' * x' < 1000003 * 1000003 := Nat.mul_lt_mul'' ho' hx'
    have s2 : x' * x' < 1000003 * 1000003 := Nat.mul_lt_mul'' hx' hx'
    have e1 : (o' : Int) * (x' : Int) = ((o' * x' : Nat) : Int) := (Int.natCast_mul _ _).symm
    have e2 : (x' : Int) * (x' : Int) = ((x' * x' : Nat) : Int) := (Int.natCast_mul _ _).symm
    have w1 : IntKind.i64.wrap ((o' : Int) * (x' : Int)) = (o' : Int) * (x' : Int) := wraps_i64_63 _ (by omega) (by omega)
    have w2 : IntKind.i64.wrap ((x' : Int) * (x' : Int)) = (x' : Int) * (x' : Int) := wraps_i64_63 _ (by omega) (by omega)
    have m1 : ((o' : Int) * (x' : Int)).tmod 1000003 = ((o' * x' % 1000003 : Nat) : Int) := by rw [e1, Int.tmod_eq_emod_of_nonneg (by omega)]; rfl
    have m2 : ((x' : Int) * (x' : Int)).tmod 1000003 = ((x' * x' % 1000003 : Nat) : Int) := by rw [e2, Int.tmod_eq_emod_of_nonneg (by omega)]; rfl
    have l1 := Nat.mod_lt (o' * x') (show 0 < 1000003 by omega)
    have l2 := Nat.mod_lt (x' * x') (show 0 < 1000003 by omega)
    have se := step_even 1000003 o' x' t'
    have so := step_odd 1000003 o' x' t'
    generalize o' * x' % 1000003 = a at *
    generalize x' * x' % 1000003 = b at *
    have SE := Lib.hid se
    have SO := Lib.hid so
    clear e1 e2 s1 s2 se so
    by_cases h0 : 0 < t'
    · rcases Nat.mod_two_eq_zero_or_one t' with hp | hp
      · have c : (((t' : Int).tmod 2) == 1) = false := by rw [Int.tmod_eq_emod_of_nonneg (by omega)]; simp; omega
        go_wp2_with fail
        go_round
        case rel => exact ⟨o', b, t' / 2, by go_num, by go_num, by go_num, ho', by omega, by omega, by rw [SE.out hp]; exact hR.out⟩
        case measure => simp [intOf]; omega
      · have c : (((t' : Int).tmod 2) == 1) = true := by rw [Int.tmod_eq_emod_of_nonneg (by omega)]; simp; omega
        go_wp2_with fail
        go_round
        case rel => exact ⟨a, b, t' / 2, by go_num, by go_num, by go_num, by omega, by omega, by omega, by rw [SO.out hp]; exact hR.out⟩
        case measure => simp [intOf]; omega
    · have h0' : t' = 0 := by omega
      subst h0'
      go_wp2
      go_ret
      exact ⟨ret_int (by have := hR.out; rw [Nat.pow_zero, Nat.mul_one, Nat.mod_eq_of_lt ho'] at this; rw [← this]), rfl⟩
end Go.Proofs.YtgeahbmaeaoeeaaGreatDoor
