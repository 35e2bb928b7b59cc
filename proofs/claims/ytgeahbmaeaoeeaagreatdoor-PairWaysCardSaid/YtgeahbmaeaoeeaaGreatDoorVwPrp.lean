/- Contract: whether an entry can be seen by a coalition, where it can. -/
import Derived.Test.YtgeahbmaeaoeeaaGreatDoorVwStd
import Derived.Test.YtgeahbmaeaoeeaaGreatDoorVwCnt
import Derived.Test.YtgeahbmaeaoeeaaGreatDoorOrSlot
set_option linter.unusedVariables false
set_option linter.unusedSimpArgs false
namespace Go.Proofs.YtgeahbmaeaoeeaaGreatDoor
open Go.RowKit Num

/-- An entry that a coalition can see; ln: how many bytes its box has. -/
def PropP (p : Nat) (H : List Int) (ln : Nat) (s : SeenS) : Prop := s.len = (ln : Int) ∧ ln ≤ 16384 ∧ cntG p ln ≤ 2048 ∧
  ((s.st = 2 ∧ s.boxes = [] ∧ s.who = []) ∨ ((s.st = 1 ∨ s.st = 3) ∧ StandP p ((cntG p ln : Nat) : Int) s.boxes H ∧ StandP p 1 s.who H))
theorem BoolIff.toT {P : Program} {f : FuncId} {args : Array Value} {w : World} {Q : Prop} (h : Calls P f args w (BoolIff Q w)) (hq : Q) : Calls P f args w (BoolBelow true w) :=
  h.mono fun e w' ⟨⟨b, he, hb⟩, hB⟩ => ⟨by rw [he, hb.2 hq], hB⟩
theorem StandP.len {p : Nat} {n : Nat} {L : List Sh} {H : List Int} (h : StandP p (n : Int) L H) : ∀ k, k < L.length → (shAt L k).2.length = n := fun k hk => by
  have := (h.2 k hk).2.1; omega
set_option maxRecDepth 100000 in
set_option maxHeartbeats 2000000 in
theorem v_properT (p ln : Nat) (need hold : Int) (s : SeenS) (u y uh : Value) (H : List Int) (w : World) (hw : BasesOk w) (hp : Prm p) (h2 : p ≤ 1073741824) (hu : ShAt w (· < w.heap.size) u s.boxes) (hy : ShAt w (· < w.heap.size) y s.who) (hh : IntsAt w (· < w.heap.size) uh H) (hlh : H.length ≤ 1000000) (hP : PropP p H ln s) :
    Calls Tryz.prog 74 #[.agg #[.int .i64 (p : Int), .int .i64 need, .int .i64 hold], .agg #[.int .i64 s.num, .int .i64 s.time, .int .i64 s.st, .int .i64 s.len, .int .i64 s.ep, u, y], uh] w (BoolBelow true w) := by
  obtain ⟨hl0, hl1, hl2, hst⟩ := hP
  obtain ⟨num, time, st, len, ep, boxes, who⟩ := s
  dsimp only at hl0 hst hu hy ⊢
  subst hl0
  obtain ⟨A1, n1, k1, rfl, hn1, hk1, hc1⟩ := id hu
  obtain ⟨A2, n2, k2, rfl, hn2, hk2, hc2⟩ := id hy
  have hb0 : Below w.heap.size w ((w.alloc (.cells #[.int .i64 (p : Int), .int .i64 need, .int .i64 hold] 29)).alloc (.cells #[.int .i64 num, .int .i64 time, .int .i64 st, .int .i64 (ln : Int), .int .i64 ep, .slice A1 n1 k1, .slice A2 n2 k2] 39)) := ((Below.refl _ w).alloc (Nat.le_refl _) _).alloc (by simp) _
  have hpb := (Blk.new w 29 #[.int .i64 (p : Int), .int .i64 need, .int .i64 hold]).alloc (.cells #[.int .i64 num, .int .i64 time, .int .i64 st, .int .i64 (ln : Int), .int .i64 ep, .slice A1 n1 k1, .slice A2 n2 k2] 39)
  have hsb := Blk.new (w.alloc (.cells #[.int .i64 (p : Int), .int .i64 need, .int .i64 hold] 29)) 39 #[.int .i64 num, .int .i64 time, .int .i64 st, .int .i64 (ln : Int), .int .i64 ep, .slice A1 n1 k1, .slice A2 n2 k2]
  rw [World.size_alloc] at hsb
  have hin := fun W => o_InT (ln : Int) 0 16384 W ⟨by omega, by omega⟩
  have hct := fun W => p_CountG p ln W h2 (by omega)
  have HIN := Lib.hid hin
  have HCT := Lib.hid hct
  have HB0 := Lib.hid hb0
  have HPB := Lib.hid hpb
  have HSB := Lib.hid hsb
  obtain ⟨c, hcc⟩ : ∃ c, cntG p ln = c := ⟨_, rfl⟩
  rw [hcc] at HCT hl2 hst
  have gc : decide ((2048 : Int) < (c : Int)) = false := decide_eq_false (by omega)
  have p0 := (hpb.cell 0).trans (show _ = some (Value.int .i64 (p : Int)) from rfl)
  have p1 := (hpb.cell 1).trans (show _ = some (Value.int .i64 need) from rfl)
  have p2 := (hpb.cell 2).trans (show _ = some (Value.int .i64 hold) from rfl)
  have s2 := (hsb.cell 2).trans (show _ = some (Value.int .i64 st) from rfl)
  have s3 := (hsb.cell 3).trans (show _ = some (Value.int .i64 (ln : Int)) from rfl)
  have s5 := (hsb.cell 5).trans (show _ = some (Value.slice A1 n1 k1) from rfl)
  have s6 := (hsb.cell 6).trans (show _ = some (Value.slice A2 n2 k2) from rfl)
  have HUU := Lib.hid hu
  have HYY := Lib.hid hy
  have HHH := Lib.hid hh
  have HWW := Lib.hid hw
  have HN1 := Lib.hid hn1
  have HN2 := Lib.hid hn2
  have HST := Lib.hid hst
  clear hin hct hb0 hpb hsb hu hy hh hw hn1 hn2 hc1 hc2 hst hcc
  go_enter Tryz.func74, Tryz.ntmps74
  go_wp2_with fail
  generalize ((w.alloc (.cells #[.int .i64 (p : Int), .int .i64 need, .int .i64 hold] 29)).alloc (.cells #[.int .i64 num, .int .i64 time, .int .i64 st, .int .i64 (ln : Int), .int .i64 ep, .slice A1 n1 k1, .slice A2 n2 k2] 39)) = w0 at *
  refine (HIN.out _).mono ?_
  rintro e w' ⟨rfl, rfl⟩
  go_wp2_with fail
  refine (HCT.out _).mono ?_
  rintro e w1 ⟨rfl, hb1⟩
  have hB1 := HB0.out.trans (hb1.mono HB0.out.size)
  have hpb1 := HPB.out.below hb1 HPB.out.lt
  have hsb1 := HSB.out.below hb1 HSB.out.lt
  have HB1 := Lib.hid hB1
  clear p0 p1 p2 s2 s3 s5 s6
  have p0 := (hpb1.cell 0).trans (show _ = some (Value.int .i64 (p : Int)) from rfl)
  have p1 := (hpb1.cell 1).trans (show _ = some (Value.int .i64 need) from rfl)
  have p2 := (hpb1.cell 2).trans (show _ = some (Value.int .i64 hold) from rfl)
  have s2 := (hsb1.cell 2).trans (show _ = some (Value.int .i64 st) from rfl)
  have s3 := (hsb1.cell 3).trans (show _ = some (Value.int .i64 (ln : Int)) from rfl)
  have s5 := (hsb1.cell 5).trans (show _ = some (Value.slice A1 n1 k1) from rfl)
  have s6 := (hsb1.cell 6).trans (show _ = some (Value.slice A2 n2 k2) from rfl)
  have l1 := hpb1.lt
  have l2 := hsb1.lt
  clear hb1 hB1 hpb1 hsb1
  rcases HST.out with ⟨rfl, hbx, hwh⟩ | ⟨hs13, hbx, hwh⟩
  · have e1 : n1 = 0 := by rw [HN1.out, hbx]; rfl
    have e2 : n2 = 0 := by rw [HN2.out, hwh]; rfl
    subst e1 e2
    clear hbx hwh HN1 HN2 HST HUU HYY
    go_wp2_with fail
    go_ret
    exact ⟨rfl, HB1.out⟩
  · have hs1 : ∀ W, Below w1.heap.size w1 W → Calls Tryz.prog 98 #[.agg #[.int .i64 (p : Int), .int .i64 need, .int .i64 hold], .slice A1 n1 k1, uh, .int .i64 (c : Int)] W (BoolBelow true W) := fun W hW =>
      BoolIff.toT (v_stand p need hold (c : Int) (.slice A1 n1 k1) uh boxes H W ((HWW.out.below HB1.out).below hW) hp h2 ((HUU.out.up HB1.out).up hW) ((HHH.out.up HB1.out).up hW) (by rw [hbx.1]; exact hlh) hlh (fun k hk => by rw [hbx.len k hk]; omega)) hbx
    have hs2 : ∀ W, Below w1.heap.size w1 W → Calls Tryz.prog 98 #[.agg #[.int .i64 (p : Int), .int .i64 need, .int .i64 hold], .slice A2 n2 k2, uh, .int .i64 1] W (BoolBelow true W) := fun W hW =>
      BoolIff.toT (v_stand p need hold 1 (.slice A2 n2 k2) uh who H W ((HWW.out.below HB1.out).below hW) hp h2 ((HYY.out.up HB1.out).up hW) ((HHH.out.up HB1.out).up hW) (by rw [hwh.1]; exact hlh) hlh (fun k hk => by rw [StandP.len (n := 1) hwh k hk]; omega)) hwh
    have lim : ∀ W, Below w1.heap.size w1 W → W.cell? ⟨w.heap.size, 0, none⟩ = some (.int .i64 (p : Int)) ∧ W.cell? ⟨w.heap.size, 1, none⟩ = some (.int .i64 need) ∧ W.cell? ⟨w.heap.size, 2, none⟩ = some (.int .i64 hold) ∧ W.cell? ⟨w.heap.size + 1, 3, none⟩ = some (.int .i64 (ln : Int)) ∧ W.cell? ⟨w.heap.size + 1, 5, none⟩ = some (.slice A1 n1 k1) ∧ W.cell? ⟨w.heap.size + 1, 6, none⟩ = some (.slice A2 n2 k2) ∧ Hid (Below w1.heap.size w1 W) := fun W hW =>
      ⟨(hW.cell (p := ⟨w.heap.size, 0, none⟩) l1).trans p0, (hW.cell (p := ⟨w.heap.size, 1, none⟩) l1).trans p1, (hW.cell (p := ⟨w.heap.size, 2, none⟩) l1).trans p2, (hW.cell (p := ⟨w.heap.size + 1, 3, none⟩) l2).trans s3, (hW.cell (p := ⟨w.heap.size + 1, 5, none⟩) l2).trans s5, (hW.cell (p := ⟨w.heap.size + 1, 6, none⟩) l2).trans s6, Lib.hid hW⟩
    have HS1 := Lib.hid hs1
    have HS2 := Lib.hid hs2
    have LIM := Lib.hid lim
    have K0 : Hid (Below w1.heap.size w1 w1.drew) := Lib.hid (Below.refl _ _).drew
    clear hs1 hs2 lim hbx hwh
    rcases hs13 with rfl | rfl
    all_goals
      go_wp2_with fail
      go_region_held3 (fun W => W.cell? ⟨w.heap.size, 0, none⟩ = some (.int .i64 (p : Int)) ∧ W.cell? ⟨w.heap.size, 1, none⟩ = some (.int .i64 need) ∧ W.cell? ⟨w.heap.size, 2, none⟩ = some (.int .i64 hold) ∧ W.cell? ⟨w.heap.size + 1, 3, none⟩ = some (.int .i64 (ln : Int)) ∧ W.cell? ⟨w.heap.size + 1, 5, none⟩ = some (.slice A1 n1 k1) ∧ W.cell? ⟨w.heap.size + 1, 6, none⟩ = some (.slice A2 n2 k2) ∧ Hid (Below w1.heap.size w1 W))
        (first
          | with_reducible exact LIM.out _ K0.out
          | with_reducible exact LIM.out _ K1.out
          | with_reducible exact LIM.out _ K2.out
          | with_reducible exact LIM.out _ K3.out)
        (first
          | (go_at_call 28; ((with_reducible refine (HCT.out _).mono ?_); rintro e w2 ⟨rfl, hbx⟩; have K1 := Lib.hid (K0.out.trans (hbx.mono K0.out.size)); clear hbx))
          | (go_at_call 98; ((with_reducible refine (HS1.out _ K1.out).mono ?_); rintro e w3 ⟨rfl, hbx⟩; have K2 := Lib.hid (K1.out.trans (hbx.mono K1.out.size)); clear hbx))
          | (go_at_call 98; ((with_reducible refine (HS2.out _ K2.out).mono ?_); rintro e w4 ⟨rfl, hbx⟩; have K3 := Lib.hid (K2.out.trans (hbx.mono K2.out.size)); clear hbx)))
      all_goals
        have HBE := Lib.hid (HB1.out.trans (K3.out.mono HB1.out.size))
        go_wp2_with fail
        go_ret
        exact ⟨rfl, HBE.out⟩
end Go.Proofs.YtgeahbmaeaoeeaaGreatDoor
