/- Contracts: whether shares are good in a plan (they are), and what is wrong with them (nothing). -/
import Derived.Test.YtgeahbmaeaoeeaaGreatDoorCoShr
set_option linter.unusedVariables false
set_option linter.unusedSimpArgs false
namespace Go.Proofs.YtgeahbmaeaoeeaaGreatDoor
open Go.RowKit Num

set_option maxRecDepth 100000 in
set_option maxHeartbeats 4000000 in
theorem s_Good (p need hold m : Nat) (v : Value) (L : List Sh) (S : Nat → Prop) (w : World) (n3 : hold ≤ 16)
    (hv : ShAt w S v L) (hS : ∀ b, S b → b < w.heap.size) (hl : L.length ≤ 16) (hm : m ≤ 2048) (ho : GoodSh p hold m L) :
    Calls Tryz.prog 65 #[.agg #[.int .i64 (p : Int), .int .i64 (need : Int), .int .i64 (hold : Int)], v] w (BoolBelow true w) := by
  obtain ⟨A, n, c, rfl, hn, hnc, hc⟩ := id hv
  have hn1 : n ≤ 16 := by omega
  have HV := Lib.hid hv
  have HN := Lib.hid hn
  have HO := Lib.hid ho
  have hst : ∀ (W : World) (h : Nat) (u : Value) (xs : List Int), IntsAt W (fun b => b < W.heap.size) u xs → xs.length = m → InF p xs → 1 ≤ h → h ≤ hold → Calls Tryz.prog 85 #[.agg #[.int .i64 (p : Int), .int .i64 (need : Int), .int .i64 (hold : Int)], .agg #[.int .i64 (h : Int), u]] W (BoolBelow true W) := fun W h u xs hu hx hf h1 h2 =>
    s_Stands p need hold h u xs _ W hu (fun b hb => hb) (by omega) hf h1 h2
  have HST := Lib.hid hst
  clear hv hn ho hc hst
  have kp0 : Blk ((w.alloc (.cells #[.int .i64 (p : Int), .int .i64 (need : Int), .int .i64 (hold : Int)] 29))) w.heap.size 29 #[.int .i64 (p : Int), .int .i64 (need : Int), .int .i64 (hold : Int)] := Blk.new w _ _
  have hb0 : Below w.heap.size w (w.alloc (.cells #[.int .i64 (p : Int), .int .i64 (need : Int), .int .i64 (hold : Int)] 29)) := (Below.refl _ _).alloc (Nat.le_refl _) _
  have hs0 : (w.alloc (.cells #[.int .i64 (p : Int), .int .i64 (need : Int), .int .i64 (hold : Int)] 29)).heap.size = w.heap.size + 1 := by simp
  have KP := Lib.hid kp0
  have HB0 := Lib.hid hb0
  clear kp0 hb0
  go_enter Tryz.func65, Tryz.ntmps65
  go_wp2_with fail
  generalize (w.alloc (.cells #[.int .i64 (p : Int), .int .i64 (need : Int), .int .i64 (hold : Int)] 29)) = w2 at *
  have HS0 := Lib.hid hs0
  have hsz2 : w.heap.size < w2.heap.size := by omega
  clear hs0
  go_loopw [10] (fun t wr => ∃ k : Nat, k ≤ n ∧ t = .int .i64 k ∧ ArrV wr (w.heap.size + 1) 17 (seenV L k) ∧ Below (w.heap.size + 1) w2 wr ∧ (w.heap.size + 1) < wr.heap.size) (fun t _ => n - (intOf t).toNat)
  case atStart =>
    have e2 := HS0.out
    rw [← e2]
    refine ⟨0, by omega, rfl, ⟨fun j hj => ?_, fun j hj => World.frozen?_alloc_new _ _ _ _⟩, (Below.refl _ _).alloc (Nat.le_refl _) _, by simp⟩
    rw [World.cell?_alloc_new]
    have e : seenV L 0 j = .bool false := by unfold seenV; exact congrArg Value.bool (decide_eq_false (fun ⟨i, hi, _⟩ => Nat.not_lt_zero i hi))
    rw [e]
    have : ∀ j : Nat, j < 17 → (Array.replicate 17 (Value.bool false))[j]? = some (.bool false) := fun j hj => by rw [Array.getElem?_eq_getElem (by simp; exact hj)]; simp
    exact this j hj
  case round =>
    obtain ⟨k, hk, rfl, harr, hbl, hz⟩ := hrel
    by_cases hlt : k < n
    · have hkl : k < L.length := by have := HN.out; omega
      obtain ⟨A1, n1', c1, hv1, e1, e2, hcs⟩ := HV.out
      injection hv1 with v1 v2 v3
      subst v1 v2 v3
      obtain ⟨b, off, rfl, hSb, hcell⟩ := hcs (by omega)
      obtain ⟨u, m0, m1, hu⟩ := hcell k hlt
      obtain ⟨u0, _, m3, hu0⟩ := hcell 0 (by omega)
      obtain ⟨Au, nu, cu, rfl, f1, f2, f3⟩ := id hu
      obtain ⟨Av, nv, cv, rfl, g1, g2, g3⟩ := id hu0
      have hone := HO.out.len k hkl
      have hone0 := HO.out.len 0 (by omega)
      have hin := HO.out.inF k hkl
      have hnu : nu = m := by omega
      have hnv : nv = m := by omega
      subst hnv
      subst hnu
      have hho := HO.out.holder k hkl
      obtain ⟨H, hH⟩ := Int.eq_ofNat_of_zero_le (show 0 ≤ (shAt L k).1 by omega)
      rw [hH] at m0 hho
      have bb : b < w.heap.size := hS b hSb
      have hww : Below w.heap.size w wr := HB0.out.trans (hbl.mono (by omega))
      have r0 := (hww.cell (p := ⟨b, off + k * 2, none⟩) bb).trans m0
      have r1 := (hww.cell (p := ⟨b, off + k * 2 + 1, none⟩) bb).trans m1
      have r2 := (hww.cell (p := ⟨b, off + 0 * 2 + 1, none⟩) bb).trans m3
      rw [Nat.zero_mul, Nat.add_zero] at r2
      have kp := KP.out.below hbl (by omega)
      have r3 : wr.cell? ⟨w.heap.size, 0, none⟩ = some (.int .i64 (p : Int)) := kp.cell 0
      have r4 : wr.cell? ⟨w.heap.size, 1, none⟩ = some (.int .i64 (need : Int)) := kp.cell 1
      have r5 : wr.cell? ⟨w.heap.size, 2, none⟩ = some (.int .i64 (hold : Int)) := kp.cell 2
      have r6 := harr.cell H (by omega)
      have e6 : seenV L k H = .bool false := by
        unfold seenV; congr 1
        refine decide_eq_false ?_
        rintro ⟨i, hi, hii⟩
        exact HO.out.once i k (by omega) hkl (by omega) (by rw [hii, hH])
      rw [e6] at r6
      have z1 : b < wr.heap.size := by omega
      have z3 : w.heap.size < wr.heap.size := by omega
      have qk : (k : Int) < (n : Int) := by omega
      have q0n : (0 : Int) < (n : Int) := by omega
      have q0m : 0 < n := by omega
      have hiu : ∀ W, Below wr.heap.size wr W → IntsAt W (fun b => b < W.heap.size) (.slice Au nu cu) (shAt L k).2 := fun W hW =>
        (hu.keep fun b hb => (hW.block b (by have := hS b hb; omega)).trans (hww.block b (hS b hb))).mono fun b hb => by have := hS b hb; have := hW.size; omega
      have hsd : ∀ W, Below wr.heap.size wr W → Calls Tryz.prog 85 #[.agg #[.int .i64 (p : Int), .int .i64 (need : Int), .int .i64 (hold : Int)], .agg #[.int .i64 (H : Int), .slice Au nu cu]] W (BoolBelow true W) := fun W hW =>
        HST.out W H _ _ (hiu W hW) hone hin (by omega) (by omega)
      have HSD := Lib.hid hsd
      have HH := Lib.hid hH
      have HBL := Lib.hid hbl
      have HARR := Lib.hid harr
      have hH1 : H < 17 := by omega
      clear hcell m0 m1 m3 kp e6 hH hbl harr hww hone hone0 hcs f1 f2 f3 e1 e2 g1 g2 g3 hu hu0 hin hho hiu hsd
      go_wp2_with fail
      have ha : Below wr.heap.size wr (wr.alloc (.cells #[.int .i64 (H : Int), .slice Au nu cu] 36)) := (Below.refl _ _).alloc (Nat.le_refl _) _
      have t0 : (wr.alloc (.cells #[.int .i64 (H : Int), .slice Au nu cu] 36)).cell? ⟨wr.heap.size, 0, none⟩ = some (.int .i64 (H : Int)) := by rw [World.cell?_alloc_new]; rfl
      have t1 : (wr.alloc (.cells #[.int .i64 (H : Int), .slice Au nu cu] 36)).cell? ⟨wr.heap.size, 1, none⟩ = some (.slice Au nu cu) := by rw [World.cell?_alloc_new]; rfl
      have t2 := (ha.cell (p := ⟨b, off + 1, none⟩) z1).trans r2
      have t3 := (ha.cell (p := ⟨w.heap.size, 0, none⟩) z3).trans r3
      have t4 := (ha.cell (p := ⟨w.heap.size, 1, none⟩) z3).trans r4
      have t5 := (ha.cell (p := ⟨w.heap.size, 2, none⟩) z3).trans r5
      have t6 := (ha.cell (p := ⟨w.heap.size + 1, H, none⟩) hz).trans r6
      have hsa : wr.heap.size < (wr.alloc (.cells #[.int .i64 (H : Int), .slice Au nu cu] 36)).heap.size := by simp
      generalize (wr.alloc (.cells #[.int .i64 (H : Int), .slice Au nu cu] 36)) = W1 at *
      clear r0 r1 r2 r3 r4 r5 r6
      have mk : ∀ W : World, Below W1.heap.size W1 W → W.cell? ⟨wr.heap.size, 0, none⟩ = some (.int .i64 (H : Int)) ∧ W.cell? ⟨wr.heap.size, 1, none⟩ = some (.slice Au nu cu) ∧ W.cell? ⟨b, off + 1, none⟩ = some (.slice Av nu cv) ∧ W.cell? ⟨w.heap.size, 0, none⟩ = some (.int .i64 (p : Int)) ∧ W.cell? ⟨w.heap.size, 1, none⟩ = some (.int .i64 (need : Int)) ∧ W.cell? ⟨w.heap.size, 2, none⟩ = some (.int .i64 (hold : Int)) ∧ W.cell? ⟨w.heap.size + 1, H, none⟩ = some (.bool false) ∧ Hid (Below W1.heap.size W1 W) := fun W hW =>
        ⟨(hW.cell (p := ⟨wr.heap.size, 0, none⟩) hsa).trans t0, (hW.cell (p := ⟨wr.heap.size, 1, none⟩) hsa).trans t1, (hW.cell (p := ⟨b, off + 1, none⟩) (by simp; omega)).trans t2, (hW.cell (p := ⟨w.heap.size, 0, none⟩) (by simp; omega)).trans t3, (hW.cell (p := ⟨w.heap.size, 1, none⟩) (by simp; omega)).trans t4, (hW.cell (p := ⟨w.heap.size, 2, none⟩) (by simp; omega)).trans t5, (hW.cell (p := ⟨w.heap.size + 1, H, none⟩) (by simp; omega)).trans t6, Lib.hid hW⟩
      have MK := Lib.hid mk
      have HA := Lib.hid ha
      have d3 : (H : Int) < 17 := by omega
      have d4 : (0 : Int) ≤ (H : Int) := by omega
      have d5 : decide ((2048 : Int) < (nu : Int)) = false := decide_eq_false (by omega)
      clear mk ha t0 t1 t2 t3 t4 t5 t6
      go_region_held3 (fun W => W.cell? ⟨wr.heap.size, 0, none⟩ = some (.int .i64 (H : Int)) ∧ W.cell? ⟨wr.heap.size, 1, none⟩ = some (.slice Au nu cu) ∧ W.cell? ⟨b, off + 1, none⟩ = some (.slice Av nu cv) ∧ W.cell? ⟨w.heap.size, 0, none⟩ = some (.int .i64 (p : Int)) ∧ W.cell? ⟨w.heap.size, 1, none⟩ = some (.int .i64 (need : Int)) ∧ W.cell? ⟨w.heap.size, 2, none⟩ = some (.int .i64 (hold : Int)) ∧ W.cell? ⟨w.heap.size + 1, H, none⟩ = some (.bool false) ∧ Hid (Below W1.heap.size W1 W))
        (first
          | exact HP.out
          | exact MK.out _ (Below.refl _ _).drew)
        (first
          | (go_at_call 85
             (with_reducible refine (HSD.out _ (HA.out.trans (((Below.refl W1.heap.size W1).drew).mono (Nat.le_of_lt hsa)))).mono ?_)
             rintro e wk ⟨rfl, hbk⟩
             have hbk' : Below W1.heap.size W1 wk := ((Below.refl W1.heap.size W1).drew).trans hbk
             have HB2 := Lib.hid hbk'
             have HP := Lib.hid (MK.out wk hbk')
             clear hbk hbk'))
      have HP2 := HP.out
      go_split_ands
      have hall : Below wr.heap.size wr wk := HA.out.trans (HB2.out.mono (by omega))
      have uf : wk.frozen? ⟨w.heap.size + 1, H, none⟩ = false := (hall.frozen (p := ⟨w.heap.size + 1, H, none⟩) hz).trans (HARR.out.live H hH1)
      have hak : ArrV wk (w.heap.size + 1) 17 (seenV L k) := ⟨fun j hj => (hall.cell (p := ⟨w.heap.size + 1, j, none⟩) hz).trans (HARR.out.cell j hj), fun j hj => (hall.frozen (p := ⟨w.heap.size + 1, j, none⟩) hz).trans (HARR.out.live j hj)⟩
      have hbk2 := HBL.out.trans (hall.mono (by omega))
      have hsk := hall.size
      have HAK := Lib.hid hak
      have HBK := Lib.hid hbk2
      clear hak hbk2 hall
      go_wp2_with fail
      go_roundw
      case measure => simp [intOf]; omega
      case rel =>
        refine ⟨k + 1, by omega, by go_num, ?_, HBK.out.setCell (p := ⟨w.heap.size + 1, H, none⟩) (Nat.le_refl _) _, by simp; omega⟩
        refine (HAK.out.upd (.bool true) hH1).congr fun j hj => ?_
        unfold updV
        by_cases hjH : j = H
        · rw [if_pos hjH]
          unfold seenV
          congr 1
          exact (decide_eq_true ⟨k, by omega, by rw [HH.out, hjH]⟩).symm
        · rw [if_neg hjH]
          unfold seenV
          congr 1
          rw [decide_eq_decide]
          constructor
          · rintro ⟨i, hi, hii⟩; exact ⟨i, by omega, hii⟩
          · rintro ⟨i, hi, hii⟩
            refine ⟨i, ?_, hii⟩
            rcases Nat.lt_or_ge i k with h | h
            · exact h
            · have : i = k := by omega
              subst this
              rw [HH.out] at hii; omega
    · have hkn : k = n := by omega
      subst hkn
      have hbf := HB0.out.trans (hbl.mono (by omega))
      have HBF := Lib.hid hbf
      clear hbl harr hbf
      go_wp2_with fail
      go_ret
      exact ⟨rfl, HBF.out⟩
end Go.Proofs.YtgeahbmaeaoeeaaGreatDoor
