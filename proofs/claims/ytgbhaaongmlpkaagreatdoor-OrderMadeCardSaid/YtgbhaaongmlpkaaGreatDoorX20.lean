/- Contracts: the reference's Same of conditions. Contracts: the kit's Word. -/
import Derived.Test.YtgbhaaongmlpkaaGreatDoorX05
import Derived.Test.YtgbhaaongmlpkaaGreatDoorX13
import Derived.Deep.CutRange
import Derived.Deep.CutBlock
import Derived.Test.YtgbhaaongmlpkaaGreatDoorX17
import Derived.Test.YtgbhaaongmlpkaaGreatDoorX03
import Derived.Test.YtgbhaaongmlpkaaGreatDoorX02
set_option linter.unusedVariables false
set_option linter.unusedSimpArgs false
namespace Go.Proofs.YtgbhaaongmlpkaaGreatDoor
open Go.RowKit Num

def SameE (La Lb : List Trm) (w : World) (e : Ending) (w' : World) : Prop := ∃ b : Bool, e = .returned (.bool b) ∧ (b = true ↔ La = Lb) ∧ Below w.heap.size w w'
theorem trms_eq {La Lb : List Trm} (hl : La.length = Lb.length) (h : ∀ q, q < La.length → trmAt La q = trmAt Lb q) : La = Lb := by
  apply List.ext_getElem hl
  intro i h1 h2
  have := h i h1
  unfold trmAt at this
  rwa [List.getD_eq_getElem?_getD, List.getD_eq_getElem?_getD, List.getElem?_eq_getElem h1, List.getElem?_eq_getElem h2] at this
theorem ints_eq {xs ys : List Int} (hl : xs.length = ys.length) (h : ∀ q, q < xs.length → xs.getD q 0 = ys.getD q 0) : xs = ys := by
  apply List.ext_getElem hl
  intro i h1 h2
  have := h i h1
  rwa [List.getD_eq_getElem?_getD, List.getD_eq_getElem?_getD, List.getElem?_eq_getElem h1, List.getElem?_eq_getElem h2] at this
theorem trmAt_mem {L : List Trm} {k : Nat} (h : k < L.length) : trmAt L k ∈ L := by
  unfold trmAt; rw [List.getD_eq_getElem?_getD, List.getElem?_eq_getElem h]; exact List.getElem_mem h
set_option maxRecDepth 100000 in
set_option maxHeartbeats 4000000 in
theorem r_SameC (va vb : Value) (La Lb : List Trm) (w : World) (ha : TermsAt w (· < w.heap.size) va La) (hb : TermsAt w (· < w.heap.size) vb Lb) (hla : La.length ≤ 1000000) (hlb : Lb.length ≤ 1000000)
    (hka : ∀ t ∈ La, t.args.length ≤ 1000000) (hkb : ∀ t ∈ Lb, t.args.length ≤ 1000000) :
    Calls Tryz.prog 52 #[.agg #[va], .agg #[vb]] w (SameE La Lb w) := by
  obtain ⟨A, n, c, rfl, hn, hnc, hA⟩ := ha
  obtain ⟨B, m, k, rfl, hm, hmk, hB⟩ := hb
  have n1 : n ≤ 1000000 := by omega
  have m1 : m ≤ 1000000 := by omega
  have hb0 : Below w.heap.size w ((w.alloc (.cells #[.slice A n c] 33)).alloc (.cells #[.slice B m k] 33)) := ((Below.refl _ _).alloc (Nat.le_refl _) _).alloc (by simp) _
  have HB0 := Lib.hid hb0
  have HN := Lib.hid hn
  have HM := Lib.hid hm
  have HA := Lib.hid hA
  have HB := Lib.hid hB
  have HKA := Lib.hid hka
  have HKB := Lib.hid hkb
  clear hb0 hn hm hA hB hka hkb hla hlb
  by_cases hnm : n = m
  · have t0 : ((n : Int) != (m : Int)) = false := by simp; omega
    have HNM := Lib.hid hnm
    clear hnm
    have hbA : Blk ((w.alloc (.cells #[.slice A n c] 33)).alloc (.cells #[.slice B m k] 33)) w.heap.size 33 #[.slice A n c] := (Blk.new w _ _).alloc _
    have hbB : Blk ((w.alloc (.cells #[.slice A n c] 33)).alloc (.cells #[.slice B m k] 33)) (w.heap.size + 1) 33 #[.slice B m k] := by
      have := Blk.new (w.alloc (.cells #[.slice A n c] 33)) 33 #[.slice B m k]
      rwa [World.size_alloc] at this
    have HBB := Lib.hid hbB
    clear hbA hbB
    go_enter Tryz.func52, Tryz.ntmps52
    go_wp2_with fail
    generalize hw0 : (w.alloc (.cells #[.slice A n c] 33)).alloc (.cells #[.slice B m k] 33) = w0 at *
    have hs0 : w0.heap.size = w.heap.size + 2 := by rw [← hw0]; simp
    have HS0 := Lib.hid hs0
    clear hw0 hs0
    go_loopw [5, 6, 7, 8, 9, 20] (fun v5 v6 v7 v8 v9 v20 wr => ∃ i : Nat, i ≤ n ∧ v20 = .int .i64 (i : Int) ∧ (∀ q, q < i → trmAt La q = trmAt Lb q) ∧ Below (w.heap.size + 2) w0 wr) (fun _ _ _ _ _ v20 _ => n - (intOf v20).toNat)
    case atStart => exact ⟨0, by omega, rfl, (fun q hq => absurd hq (by omega)), Below.refl _ _⟩
    case round =>
      obtain ⟨i, hi, rfl, hq, hbl⟩ := hrel
      rename World => wo
      have HQ := Lib.hid hq
      have HBL := Lib.hid hbl
      have hbw : Below w.heap.size w wo := HB0.out.trans (hbl.mono (by omega))
      have hso := hbl.size
      have hso2 : w.heap.size + 2 ≤ wo.heap.size := by have := HS0.out; omega
      have cB := ((HBB.out.below' hbl (by omega)).cell 0).trans (show _ = some (Value.slice B m k) from rfl)
      have HBW := Lib.hid hbw
      clear hq hbl hso hbw
      by_cases hlt : i < n
      · obtain ⟨b, off, rfl, hbb, hc⟩ := HA.out (by omega)
        obtain ⟨b', off', rfl, hbb', hc'⟩ := HB.out (by have := HNM.out; omega)
        have hta := (hc i hlt).keep (S := (· < w.heap.size)) (HBW.out.block b hbb) (fun g hg => HBW.out.block g hg)
        have htb := (hc' i (by have := HNM.out; omega)).keep (S := (· < w.heap.size)) (HBW.out.block b' hbb') (fun g hg => HBW.out.block g hg)
        have hla : (trmAt La i).args.length ≤ 1000000 := HKA.out _ (trmAt_mem (by have := HN.out; omega))
        have hlb : (trmAt Lb i).args.length ≤ 1000000 := HKB.out _ (trmAt_mem (by have := HNM.out; have := HM.out; omega))
        obtain ⟨ta, hta'⟩ : ∃ ta, trmAt La i = ta := ⟨_, rfl⟩
        obtain ⟨tb, htb'⟩ : ∃ tb, trmAt Lb i = tb := ⟨_, rfl⟩
        rw [hta'] at hta hla
        rw [htb'] at htb hlb
        obtain ⟨k1, n1', y1, f1, x1, a1⟩ := ta
        obtain ⟨k2, n2', y2, f2, x2, a2⟩ := tb
        obtain ⟨c0, c1, c2, c3, c4, u, c5, hu⟩ := hta
        obtain ⟨d0, d1, d2, d3, d4, u', d5, hu'⟩ := htb
        dsimp only at c0 c1 c2 c3 c4 d0 d1 d2 d3 d4 hu hu' hla hlb
        obtain ⟨A1, q1, e1, rfl, hq1, hqe1, hA1⟩ := hu
        obtain ⟨A2, q2, e2, rfl, hq2, hqe2, hA2⟩ := hu'
        have zi : (i : Int) < (n : Int) := by omega
        have zj : (i : Int) < (m : Int) := by have := HNM.out; omega
        have hbl' : b' < wo.heap.size := by omega
        have D0 : ∀ o : Obj, (wo.alloc o).cell? ⟨b', off' + i * 6, none⟩ = some (.int .i64 k2) := fun o => (World.cell?_alloc_lt wo o ⟨b', off' + i * 6, none⟩ hbl').trans d0
        have D1 : ∀ o : Obj, (wo.alloc o).cell? ⟨b', off' + i * 6 + 1, none⟩ = some (.int .i64 n2') := fun o => (World.cell?_alloc_lt wo o ⟨b', off' + i * 6 + 1, none⟩ hbl').trans d1
        have D2 : ∀ o : Obj, (wo.alloc o).cell? ⟨b', off' + i * 6 + 2, none⟩ = some (.int .i64 y2) := fun o => (World.cell?_alloc_lt wo o ⟨b', off' + i * 6 + 2, none⟩ hbl').trans d2
        have D3 : ∀ o : Obj, (wo.alloc o).cell? ⟨b', off' + i * 6 + 3, none⟩ = some (.string f2) := fun o => (World.cell?_alloc_lt wo o ⟨b', off' + i * 6 + 3, none⟩ hbl').trans d3
        have D4 : ∀ o : Obj, (wo.alloc o).cell? ⟨b', off' + i * 6 + 4, none⟩ = some (.string x2) := fun o => (World.cell?_alloc_lt wo o ⟨b', off' + i * 6 + 4, none⟩ hbl').trans d4
        have D5 : ∀ o : Obj, (wo.alloc o).cell? ⟨b', off' + i * 6 + 5, none⟩ = some (.slice A2 q2 e2) := fun o => (World.cell?_alloc_lt wo o ⟨b', off' + i * 6 + 5, none⟩ hbl').trans d5
        have CB : ∀ o : Obj, (wo.alloc o).cell? ⟨w.heap.size + 1, 0, none⟩ = some (.slice (some ⟨b', off', none⟩) m k) := fun o => (World.cell?_alloc_lt wo o ⟨w.heap.size + 1, 0, none⟩ (by show w.heap.size + 1 < _; omega)).trans cB
        have HTA := Lib.hid hta'
        have HTB := Lib.hid htb'
        have q1m : q1 ≤ 1000000 := by omega
        have q2m : q2 ≤ 1000000 := by omega
        have HQ1 := Lib.hid hq1
        have HQ2 := Lib.hid hq2
        have HA1 := Lib.hid hA1
        have HA2 := Lib.hid hA2
        clear hta' htb' hq1 hq2 hA1 hA2 hc hc' cB d0 d1 d2 d3 d4 d5
        go_upto_region 7 with fail
        have hx1 : Blk ((wo.alloc (.cells #[.int .i64 k1, .int .i64 n1', .int .i64 y1, .string f1, .string x1, .slice A1 q1 e1] 46)).alloc (.cells #[.int .i64 k2, .int .i64 n2', .int .i64 y2, .string f2, .string x2, .slice A2 q2 e2] 46)) wo.heap.size 46 #[.int .i64 k1, .int .i64 n1', .int .i64 y1, .string f1, .string x1, .slice A1 q1 e1] := (Blk.new wo _ _).alloc _
        have hx2 : Blk ((wo.alloc (.cells #[.int .i64 k1, .int .i64 n1', .int .i64 y1, .string f1, .string x1, .slice A1 q1 e1] 46)).alloc (.cells #[.int .i64 k2, .int .i64 n2', .int .i64 y2, .string f2, .string x2, .slice A2 q2 e2] 46)) (wo.heap.size + 1) 46 #[.int .i64 k2, .int .i64 n2', .int .i64 y2, .string f2, .string x2, .slice A2 q2 e2] := by
          have := Blk.new (wo.alloc (.cells #[.int .i64 k1, .int .i64 n1', .int .i64 y1, .string f1, .string x1, .slice A1 q1 e1] 46)) 46 #[.int .i64 k2, .int .i64 n2', .int .i64 y2, .string f2, .string x2, .slice A2 q2 e2]
          rwa [World.size_alloc] at this
        have hbx : Below wo.heap.size wo ((wo.alloc (.cells #[.int .i64 k1, .int .i64 n1', .int .i64 y1, .string f1, .string x1, .slice A1 q1 e1] 46)).alloc (.cells #[.int .i64 k2, .int .i64 n2', .int .i64 y2, .string f2, .string x2, .slice A2 q2 e2] 46)) := ((Below.refl _ _).alloc (Nat.le_refl _) _).alloc (by simp) _
        obtain ⟨wx, hwx⟩ : ∃ wx, (wo.alloc (.cells #[.int .i64 k1, .int .i64 n1', .int .i64 y1, .string f1, .string x1, .slice A1 q1 e1] 46)).alloc (.cells #[.int .i64 k2, .int .i64 n2', .int .i64 y2, .string f2, .string x2, .slice A2 q2 e2] 46) = wx := ⟨_, rfl⟩
        rw [hwx] at hx1 hx2 hbx ⊢
        clear hwx D0 D1 D2 D3 D4 D5 CB c0 c1 c2 c3 c4 c5
        have X0 := (hx1.cell 0).trans (show _ = some (Value.int .i64 k1) from rfl)
        have Y0 := (hx2.cell 0).trans (show _ = some (Value.int .i64 k2) from rfl)
        have X1 := (hx1.cell 1).trans (show _ = some (Value.int .i64 n1') from rfl)
        have Y1 := (hx2.cell 1).trans (show _ = some (Value.int .i64 n2') from rfl)
        have X2 := (hx1.cell 2).trans (show _ = some (Value.int .i64 y1) from rfl)
        have Y2 := (hx2.cell 2).trans (show _ = some (Value.int .i64 y2) from rfl)
        have X3 := (hx1.cell 3).trans (show _ = some (Value.string f1) from rfl)
        have Y3 := (hx2.cell 3).trans (show _ = some (Value.string f2) from rfl)
        have X4 := (hx1.cell 4).trans (show _ = some (Value.string x1) from rfl)
        have Y4 := (hx2.cell 4).trans (show _ = some (Value.string x2) from rfl)
        have X5 := (hx1.cell 5).trans (show _ = some (Value.slice A1 q1 e1) from rfl)
        have Y5 := (hx2.cell 5).trans (show _ = some (Value.slice A2 q2 e2) from rfl)
        have HX := Lib.hid (HBW.out.trans (hbx.mono (by omega)))
        have HX2 := Lib.hid (HBL.out.trans (hbx.mono (by omega)))
        have HXO := Lib.hid hbx
        clear hx1 hx2 hbx
        by_cases e1 : k1 = k2
        · have g1 : (k1 != k2) = false := by simp [e1]
          have He1 := Lib.hid e1
          clear e1
          by_cases e2 : n1' = n2'
          · have g2 : (n1' != n2') = false := by simp [e2]
            have He2 := Lib.hid e2
            clear e2
            by_cases e3 : y1 = y2
            · have g3 : (y1 != y2) = false := by simp [e3]
              have He3 := Lib.hid e3
              clear e3
              by_cases e4 : f1 = f2
              · have g4 : (f1.toList == f2.toList) = true := seq_true e4
                have He4 := Lib.hid e4
                clear e4
                by_cases e5 : x1 = x2
                · have g5 : (x1.toList == x2.toList) = true := seq_true e5
                  have He5 := Lib.hid e5
                  clear e5
                  by_cases e6 : q1 = q2
                  · have g6 : ((q1 : Int) != (q2 : Int)) = false := by simp; omega
                    have He6 := Lib.hid e6
                    clear e6
                    go_wp2_with fail
                    go_loopw [8, 9, 75] (fun v8 v9 v75 wq => ∃ j : Nat, j ≤ q1 ∧ v75 = .int .i64 (j : Int) ∧ (∀ q, q < j → a1.getD q 0 = a2.getD q 0) ∧ wx = wq) (fun _ _ v75 _ => q1 - (intOf v75).toNat)
                    case atStart => exact ⟨0, by omega, rfl, (fun q hq => absurd hq (by omega)), rfl⟩
                    case round =>
                      obtain ⟨j, hj, rfl, hq, rfl⟩ := hrel
                      have HJ := Lib.hid hq
                      clear hq
                      by_cases hjl : j < q1
                      · obtain ⟨p, o, rfl, hp, hcp⟩ := HA1.out (by omega)
                        obtain ⟨p', o', rfl, hp', hcp'⟩ := HA2.out (by have := He6.out; omega)
                        have r0 : wx.cell? ⟨p, o + j, none⟩ = _ := (HXO.out.cell (p := ⟨p, o + j, none⟩) (by have hp2 : p < w.heap.size := hp; show p < _; omega)).trans (hcp j hjl)
                        have r1 : wx.cell? ⟨p', o' + j, none⟩ = _ := (HXO.out.cell (p := ⟨p', o' + j, none⟩) (by have hp2 : p' < w.heap.size := hp'; show p' < _; omega)).trans (hcp' j (by have := He6.out; omega))
                        have s0 : (j : Int) < (q1 : Int) := by omega
                        have s1 : (j : Int) < (q2 : Int) := by have := He6.out; omega
                        obtain ⟨x, hx⟩ : ∃ x, a1.getD j 0 = x := ⟨_, rfl⟩
                        obtain ⟨y, hy⟩ : ∃ y, a2.getD j 0 = y := ⟨_, rfl⟩
                        rw [hx] at r0
                        rw [hy] at r1
                        have HXX := Lib.hid hx
                        have HYY := Lib.hid hy
                        clear hx hy hcp hcp'
                        by_cases hxy : x = y
                        · have t1 : ((y : Int) != x) = false := by simp [hxy]
                          have HXY := Lib.hid hxy
                          clear hxy
                          go_wp2_with fail
                          go_roundw
                          case measure => simp [intOf]; omega
                          case rel => exact ⟨j + 1, by omega, by go_num, (fun q hq => by
                            rcases Nat.lt_or_ge q j with h | h
                            · exact HJ.out q h
                            · have : q = j := by omega
                              subst this; rw [HXX.out, HYY.out]; exact HXY.out), by first | rfl | trivial⟩
                        · have t1 : ((y : Int) != x) = true := by rw [bne_iff_ne]; exact fun h => hxy h.symm
                          go_wp2_with fail
                          go_ret
                          refine ⟨false, rfl, iff_of_false (by simp) (fun e => ?_), HX.out⟩
                          have h9 := (HTA.out.symm.trans (congrArg (fun L => trmAt L i) e)).trans HTB.out
                          injection h9 with j1 j2 j3 j4 j5 j6
                          exact hxy (by rw [← HXX.out, ← HYY.out, j6])
                      · have hjk : j = q1 := by omega
                        have s0 : ¬ (j : Int) < (q1 : Int) := by omega
                        have HJK := Lib.hid hjk
                        clear hjk
                        go_wp2_with fail
                        go_roundw
                        case measure => simp [intOf]; omega
                        case rel =>
                          refine ⟨i + 1, by omega, by go_num, (fun q hq => ?_), HX2.out⟩
                          rcases Nat.lt_or_ge q i with h | h
                          · exact HQ.out q h
                          · have : q = i := by omega
                            subst this
                            rw [HTA.out, HTB.out, He1.out, He2.out, He3.out, He4.out, He5.out, ints_eq (xs := a1) (ys := a2) (by rw [← HQ1.out, ← HQ2.out]; exact He6.out) (fun q hq => HJ.out q (by rw [HJK.out, HQ1.out]; exact hq))]
                  · have g6 : ((q1 : Int) != (q2 : Int)) = true := by rw [bne_iff_ne]; omega
                    go_wp2_with fail
                    go_ret
                    refine ⟨false, rfl, iff_of_false (by simp) (fun e => ?_), HX.out⟩
                    have h9 := (HTA.out.symm.trans (congrArg (fun L => trmAt L i) e)).trans HTB.out
                    injection h9 with j1 j2 j3 j4 j5 j6
                    exact e6 (by rw [HQ1.out, HQ2.out, j6])
                · have g5 : (x1.toList == x2.toList) = false := seq_false (fun h => e5 (blOf_inj h))
                  go_wp2_with fail
                  go_ret
                  refine ⟨false, rfl, iff_of_false (by simp) (fun e => ?_), HX.out⟩
                  have h9 := (HTA.out.symm.trans (congrArg (fun L => trmAt L i) e)).trans HTB.out
                  injection h9 with j1 j2 j3 j4 j5 j6
                  exact e5 j5
              · have g4 : (f1.toList == f2.toList) = false := seq_false (fun h => e4 (blOf_inj h))
                go_wp2_with fail
                go_ret
                refine ⟨false, rfl, iff_of_false (by simp) (fun e => ?_), HX.out⟩
                have h9 := (HTA.out.symm.trans (congrArg (fun L => trmAt L i) e)).trans HTB.out
                injection h9 with j1 j2 j3 j4 j5 j6
                exact e4 j4
            · have g3 : (y1 != y2) = true := by rw [bne_iff_ne]; exact e3
              go_wp2_with fail
              go_ret
              refine ⟨false, rfl, iff_of_false (by simp) (fun e => ?_), HX.out⟩
              have h9 := (HTA.out.symm.trans (congrArg (fun L => trmAt L i) e)).trans HTB.out
              injection h9 with j1 j2 j3 j4 j5 j6
              exact e3 j3
          · have g2 : (n1' != n2') = true := by rw [bne_iff_ne]; exact e2
            go_wp2_with fail
            go_ret
            refine ⟨false, rfl, iff_of_false (by simp) (fun e => ?_), HX.out⟩
            have h9 := (HTA.out.symm.trans (congrArg (fun L => trmAt L i) e)).trans HTB.out
            injection h9 with j1 j2 j3 j4 j5 j6
            exact e2 j2
        · have g1 : (k1 != k2) = true := by rw [bne_iff_ne]; exact e1
          go_wp2_with fail
          go_ret
          refine ⟨false, rfl, iff_of_false (by simp) (fun e => ?_), HX.out⟩
          have h9 := (HTA.out.symm.trans (congrArg (fun L => trmAt L i) e)).trans HTB.out
          injection h9 with j1 j2 j3 j4 j5 j6
          exact e1 j1
      · have hin : i = n := by omega
        have s0 : ¬ (i : Int) < (n : Int) := by omega
        have HIN := Lib.hid hin
        clear hin
        go_wp2_with fail
        go_ret
        exact ⟨true, rfl, iff_of_true rfl (trms_eq (by rw [← HN.out, ← HM.out]; exact HNM.out) (fun q hq => HQ.out q (by rw [HIN.out, HN.out]; exact hq))), HBW.out⟩
  · have t0 : ((n : Int) != (m : Int)) = true := by rw [bne_iff_ne]; omega
    go_enter Tryz.func52, Tryz.ntmps52
    go_wp2_with fail
    go_ret
    exact ⟨false, rfl, iff_of_false (by simp) (fun e => hnm (by rw [HN.out, HM.out, e])), HB0.out⟩
end Go.Proofs.YtgbhaaongmlpkaaGreatDoor
namespace Go.Proofs.YtgbhaaongmlpkaaGreatDoor
open Go.RowKit Num

def KWordPost (b n : Nat) (ss : Nat → ByteArray) (w : World) (e : Ending) (w' : World) : Prop := ∃ r : Nat, r < n ∧ e = .returned (.string (ss r)) ∧ Dc w' b ∧ w.grownBy w' (some b)
set_option maxHeartbeats 1000000 in
theorem k_WordK (b g off n c : Nat) (ss : Nat → ByteArray) (w : World) (hd : Dc w b) (hg : g < w.heap.size) (hne : g ≠ b) (h1 : 1 ≤ n) (h2 : n ≤ 1000000) (hc : ∀ i, i < n → w.cell? ⟨g, off + i, none⟩ = some (.string (ss i))) :
    Calls Tryz.prog 18 #[.pointer (some ⟨b, 0, none⟩), .slice (some ⟨g, off, none⟩) n c] w (KWordPost b n ss w) := by
  have HC := Lib.hid hc
  have HD := Lib.hid hd
  clear hc hd
  go_enter Tryz.func18, Tryz.ntmps18
  go_wp2_with fail
  refine (k_Next b n _ HD.out h1 (by omega)).mono ?_
  rintro e w1 ⟨r, hr, rfl, hd1, hg1⟩
  have hcell : w1.cell? ⟨g, off + r, none⟩ = some (.string (ss r)) := (World.cell?_of_block (hg1.block g hg (by intro e; injection e with e; exact hne e))).trans (HC.out r hr)
  have HD1 := Lib.hid hd1
  have HG1 := Lib.hid hg1
  have qr : (r : Int) < (n : Int) := by omega
  have q0 : (0 : Int) ≤ (r : Int) := by omega
  clear hd1 hg1
  go_wp2_with fail
  go_ret
  exact ⟨r, hr, rfl, HD1.out, HG1.out⟩
end Go.Proofs.YtgbhaaongmlpkaaGreatDoor
