/- Contracts: which fields are right, the program's and the reference's. Contracts: fields are found by their names, by the program and by the reference. -/
import Derived.Test.YtaljcojkcgjmcaaGreatDoorX35
import Derived.Test.YtaljcojkcgjmcaaGreatDoorX37
import Derived.Test.YtaljcojkcgjmcaaGreatDoorX12
import Derived.Test.YtaljcojkcgjmcaaGreatDoorX10
set_option linter.unusedVariables false
set_option linter.unusedSimpArgs false
namespace Go.Proofs.YtaljcojkcgjmcaaGreatDoor
open Go.RowKit Num

theorem optsB_len {L : List ByteArray} (h : ¬ L.length ≤ 16) : optsB L = false := decide_eq_false fun hg => h hg.2.2
set_option maxRecDepth 100000 in
set_option maxHeartbeats 4000000 in
theorem f_right (nm : ByteArray) (kd : Int) (nd : Bool) (le mo : Int) (op : List ByteArray) (u : Value) (S : Nat → Prop) (w : World) (hu : TxsAt w S u op) (hS : ∀ b, S b → b < w.heap.size) (hok : FldOk ⟨nm, kd, nd, le, mo, op⟩) :
    Calls Tryz.prog 47 #[.agg #[.string nm, .int .i64 kd, .bool nd, .int .i64 le, .int .i64 mo, u]] w (BoolBel (fldB ⟨nm, kd, nd, le, mo, op⟩) w) := by
  obtain ⟨A, n, c, rfl, hn, hnc, hcc⟩ := id hu
  have hb0 : Below w.heap.size w (w.alloc (.cells #[.string nm, .int .i64 kd, .bool nd, .int .i64 le, .int .i64 mo, .slice A n c] 54)) := (Below.refl _ _).alloc (Nat.le_refl _) _
  have hsz : (w.alloc (.cells #[.string nm, .int .i64 kd, .bool nd, .int .i64 le, .int .i64 mo, .slice A n c] 54)).heap.size = w.heap.size + 1 := by simp
  have hbk : Blk (w.alloc (.cells #[.string nm, .int .i64 kd, .bool nd, .int .i64 le, .int .i64 mo, .slice A n c] 54)) w.heap.size 54 #[.string nm, .int .i64 kd, .bool nd, .int .i64 le, .int .i64 mo, .slice A n c] := Blk.new w _ _
  obtain ⟨g1, g2, g3, g4, g5, g6, g7, g8, g9⟩ := hok
  simp only at g1 g2 g3 g4 g5 g6 g7 g8 g9
  have hop : ∀ W : World, Below w.heap.size w W → Calls Tryz.prog 68 #[.slice A n c] W fun e w' => e = .returned (.bool (optsB op)) ∧ W = w' := fun W hb => f_options (.slice A n c) op S W (hu.keep fun b hB => hb.block b (hS b hB)) (fun b hB => Nat.lt_of_lt_of_le (hS b hB) hb.size) g2 (fun k hk => g9 _ (by rw [List.getD_eq_getElem?_getD, List.getElem?_eq_getElem hk]; exact List.getElem_mem hk))
  have hnm := fun (W : World) (hb : Below w.heap.size w W) => f_Name nm W g1
  have HB0 := Lib.hid hb0
  have HBK := Lib.hid hbk
  have HOP := Lib.hid hop
  have HNM := Lib.hid hnm
  have HN := Lib.hid hn
  clear hn hb0 hbk hop hnm hcc hu hS g9
  cases hnn : nameB (blOf nm)
  · have HNN := Lib.hid hnn
    have he : fldB ⟨nm, kd, nd, le, mo, op⟩ = false := by unfold fldB; simp [HNN.out]
    have HE := Lib.hid he
    clear he
    go_enter Tryz.func47, Tryz.ntmps47
    go_wp2_with fail
    refine (HNM.out _ HB0.out).mono ?_
    rw [HNN.out]
    rintro e w1 ⟨rfl, hb1⟩
    have hb2 := HB0.out.trans (hb1.mono (by omega))
    have hk1 := HBK.out.below' hb1 (by omega)
    have c0 := (hk1.cell 0).trans (show _ = some (Value.string nm) from rfl)
    have c1 := (hk1.cell 1).trans (show _ = some (Value.int .i64 kd) from rfl)
    have c3 := (hk1.cell 3).trans (show _ = some (Value.int .i64 le) from rfl)
    have c4 := (hk1.cell 4).trans (show _ = some (Value.int .i64 mo) from rfl)
    have c5 := (hk1.cell 5).trans (show _ = some (Value.slice A n c) from rfl)
    have HB2 := Lib.hid hb2
    clear hb1 hb2 hk1
    go_wp2_with fail
    go_ret
    exact ⟨by rw [HE.out]; first | rfl | (simp [HNN.out]), HB2.out⟩
  · have HNN := Lib.hid hnn
    clear hnn
    by_cases a1 : mo < le
    · have a2 : ¬ le ≤ mo := by omega
      have he : fldB ⟨nm, kd, nd, le, mo, op⟩ = false := by unfold fldB; simp [HNN.out, a2]
      have HE := Lib.hid he
      clear he
      go_enter Tryz.func47, Tryz.ntmps47
      go_wp2_with fail
      refine (HNM.out _ HB0.out).mono ?_
      rw [HNN.out]
      rintro e w1 ⟨rfl, hb1⟩
      have hb2 := HB0.out.trans (hb1.mono (by omega))
      have hk1 := HBK.out.below' hb1 (by omega)
      have c0 := (hk1.cell 0).trans (show _ = some (Value.string nm) from rfl)
      have c1 := (hk1.cell 1).trans (show _ = some (Value.int .i64 kd) from rfl)
      have c3 := (hk1.cell 3).trans (show _ = some (Value.int .i64 le) from rfl)
      have c4 := (hk1.cell 4).trans (show _ = some (Value.int .i64 mo) from rfl)
      have c5 := (hk1.cell 5).trans (show _ = some (Value.slice A n c) from rfl)
      have HB2 := Lib.hid hb2
      clear hb1 hb2 hk1
      go_wp2_with fail
      go_ret
      exact ⟨by rw [HE.out]; first | rfl | (simp [HNN.out]), HB2.out⟩
    have a2 : le ≤ mo := by omega
    by_cases b1 : kd = 4
    · subst b1
      by_cases e1 : le = 0
      · subst e1
        by_cases e2 : mo = 0
        · subst e2
          by_cases e3 : n ≤ 16
          · have e4 : (n : Int) ≤ 16 := by omega
            have he : fldB ⟨nm, 4, nd, 0, 0, op⟩ = optsB op := by unfold fldB; simp [HNN.out, a2]
            have HE := Lib.hid he
            clear he
            go_enter Tryz.func47, Tryz.ntmps47
            go_wp2_with fail
            refine (HNM.out _ HB0.out).mono ?_
            rw [HNN.out]
            rintro e w1 ⟨rfl, hb1⟩
            have hb2 := HB0.out.trans (hb1.mono (by omega))
            have hk1 := HBK.out.below' hb1 (by omega)
            have c0 := (hk1.cell 0).trans (show _ = some (Value.string nm) from rfl)
            have c1 := (hk1.cell 1).trans (show _ = some (Value.int .i64 4) from rfl)
            have c3 := (hk1.cell 3).trans (show _ = some (Value.int .i64 0) from rfl)
            have c4 := (hk1.cell 4).trans (show _ = some (Value.int .i64 0) from rfl)
            have c5 := (hk1.cell 5).trans (show _ = some (Value.slice A n c) from rfl)
            have HB2 := Lib.hid hb2
            clear hb1 hb2 hk1
            go_wp2_with fail
            refine (HOP.out _ HB2.out).mono ?_
            rintro e w3 ⟨rfl, rfl⟩
            go_wp2_with fail
            go_ret
            exact ⟨by rw [HE.out]; first | rfl | (simp [HNN.out]), HB2.out⟩
          · have e4 : ¬ (n : Int) ≤ 16 := by omega
            have e5 := optsB_len (L := op) (by have := HN.out; omega)
            have HE5 := Lib.hid e5
            clear e5
            have he : fldB ⟨nm, 4, nd, 0, 0, op⟩ = false := by unfold fldB; simp [HNN.out, a2, HE5.out]
            have HE := Lib.hid he
            clear he
            go_enter Tryz.func47, Tryz.ntmps47
            go_wp2_with fail
            refine (HNM.out _ HB0.out).mono ?_
            rw [HNN.out]
            rintro e w1 ⟨rfl, hb1⟩
            have hb2 := HB0.out.trans (hb1.mono (by omega))
            have hk1 := HBK.out.below' hb1 (by omega)
            have c0 := (hk1.cell 0).trans (show _ = some (Value.string nm) from rfl)
            have c1 := (hk1.cell 1).trans (show _ = some (Value.int .i64 4) from rfl)
            have c3 := (hk1.cell 3).trans (show _ = some (Value.int .i64 0) from rfl)
            have c4 := (hk1.cell 4).trans (show _ = some (Value.int .i64 0) from rfl)
            have c5 := (hk1.cell 5).trans (show _ = some (Value.slice A n c) from rfl)
            have HB2 := Lib.hid hb2
            clear hb1 hb2 hk1
            go_wp2_with fail
            go_ret
            exact ⟨by rw [HE.out]; first | rfl | (simp [HNN.out]), HB2.out⟩
        · skip
          have he : fldB ⟨nm, 4, nd, 0, mo, op⟩ = false := by unfold fldB; simp [HNN.out, a2, e2]
          have HE := Lib.hid he
          clear he
          go_enter Tryz.func47, Tryz.ntmps47
          go_wp2_with fail
          refine (HNM.out _ HB0.out).mono ?_
          rw [HNN.out]
          rintro e w1 ⟨rfl, hb1⟩
          have hb2 := HB0.out.trans (hb1.mono (by omega))
          have hk1 := HBK.out.below' hb1 (by omega)
          have c0 := (hk1.cell 0).trans (show _ = some (Value.string nm) from rfl)
          have c1 := (hk1.cell 1).trans (show _ = some (Value.int .i64 4) from rfl)
          have c3 := (hk1.cell 3).trans (show _ = some (Value.int .i64 0) from rfl)
          have c4 := (hk1.cell 4).trans (show _ = some (Value.int .i64 mo) from rfl)
          have c5 := (hk1.cell 5).trans (show _ = some (Value.slice A n c) from rfl)
          have HB2 := Lib.hid hb2
          clear hb1 hb2 hk1
          go_wp2_with fail
          go_ret
          exact ⟨by rw [HE.out]; first | rfl | (simp [HNN.out]), HB2.out⟩
      · skip
        have he : fldB ⟨nm, 4, nd, le, mo, op⟩ = false := by unfold fldB; simp [HNN.out, a2, e1]
        have HE := Lib.hid he
        clear he
        go_enter Tryz.func47, Tryz.ntmps47
        go_wp2_with fail
        refine (HNM.out _ HB0.out).mono ?_
        rw [HNN.out]
        rintro e w1 ⟨rfl, hb1⟩
        have hb2 := HB0.out.trans (hb1.mono (by omega))
        have hk1 := HBK.out.below' hb1 (by omega)
        have c0 := (hk1.cell 0).trans (show _ = some (Value.string nm) from rfl)
        have c1 := (hk1.cell 1).trans (show _ = some (Value.int .i64 4) from rfl)
        have c3 := (hk1.cell 3).trans (show _ = some (Value.int .i64 le) from rfl)
        have c4 := (hk1.cell 4).trans (show _ = some (Value.int .i64 mo) from rfl)
        have c5 := (hk1.cell 5).trans (show _ = some (Value.slice A n c) from rfl)
        have HB2 := Lib.hid hb2
        clear hb1 hb2 hk1
        go_wp2_with fail
        go_ret
        exact ⟨by rw [HE.out]; first | rfl | (simp [HNN.out]), HB2.out⟩
    have b7 : (kd == 4) = false := by simpa using b1
    have b8 : (kd != 4) = true := by simpa using b1
    by_cases b2 : n = 0
    · have b3 : ¬ (0 : Int) < (n : Int) := by omega
      have b4 : op.length = 0 := by have := HN.out; omega
      have HB4 := Lib.hid b4
      clear b4 b2
      by_cases f1 : kd = 1
      · clear b7 b8
        subst f1
        by_cases f2 : 0 ≤ le
        · by_cases f3 : mo ≤ 16384
          · skip
            have he : fldB ⟨nm, 1, nd, le, mo, op⟩ = true := by unfold fldB; simp [HNN.out, a2, HB4.out, f2, f3]
            have HE := Lib.hid he
            clear he
            go_enter Tryz.func47, Tryz.ntmps47
            go_wp2_with fail
            refine (HNM.out _ HB0.out).mono ?_
            rw [HNN.out]
            rintro e w1 ⟨rfl, hb1⟩
            have hb2 := HB0.out.trans (hb1.mono (by omega))
            have hk1 := HBK.out.below' hb1 (by omega)
            have c0 := (hk1.cell 0).trans (show _ = some (Value.string nm) from rfl)
            have c1 := (hk1.cell 1).trans (show _ = some (Value.int .i64 1) from rfl)
            have c3 := (hk1.cell 3).trans (show _ = some (Value.int .i64 le) from rfl)
            have c4 := (hk1.cell 4).trans (show _ = some (Value.int .i64 mo) from rfl)
            have c5 := (hk1.cell 5).trans (show _ = some (Value.slice A n c) from rfl)
            have HB2 := Lib.hid hb2
            clear hb1 hb2 hk1
            go_wp2_with fail
            go_ret
            exact ⟨by rw [HE.out]; first | rfl | (simp [f2, f3]), HB2.out⟩
          · skip
            have he : fldB ⟨nm, 1, nd, le, mo, op⟩ = false := by unfold fldB; simp [HNN.out, a2, HB4.out, f2, f3]
            have HE := Lib.hid he
            clear he
            go_enter Tryz.func47, Tryz.ntmps47
            go_wp2_with fail
            refine (HNM.out _ HB0.out).mono ?_
            rw [HNN.out]
            rintro e w1 ⟨rfl, hb1⟩
            have hb2 := HB0.out.trans (hb1.mono (by omega))
            have hk1 := HBK.out.below' hb1 (by omega)
            have c0 := (hk1.cell 0).trans (show _ = some (Value.string nm) from rfl)
            have c1 := (hk1.cell 1).trans (show _ = some (Value.int .i64 1) from rfl)
            have c3 := (hk1.cell 3).trans (show _ = some (Value.int .i64 le) from rfl)
            have c4 := (hk1.cell 4).trans (show _ = some (Value.int .i64 mo) from rfl)
            have c5 := (hk1.cell 5).trans (show _ = some (Value.slice A n c) from rfl)
            have HB2 := Lib.hid hb2
            clear hb1 hb2 hk1
            go_wp2_with fail
            go_ret
            exact ⟨by rw [HE.out]; first | rfl | (simp [f2, f3]), HB2.out⟩
        · skip
          have he : fldB ⟨nm, 1, nd, le, mo, op⟩ = false := by unfold fldB; simp [HNN.out, a2, HB4.out, f2]
          have HE := Lib.hid he
          clear he
          go_enter Tryz.func47, Tryz.ntmps47
          go_wp2_with fail
          refine (HNM.out _ HB0.out).mono ?_
          rw [HNN.out]
          rintro e w1 ⟨rfl, hb1⟩
          have hb2 := HB0.out.trans (hb1.mono (by omega))
          have hk1 := HBK.out.below' hb1 (by omega)
          have c0 := (hk1.cell 0).trans (show _ = some (Value.string nm) from rfl)
          have c1 := (hk1.cell 1).trans (show _ = some (Value.int .i64 1) from rfl)
          have c3 := (hk1.cell 3).trans (show _ = some (Value.int .i64 le) from rfl)
          have c4 := (hk1.cell 4).trans (show _ = some (Value.int .i64 mo) from rfl)
          have c5 := (hk1.cell 5).trans (show _ = some (Value.slice A n c) from rfl)
          have HB2 := Lib.hid hb2
          clear hb1 hb2 hk1
          go_wp2_with fail
          go_ret
          exact ⟨by rw [HE.out]; first | rfl | (simp [f2]), HB2.out⟩
      rename ¬ kd = 1 => h1
      have i1 : (kd == 1) = false := by simpa using h1
      by_cases f1 : kd = 2
      · clear b7 b8
        subst f1
        have he : fldB ⟨nm, 2, nd, le, mo, op⟩ = true := by unfold fldB; simp [HNN.out, a2, HB4.out]
        have HE := Lib.hid he
        clear he
        go_enter Tryz.func47, Tryz.ntmps47
        go_wp2_with fail
        refine (HNM.out _ HB0.out).mono ?_
        rw [HNN.out]
        rintro e w1 ⟨rfl, hb1⟩
        have hb2 := HB0.out.trans (hb1.mono (by omega))
        have hk1 := HBK.out.below' hb1 (by omega)
        have c0 := (hk1.cell 0).trans (show _ = some (Value.string nm) from rfl)
        have c1 := (hk1.cell 1).trans (show _ = some (Value.int .i64 2) from rfl)
        have c3 := (hk1.cell 3).trans (show _ = some (Value.int .i64 le) from rfl)
        have c4 := (hk1.cell 4).trans (show _ = some (Value.int .i64 mo) from rfl)
        have c5 := (hk1.cell 5).trans (show _ = some (Value.slice A n c) from rfl)
        have HB2 := Lib.hid hb2
        clear hb1 hb2 hk1
        go_wp2_with fail
        go_ret
        exact ⟨by rw [HE.out]; first | rfl | (simp [HNN.out]), HB2.out⟩
      rename ¬ kd = 2 => h2
      have i2 : (kd == 2) = false := by simpa using h2
      by_cases f1 : kd = 3
      · clear b7 b8
        subst f1
        by_cases f2 : 0 ≤ le
        · by_cases f3 : mo ≤ 3652058
          · skip
            have he : fldB ⟨nm, 3, nd, le, mo, op⟩ = true := by unfold fldB; simp [HNN.out, a2, HB4.out, f2, f3]
            have HE := Lib.hid he
            clear he
            go_enter Tryz.func47, Tryz.ntmps47
            go_wp2_with fail
            refine (HNM.out _ HB0.out).mono ?_
            rw [HNN.out]
            rintro e w1 ⟨rfl, hb1⟩
            have hb2 := HB0.out.trans (hb1.mono (by omega))
            have hk1 := HBK.out.below' hb1 (by omega)
            have c0 := (hk1.cell 0).trans (show _ = some (Value.string nm) from rfl)
            have c1 := (hk1.cell 1).trans (show _ = some (Value.int .i64 3) from rfl)
            have c3 := (hk1.cell 3).trans (show _ = some (Value.int .i64 le) from rfl)
            have c4 := (hk1.cell 4).trans (show _ = some (Value.int .i64 mo) from rfl)
            have c5 := (hk1.cell 5).trans (show _ = some (Value.slice A n c) from rfl)
            have HB2 := Lib.hid hb2
            clear hb1 hb2 hk1
            go_wp2_with fail
            go_ret
            exact ⟨by rw [HE.out]; first | rfl | (simp [f2, f3]), HB2.out⟩
          · skip
            have he : fldB ⟨nm, 3, nd, le, mo, op⟩ = false := by unfold fldB; simp [HNN.out, a2, HB4.out, f2, f3]
            have HE := Lib.hid he
            clear he
            go_enter Tryz.func47, Tryz.ntmps47
            go_wp2_with fail
            refine (HNM.out _ HB0.out).mono ?_
            rw [HNN.out]
            rintro e w1 ⟨rfl, hb1⟩
            have hb2 := HB0.out.trans (hb1.mono (by omega))
            have hk1 := HBK.out.below' hb1 (by omega)
            have c0 := (hk1.cell 0).trans (show _ = some (Value.string nm) from rfl)
            have c1 := (hk1.cell 1).trans (show _ = some (Value.int .i64 3) from rfl)
            have c3 := (hk1.cell 3).trans (show _ = some (Value.int .i64 le) from rfl)
            have c4 := (hk1.cell 4).trans (show _ = some (Value.int .i64 mo) from rfl)
            have c5 := (hk1.cell 5).trans (show _ = some (Value.slice A n c) from rfl)
            have HB2 := Lib.hid hb2
            clear hb1 hb2 hk1
            go_wp2_with fail
            go_ret
            exact ⟨by rw [HE.out]; first | rfl | (simp [f2, f3]), HB2.out⟩
        · skip
          have he : fldB ⟨nm, 3, nd, le, mo, op⟩ = false := by unfold fldB; simp [HNN.out, a2, HB4.out, f2]
          have HE := Lib.hid he
          clear he
          go_enter Tryz.func47, Tryz.ntmps47
          go_wp2_with fail
          refine (HNM.out _ HB0.out).mono ?_
          rw [HNN.out]
          rintro e w1 ⟨rfl, hb1⟩
          have hb2 := HB0.out.trans (hb1.mono (by omega))
          have hk1 := HBK.out.below' hb1 (by omega)
          have c0 := (hk1.cell 0).trans (show _ = some (Value.string nm) from rfl)
          have c1 := (hk1.cell 1).trans (show _ = some (Value.int .i64 3) from rfl)
          have c3 := (hk1.cell 3).trans (show _ = some (Value.int .i64 le) from rfl)
          have c4 := (hk1.cell 4).trans (show _ = some (Value.int .i64 mo) from rfl)
          have c5 := (hk1.cell 5).trans (show _ = some (Value.slice A n c) from rfl)
          have HB2 := Lib.hid hb2
          clear hb1 hb2 hk1
          go_wp2_with fail
          go_ret
          exact ⟨by rw [HE.out]; first | rfl | (simp [f2]), HB2.out⟩
      rename ¬ kd = 3 => h3
      have i3 : (kd == 3) = false := by simpa using h3
      have he : fldB ⟨nm, kd, nd, le, mo, op⟩ = false := by unfold fldB; simp [HNN.out, a2, HB4.out, b1, h1, h2, h3]
      have HE := Lib.hid he
      clear he
      go_enter Tryz.func47, Tryz.ntmps47
      go_wp2_with fail
      refine (HNM.out _ HB0.out).mono ?_
      rw [HNN.out]
      rintro e w1 ⟨rfl, hb1⟩
      have hb2 := HB0.out.trans (hb1.mono (by omega))
      have hk1 := HBK.out.below' hb1 (by omega)
      have c0 := (hk1.cell 0).trans (show _ = some (Value.string nm) from rfl)
      have c1 := (hk1.cell 1).trans (show _ = some (Value.int .i64 kd) from rfl)
      have c3 := (hk1.cell 3).trans (show _ = some (Value.int .i64 le) from rfl)
      have c4 := (hk1.cell 4).trans (show _ = some (Value.int .i64 mo) from rfl)
      have c5 := (hk1.cell 5).trans (show _ = some (Value.slice A n c) from rfl)
      have HB2 := Lib.hid hb2
      clear hb1 hb2 hk1
      go_wp2_with fail
      go_ret
      exact ⟨by rw [HE.out]; first | rfl | (simp [HNN.out]), HB2.out⟩
    · have b3 : (0 : Int) < (n : Int) := by omega
      have b4 : ¬ op.length = 0 := by have := HN.out; omega
      have b5 : ¬ op = [] := fun h => b4 (by rw [h]; rfl)
      have HB4 := Lib.hid b4
      have HB5 := Lib.hid b5
      have b6 : 0 < n := by omega
      clear b4 b5 b2
      have he : fldB ⟨nm, kd, nd, le, mo, op⟩ = false := by unfold fldB; simp [HNN.out, a2, b1, HB4.out, HB5.out]
      have HE := Lib.hid he
      clear he
      go_enter Tryz.func47, Tryz.ntmps47
      go_wp2_with fail
      refine (HNM.out _ HB0.out).mono ?_
      rw [HNN.out]
      rintro e w1 ⟨rfl, hb1⟩
      have hb2 := HB0.out.trans (hb1.mono (by omega))
      have hk1 := HBK.out.below' hb1 (by omega)
      have c0 := (hk1.cell 0).trans (show _ = some (Value.string nm) from rfl)
      have c1 := (hk1.cell 1).trans (show _ = some (Value.int .i64 kd) from rfl)
      have c3 := (hk1.cell 3).trans (show _ = some (Value.int .i64 le) from rfl)
      have c4 := (hk1.cell 4).trans (show _ = some (Value.int .i64 mo) from rfl)
      have c5 := (hk1.cell 5).trans (show _ = some (Value.slice A n c) from rfl)
      have HB2 := Lib.hid hb2
      clear hb1 hb2 hk1
      go_wp2_with fail
      go_ret
      exact ⟨by rw [HE.out]; first | rfl | (simp [HNN.out]), HB2.out⟩
end Go.Proofs.YtaljcojkcgjmcaaGreatDoor
namespace Go.Proofs.YtaljcojkcgjmcaaGreatDoor
open Go.RowKit Num

/-- The first field with a name. -/
def fstF (L : List Fld) (s : ByteArray) : Option Nat := (List.range L.length).find? fun k => decide ((fldAt L k).name = s)
theorem fstF_hit {L : List Fld} {s : ByteArray} {k : Nat} (hk : k < L.length) (h1 : (fldAt L k).name = s) (h2 : ∀ j, j < k → (fldAt L j).name ≠ s) : fstF L s = some k := by
  unfold fstF
  rw [List.find?_eq_some_iff_getElem]
  refine ⟨by simpa using h1, k, by simpa using hk, by simp, fun j hj => by simpa using h2 j hj⟩
theorem fstF_miss {L : List Fld} {s : ByteArray} (h : ∀ j, j < L.length → (fldAt L j).name ≠ s) : fstF L s = none := by
  unfold fstF
  rw [List.find?_eq_none]
  intro j hj
  simpa using h j (List.mem_range.1 hj)
def idxI : Option Nat → Int
  | some k => (k : Int)
  | none => -1
def FndE (L : List Fld) (s : ByteArray) (w : World) (e : Ending) (w' : World) : Prop := e = .returned (.tuple #[.int .i64 ((((fstF L s).getD 0 : Nat)) : Int), .bool (fstF L s).isSome]) ∧ Below w.heap.size w w'
theorem infoFd : (Tryz.prog.info? 54).map (fun i => (i.zero, i.size, i.bytes)) = some (some (.agg #[.string ⟨#[]⟩, .int .i64 0, .bool false, .int .i64 0, .int .i64 0, .slice none 0 0]), 6, 72) := by kernel_rfl
set_option maxRecDepth 100000 in
set_option maxHeartbeats 1000000 in
theorem f_sameN (nm s : ByteArray) (kd : Int) (nd : Bool) (le mo : Int) (A : Option Addr) (n c pb : Nat) (w : World) (hp : w.cell? ⟨pb, 0, none⟩ = some (.string s)) (hpb : pb < w.heap.size) (b : Bool) (hb : (nm.toList == s.toList) = b) :
    Calls Tryz.prog 66 #[.agg #[.string nm, .int .i64 kd, .bool nd, .int .i64 le, .int .i64 mo, .slice A n c], .pointer (some ⟨pb, 0, none⟩)] w (BoolBel b w) := by
  have hp2 : (w.alloc (.cells #[.string nm, .int .i64 kd, .bool nd, .int .i64 le, .int .i64 mo, .slice A n c] 54)).cell? ⟨pb, 0, none⟩ = some (.string s) := (World.cell?_alloc_lt w _ ⟨pb, 0, none⟩ hpb).trans hp
  cases b
  all_goals
    go_enter Tryz.func66, Tryz.ntmps66
    go_wp2_with fail
    go_ret
    exact ⟨rfl, (Below.refl _ _).alloc (Nat.le_refl _) _⟩
set_option maxRecDepth 100000 in
set_option maxHeartbeats 1000000 in
theorem s_IndexF (v : Value) (L : List Fld) (S : Nat → Prop) (s : ByteArray) (pb : Nat) (w : World) (hv : FldsAt w S v L) (hS : ∀ b, S b → b < w.heap.size) (hl : L.length ≤ 1000000) (hp : w.cell? ⟨pb, 0, none⟩ = some (.string s)) (hpb : pb < w.heap.size) :
    Calls Tryz.prog 65 #[v, .func (.func 66) #[] #[.pointer (some ⟨pb, 0, none⟩)]] w fun e w' => e = .returned (.int .i64 (idxI (fstF L s))) ∧ Below w.heap.size w w' := by
  obtain ⟨A, n, c, rfl, hn, hnc, hc⟩ := hv
  have HC := Lib.hid hc
  have HN := Lib.hid hn
  have HS := Lib.hid hS
  have HP := Lib.hid hp
  have hn1 : n ≤ 1000000 := by omega
  clear hc hn hS hl hp
  go_enter Tryz.func65, Tryz.ntmps65
  go_wp2_with fail
  go_loopw [8] (fun v8 wr => ∃ k : Nat, k ≤ n ∧ v8 = .int .i64 (k : Int) ∧ (∀ j, j < k → (fldAt L j).name ≠ s) ∧ Below w.heap.size w wr) (fun v8 _ => n - (intOf v8).toNat)
  case atStart => exact ⟨0, by omega, rfl, fun j hj => absurd hj (Nat.not_lt_zero _), Below.refl _ _⟩
  case round =>
    obtain ⟨k, hk, rfl, hne, hb⟩ := hrel
    have HNE := Lib.hid hne
    have HB := Lib.hid hb
    have hsz := hb.size
    clear hne hb
    by_cases hlt : k < n
    · obtain ⟨b, off, rfl, hSb, hcell⟩ := HC.out (by omega)
      have hbw := HS.out b hSb
      have hf := hcell k hlt
      have hhit := fun h1 => fstF_hit (L := L) (s := s) (k := k) (by have := HN.out; omega) h1 HNE.out
      have hstep : (fldAt L k).name ≠ s → ∀ j, j < k + 1 → (fldAt L j).name ≠ s := fun h j hj => by
        by_cases e : j = k
        · subst e; exact h
        · exact HNE.out j (by omega)
      obtain ⟨f, hfe⟩ : ∃ f, fldAt L k = f := ⟨_, rfl⟩
      rw [hfe] at hf hhit hstep
      obtain ⟨nm, kd, nd, le, mo, op⟩ := f
      have HH := Lib.hid hhit
      have HST := Lib.hid hstep
      clear hhit hstep hfe hcell
      obtain ⟨c0, c1, c2, c3, c4, u, c5, hu⟩ := hf
      obtain ⟨Au, nu, cu, rfl, -⟩ := hu
      have e0 : wr.cell? ⟨b, off + k * 6, none⟩ = _ := (HB.out.cell (p := ⟨b, off + k * 6, none⟩) hbw).trans c0
      have e1 : wr.cell? ⟨b, off + k * 6 + 1, none⟩ = _ := (HB.out.cell (p := ⟨b, off + k * 6 + 1, none⟩) hbw).trans c1
      have e2 : wr.cell? ⟨b, off + k * 6 + 2, none⟩ = _ := (HB.out.cell (p := ⟨b, off + k * 6 + 2, none⟩) hbw).trans c2
      have e3 : wr.cell? ⟨b, off + k * 6 + 3, none⟩ = _ := (HB.out.cell (p := ⟨b, off + k * 6 + 3, none⟩) hbw).trans c3
      have e4 : wr.cell? ⟨b, off + k * 6 + 4, none⟩ = _ := (HB.out.cell (p := ⟨b, off + k * 6 + 4, none⟩) hbw).trans c4
      have e5 : wr.cell? ⟨b, off + k * 6 + 5, none⟩ = _ := (HB.out.cell (p := ⟨b, off + k * 6 + 5, none⟩) hbw).trans c5
      have hp' : wr.cell? ⟨pb, 0, none⟩ = some (.string s) := (HB.out.cell (p := ⟨pb, 0, none⟩) hpb).trans HP.out
      have HP' := Lib.hid hp'
      have zi : (k : Int) < (n : Int) := by omega
      have z0 : (0 : Int) ≤ (k : Int) := by omega
      clear c0 c1 c2 c3 c4 c5 hp'
      by_cases hs : nm = s
      · have he := HH.out hs
        have HE := Lib.hid he
        have hq : (nm.toList == s.toList) = true := seq_true hs
        have HQ := Lib.hid hq
        clear he hs hq
        go_wp2_with fail
        refine (f_sameN nm s kd nd le mo Au nu cu pb _ HP'.out (by omega) true HQ.out).mono ?_
        rintro e w1 ⟨rfl, hb1⟩
        have HB1 := Lib.hid (HB.out.trans (hb1.mono (by omega)))
        clear hb1
        go_wp2_with fail
        go_ret
        exact ⟨by rw [HE.out]; rfl, HB1.out⟩
      · have hst := HST.out hs
        have HST2 := Lib.hid hst
        have hq : (nm.toList == s.toList) = false := seq_false (fun h => hs (blOf_inj h))
        have HQ := Lib.hid hq
        clear hst hs hq
        go_wp2_with fail
        refine (f_sameN nm s kd nd le mo Au nu cu pb _ HP'.out (by omega) false HQ.out).mono ?_
        rintro e w1 ⟨rfl, hb1⟩
        have HB1 := Lib.hid (HB.out.trans (hb1.mono (by omega)))
        clear hb1
        go_wp2_with fail
        go_roundw
        case measure => simp [intOf]; omega
        case rel => exact ⟨k + 1, by omega, by go_num, HST2.out, HB1.out⟩
    · have zi : ¬ (k : Int) < (n : Int) := by omega
      have he : fstF L s = none := fstF_miss fun j hj => HNE.out j (by have := HN.out; omega)
      have HE := Lib.hid he
      clear he
      go_wp2_with fail
      go_ret
      exact ⟨by rw [HE.out]; rfl, HB.out⟩
set_option maxRecDepth 100000 in
set_option maxHeartbeats 1000000 in
theorem f_Find (title s : ByteArray) (v : Value) (L : List Fld) (S : Nat → Prop) (w : World) (hv : FldsAt w S v L) (hS : ∀ b, S b → b < w.heap.size) (hl : L.length ≤ 1000000) :
    Calls Tryz.prog 46 #[.agg #[.string title, v], .string s] w (FndE L s w) := by
  obtain ⟨A, n, c, rfl, -⟩ := id hv
  have hb2 : Below w.heap.size w ((w.alloc (.cells #[.string title, .slice A n c] 37)).alloc (.cells #[.string s] 9)) := ((Below.refl _ _).alloc (Nat.le_refl _) _).alloc (by simp) _
  have hp : ((w.alloc (.cells #[.string title, .slice A n c] 37)).alloc (.cells #[.string s] 9)).cell? ⟨w.heap.size + 1, 0, none⟩ = some (.string s) := by
    have := (Blk.new (w.alloc (.cells #[.string title, .slice A n c] 37)) 9 #[.string s]).cell 0
    rw [World.size_alloc] at this
    exact this
  have hix := s_IndexF (.slice A n c) L S s (w.heap.size + 1) _ (hv.keep fun b hb => hb2.block b (hS b hb)) (fun b hb => Nat.lt_of_lt_of_le (hS b hb) hb2.size) hl hp (by simp)
  have HX := Lib.hid hix
  have HB2 := Lib.hid hb2
  clear hix hb2 hp hv
  cases hf : fstF L s with
  | none =>
    rw [hf] at HX
    have HF := Lib.hid hf
    clear hf
    rw [show idxI none = -1 from rfl] at HX
    go_enter Tryz.func46, Tryz.ntmps46
    go_wp2_with fail
    refine HX.out.mono ?_
    rintro e w1 ⟨rfl, hb1⟩
    have HB1 := Lib.hid (HB2.out.trans (hb1.mono HB2.out.size))
    have hm : max (-1 : Int) 0 = 0 := by decide
    clear hb1
    go_wp2_with fail
    go_ret2
    exact ⟨by rw [HF.out]; rfl, HB1.out⟩
  | some k =>
    rw [hf] at HX
    have HF := Lib.hid hf
    clear hf
    rw [show idxI (some k) = (k : Int) from rfl] at HX
    go_enter Tryz.func46, Tryz.ntmps46
    go_wp2_with fail
    refine HX.out.mono ?_
    rintro e w1 ⟨rfl, hb1⟩
    have HB1 := Lib.hid (HB2.out.trans (hb1.mono HB2.out.size))
    have hm : max (k : Int) 0 = (k : Int) := by omega
    have z0 : (0 : Int) ≤ (k : Int) := by omega
    clear hb1
    go_wp2_with fail
    go_ret2
    exact ⟨by rw [HF.out]; rfl, HB1.out⟩
end Go.Proofs.YtaljcojkcgjmcaaGreatDoor
