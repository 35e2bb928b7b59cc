/- The walk of the law: what phrases are stretched to. -/
import Derived.Test.YtjfphobfikadlaaGreatDoorZ41
set_option linter.unusedVariables false
set_option linter.unusedSimpArgs false
namespace Go.Proofs.YtjfphobfikadlaaGreatDoor
open Go.RowKit Num

set_option maxRecDepth 100000 in
set_option maxHeartbeats 2000000 in
theorem l_Stretch (phrase salt : ByteArray) (n : Int) (w : World) (hw : BasesOk w) (hp : phrase.size ≤ 9223372036854775807) (hs : salt.size ≤ 9223372036854775807) :
    Calls Tryz.prog 3 #[.string phrase, .string salt, .int .i64 n] w (BoolBelow true w) := by
  have haw := fun (W : World) (hW : Below w.heap.size w W) => f_awake W (hw.below hW)
  unfold BoolBelow at haw
  have HAW := Lib.hid haw
  by_cases h1 : 300 < phrase.size
  · have t1 : decide ((300 : Int) < (phrase.size : Int)) = true := decide_eq_true (by omega)
    clear h1 haw hw
    go_enter Tryz.func3, Tryz.ntmps3
    go_wp2_with fail
    refine (HAW.out _ (Below.refl _ _)).mono ?_
    rintro e w1 ⟨rfl, hb1⟩
    go_wp2_with fail
    go_ret
    exact ⟨rfl, hb1⟩
  · have t1 : decide ((300 : Int) < (phrase.size : Int)) = false := decide_eq_false (by omega)
    by_cases h2 : 300 < salt.size
    · have t2 : decide ((300 : Int) < (salt.size : Int)) = true := decide_eq_true (by omega)
      clear h1 h2 haw hw
      go_enter Tryz.func3, Tryz.ntmps3
      go_wp2_with fail
      refine (HAW.out _ (Below.refl _ _)).mono ?_
      rintro e w1 ⟨rfl, hb1⟩
      go_wp2_with fail
      go_ret
      exact ⟨rfl, hb1⟩
    · have t2 : decide ((300 : Int) < (salt.size : Int)) = false := decide_eq_false (by omega)
      have hf := fun (x : Int) W => f_Stretch phrase salt x W (by omega) (by omega)
      have hr := fun (x : Int) W => r_Stretch phrase salt x W (by omega) (by omega)
      have hl := fun W => f_Lock phrase W (by omega)
      have hsum := fun W => rf_Sum phrase W (by omega)
      have hmod := fun W => k_Mod n 20 W (by decide) (by decide)
      unfold StretchPost at hf hr
      have HF := Lib.hid hf
      have HRR := Lib.hid hr
      have HL := Lib.hid hl
      have HSUM := Lib.hid hsum
      have HMOD := Lib.hid hmod
      have hz : w.heap.size < (w.alloc (.cells #[.int .i64 n, .int .i64 (n % 20)] 3)).heap.size := by simp
      have hba := (Below.refl w.heap.size w).alloc (Nat.le_refl _) (.cells #[.int .i64 n, .int .i64 (n % 20)] 3)
      have kb : Blk (w.alloc (.cells #[.int .i64 n, .int .i64 (n % 20)] 3)) w.heap.size 3 #[.int .i64 n, .int .i64 (n % 20)] := Blk.new w _ _
      have HBA := Lib.hid hba
      have KB := Lib.hid kb
      clear hf hr hl hsum hmod h1 h2 haw hw hba kb
      go_enter Tryz.func3, Tryz.ntmps3
      go_wp2_with fail
      refine (HMOD.out _).mono ?_
      rintro e w' ⟨rfl, rfl⟩
      go_wp2_with fail
      go_loopw [27] (fun t wr => ∃ k : Nat, k ≤ 2 ∧ t = .int .i64 (k : Int) ∧ Blk wr w.heap.size 3 #[.int .i64 n, .int .i64 (n % 20)] ∧ Below w.heap.size w wr) (fun t _ => 2 - (intOf t).toNat)
      case atStart => exact ⟨0, by omega, rfl, KB.out, HBA.out⟩
      case round =>
        obtain ⟨k, hk, rfl, hkb, hbl⟩ := hrel
        have hlt := hkb.lt
        have HKB := Lib.hid hkb
        have HBL := Lib.hid hbl
        rcases (show k = 0 ∨ k = 1 ∨ k = 2 by omega) with rfl | rfl | rfl
        · have c0 : wr.cell? ⟨w.heap.size, 0, none⟩ = some (.int .i64 n) := hkb.cell 0
          clear hkb hbl
          go_wp2_with fail
          refine (HF.out n _).mono ?_
          rintro e w2 ⟨rfl, hb2⟩
          go_wp2_with fail
          refine (HRR.out n _).mono ?_
          rintro e w3 ⟨rfl, hb3⟩
          have hb := hb2.trans (hb3.mono hb2.size)
          have HB := Lib.hid hb
          clear hb2 hb3 hb
          generalize strR phrase salt n = R at *
          generalize strE phrase salt n = E at *
          go_wp2_with fail
          go_roundw
          case measure => simp [intOf]
          case rel => exact ⟨1, by omega, rfl, HKB.out.below HB.out hlt, HBL.out.trans (HB.out.mono HBL.out.size)⟩
        · have c0 : wr.cell? ⟨w.heap.size, 1, none⟩ = some (.int .i64 (n % 20)) := hkb.cell 1
          clear hkb hbl
          obtain ⟨m, hm⟩ : ∃ m, n % 20 = m := ⟨_, rfl⟩
          rw [hm] at c0
          have HM := Lib.hid hm
          clear hm
          go_wp2_with fail
          refine (HF.out m _).mono ?_
          rintro e w2 ⟨rfl, hb2⟩
          go_wp2_with fail
          refine (HRR.out m _).mono ?_
          rintro e w3 ⟨rfl, hb3⟩
          have hb := hb2.trans (hb3.mono hb2.size)
          have HB := Lib.hid hb
          clear hb2 hb3 hb
          generalize strR phrase salt m = R at *
          generalize strE phrase salt m = E at *
          go_wp2_with fail
          go_roundw
          case measure => simp [intOf]
          case rel => exact ⟨2, by omega, rfl, HKB.out.below HB.out hlt, HBL.out.trans (HB.out.mono HBL.out.size)⟩
        · clear hkb hbl
          go_wp2_with fail
          refine (HAW.out _ HBL.out).mono ?_
          rintro e w2 ⟨rfl, hb2⟩
          have HB2 := Lib.hid (HBL.out.trans (hb2.mono HBL.out.size))
          clear hb2
          go_wp2_with fail
          refine (HL.out _).mono ?_
          rintro e w3 ⟨rfl, hb3⟩
          have HB3 := Lib.hid (HB2.out.trans (hb3.mono HB2.out.size))
          clear hb3
          go_wp2_with fail
          refine (HSUM.out _).mono ?_
          rintro e w4 ⟨rfl, hb4⟩
          have HB4 := Lib.hid (HB3.out.trans (hb4.mono HB3.out.size))
          clear hb4
          go_wp2_with fail
          go_ret
          exact ⟨rfl, HB4.out⟩
end Go.Proofs.YtjfphobfikadlaaGreatDoor
