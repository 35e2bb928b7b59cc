/- Contract: the reference says that the same shares are the same. -/
import Derived.Test.YtgeahbmaeaoeeaaGreatDoorCoGood
import Derived.Test.YtgeahbmaeaoeeaaGreatDoorKitWord
import Derived.BigQuiet
set_option linter.unusedVariables false
set_option linter.unusedSimpArgs false
namespace Go.Proofs.YtgeahbmaeaoeeaaGreatDoor
open Go.RowKit Num

set_option maxRecDepth 100000 in
set_option maxHeartbeats 4000000 in
theorem r_SameSh (v u : Value) (L : List Sh) (S T : Nat → Prop) (w : World) (hv : ShAt w S v L) (hu : ShAt w T u L) (hS : ∀ b, S b → b < w.heap.size) (hT : ∀ b, T b → b < w.heap.size) (hl : L.length ≤ 1000) (hll : ∀ k, k < L.length → (shAt L k).2.length ≤ 1000000) :
    Calls Tryz.prog 13 #[v, u] w (BoolBelow true w) := by
  obtain ⟨A, n, c, rfl, hn, hnc, hc⟩ := id hv
  obtain ⟨A2, n2, c2, rfl, hn2, hnc2, hc2⟩ := id hu
  have hnn : n2 = n := by omega
  subst hnn
  have hn1 : n2 ≤ 1000 := by omega
  have HN := Lib.hid hn
  have HC := Lib.hid hc
  have HC2 := Lib.hid hc2
  have HLL := Lib.hid hll
  have HSS := Lib.hid hS
  have HTT := Lib.hid hT
  clear hv hu hn hn2 hc hc2 hl hll hS hT
  go_enter Tryz.func13, Tryz.ntmps13
  go_wp2_with fail
  go_loopw [14] (fun t wr => ∃ k : Nat, k ≤ n2 ∧ t = .int .i64 k ∧ Below w.heap.size w wr) (fun t _ => n2 - (intOf t).toNat)
  case atStart => exact ⟨0, by omega, rfl, Below.refl _ _⟩
  case round =>
    rename World => wo
    obtain ⟨k, hk, rfl, hbl⟩ := hrel
    have hzz := hbl.size
    by_cases hlt : k < n2
    · obtain ⟨b, off, rfl, hSb, hcell⟩ := HC.out (by omega)
      obtain ⟨b2, off2, rfl, hTb, hcell2⟩ := HC2.out (by omega)
      obtain ⟨u1, y0, y1, hyu⟩ := hcell k hlt
      obtain ⟨u2, z0, z1, hzu⟩ := hcell2 k hlt
      have hlk := HLL.out k (by rw [← HN.out]; exact hlt)
      have hsm : ∀ W, Below w.heap.size w W → Calls Tryz.prog 30 #[u1, u2] W fun e w' => e = .returned (.bool true) ∧ W = w' := fun W hW => by
        have := r_Same u1 u2 (shAt L k).2 (shAt L k).2 S T W (hyu.keep fun b hb => hW.block b (HSS.out b hb)) (hzu.keep fun b hb => hW.block b (HTT.out b hb)) hlk hlk
        rwa [decide_eq_true rfl] at this
      have bS := HSS.out b hSb
      have bT := HTT.out b2 hTb
      obtain ⟨Ay, ny, cy, rfl, -, -, -⟩ := id hyu
      obtain ⟨Az, nz, cz, rfl, -, -, -⟩ := id hzu
      obtain ⟨G, hG⟩ : ∃ G, (shAt L k).1 = G := ⟨_, rfl⟩
      rw [hG] at y0 z0
      have r0 := (hbl.cell (p := ⟨b, off + k * 2, none⟩) bS).trans y0
      have r1 := (hbl.cell (p := ⟨b, off + k * 2 + 1, none⟩) bS).trans y1
      have q0 := (hbl.cell (p := ⟨b2, off2 + k * 2, none⟩) bT).trans z0
      have q1 := (hbl.cell (p := ⟨b2, off2 + k * 2 + 1, none⟩) bT).trans z1
      have t0 : (G != G) = false := by simp
      have qk : (k : Int) < (n2 : Int) := by omega
      have qk0 : (0 : Int) ≤ (k : Int) := by omega
      have HSM := Lib.hid hsm
      have HBL := Lib.hid hbl
      have zb : b2 < wo.heap.size := by omega
      clear hcell hcell2 y0 y1 z0 z1 hyu hzu hlk hsm hG hbl
      go_wp2_with fail
      have ha : Below wo.heap.size wo (wo.alloc (.cells #[.int .i64 G, .slice Ay ny cy] 36)) := (Below.refl _ _).alloc (Nat.le_refl _) _
      have t2 : (wo.alloc (.cells #[.int .i64 G, .slice Ay ny cy] 36)).cell? ⟨wo.heap.size, 0, none⟩ = some (.int .i64 G) := by rw [World.cell?_alloc_new]; rfl
      have t1 : (wo.alloc (.cells #[.int .i64 G, .slice Ay ny cy] 36)).cell? ⟨wo.heap.size, 1, none⟩ = some (.slice Ay ny cy) := by rw [World.cell?_alloc_new]; rfl
      have t3 := (ha.cell (p := ⟨b2, off2 + k * 2, none⟩) zb).trans q0
      have t4 := (ha.cell (p := ⟨b2, off2 + k * 2 + 1, none⟩) zb).trans q1
      have hb2 := HBL.out.trans (ha.mono hzz)
      generalize (wo.alloc (.cells #[.int .i64 G, .slice Ay ny cy] 36)) = W1 at *
      have hz1 : wo.heap.size < W1.heap.size := World.block_lt_of_cell? _ _ t2
      have mk : ∀ W : World, Below W1.heap.size W1 W → W.cell? ⟨wo.heap.size, 0, none⟩ = some (.int .i64 G) ∧ W.cell? ⟨wo.heap.size, 1, none⟩ = some (.slice Ay ny cy) ∧ W.cell? ⟨b2, off2 + k * 2, none⟩ = some (.int .i64 G) ∧ W.cell? ⟨b2, off2 + k * 2 + 1, none⟩ = some (.slice Az nz cz) ∧ Hid (Below W1.heap.size W1 W) := fun W hW =>
        ⟨(hW.cell (p := ⟨wo.heap.size, 0, none⟩) hz1).trans t2, (hW.cell (p := ⟨wo.heap.size, 1, none⟩) hz1).trans t1, (hW.cell (p := ⟨b2, off2 + k * 2, none⟩) (by simp; omega)).trans t3, (hW.cell (p := ⟨b2, off2 + k * 2 + 1, none⟩) (by simp; omega)).trans t4, Lib.hid hW⟩
      have MK := Lib.hid mk
      have HB2 := Lib.hid hb2
      clear mk hb2 ha r0 r1 q0 q1 t1 t2 t3 t4
      go_region_held3 (fun W => W.cell? ⟨wo.heap.size, 0, none⟩ = some (.int .i64 G) ∧ W.cell? ⟨wo.heap.size, 1, none⟩ = some (.slice Ay ny cy) ∧ W.cell? ⟨b2, off2 + k * 2, none⟩ = some (.int .i64 G) ∧ W.cell? ⟨b2, off2 + k * 2 + 1, none⟩ = some (.slice Az nz cz) ∧ Hid (Below W1.heap.size W1 W))
        (first
          | exact HP.out
          | exact MK.out _ (Below.refl _ _).drew)
        (first
          | (go_at_call 30
             (with_reducible refine (HSM.out _ (HB2.out.trans (((Below.refl W1.heap.size W1).drew).mono HB2.out.size))).mono ?_)
             rintro e wk ⟨rfl, rfl⟩
             have HP := Lib.hid (MK.out _ (Below.refl W1.heap.size W1).drew)))
      have HP2 := HP.out
      go_split_ands
      go_wp2_with fail
      go_roundw
      case measure => simp [intOf]; omega
      case rel => exact ⟨k + 1, by omega, by go_num, ⟨HB2.out.os, HB2.out.tape, HB2.out.output, HB2.out.size, HB2.out.block⟩⟩
    · have hkk : k = n2 := by omega
      subst hkk
      have HBL := Lib.hid hbl
      clear hbl
      go_wp2_with fail
      go_ret
      exact ⟨rfl, HBL.out⟩
end Go.Proofs.YtgeahbmaeaoeeaaGreatDoor
