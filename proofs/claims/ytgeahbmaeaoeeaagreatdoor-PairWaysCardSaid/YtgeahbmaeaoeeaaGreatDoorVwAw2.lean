/- Contract: the sanity check of chapter 41. -/
import Derived.Test.YtgeahbmaeaoeeaaGreatDoorVwAwk
set_option linter.unusedVariables false
set_option linter.unusedSimpArgs false
namespace Go.Proofs.YtgeahbmaeaoeeaaGreatDoor
open Go.RowKit Num

theorem prm5 : Prm 5 := prm_of (f := 1) (by decide) (by decide) (by decide)
theorem prm7 : Prm 7 := prm_of (f := 1) (by decide) (by decide) (by decide)
theorem prm11 : Prm 11 := prm_of (f := 2) (by decide) (by decide) (by decide)
theorem plan11 : PlanP 11 3 4 := ⟨prm11, by decide, by decide, by decide, by decide, by decide⟩
theorem ris2 : RisP [2] 1 ((4 : Nat) : Int) := fun i hi => by
  have hi1 : i < 1 := hi
  obtain rfl : i = 0 := by omega
  exact ⟨by decide, fun h => absurd h (by decide)⟩
theorem ris123 : RisP [1, 2, 3] 1 ((4 : Nat) : Int) := fun i hi => by
  have hi1 : i < 3 := hi
  rcases (show i = 0 ∨ i = 1 ∨ i = 2 by omega) with rfl | rfl | rfl
  · exact ⟨by decide, fun h => absurd h (by decide)⟩
  · exact ⟨by decide, fun _ => by decide⟩
  · exact ⟨by decide, fun _ => by decide⟩
theorem IntsAt.blk {w : World} {g : Nat} {xs : List Int} {S : Nat → Prop} (h : Blk w g 3 (xs.map (Value.int .i64)).toArray) (hS : S g) : IntsAt w S (.slice (some ⟨g, 0, none⟩) xs.length xs.length) xs :=
  ⟨_, _, _, rfl, rfl, Nat.le_refl _, fun _ => ⟨g, 0, rfl, hS, fun k hk => by
    rw [Nat.zero_add, h.cell k, List.getElem?_toArray, List.getElem?_map, List.getElem?_eq_getElem hk, List.getD_eq_getElem?_getD, List.getElem?_eq_getElem hk]; rfl⟩⟩
theorem cont_new (W : World) : Blk (W.alloc (.cells #[.int .i64 0, .int .i64 0, .bool false, .int .i64 0, .string ⟨#[]⟩, .int .i64 0, .int .i64 0, .slice none 0 0, .slice none 0 0, .slice none 0 0] 63)) W.heap.size 63 cont0 := Blk.new _ _ _
theorem cont_keep {w' : World} (W : World) (h : Below (W.alloc (.cells #[.int .i64 0, .int .i64 0, .bool false, .int .i64 0, .string ⟨#[]⟩, .int .i64 0, .int .i64 0, .slice none 0 0, .slice none 0 0, .slice none 0 0] 63)).heap.size (W.alloc (.cells #[.int .i64 0, .int .i64 0, .bool false, .int .i64 0, .string ⟨#[]⟩, .int .i64 0, .int .i64 0, .slice none 0 0, .slice none 0 0, .slice none 0 0] 63)) w') : Blk w' W.heap.size 63 cont0 := (cont_new W).below h (by simp)
theorem bal {w0 W : World} (h : Below w0.heap.size w0 W) (o : Obj) : Below w0.heap.size w0 (W.alloc o) := h.alloc h.size o
set_option maxRecDepth 100000 in
set_option maxHeartbeats 8000000 in
theorem a_awake (w : World) (hw : BasesOk w) : Calls Tryz.prog 6 #[] w (BoolBelow true w) := by
  have hb0 := ((Below.refl w.heap.size w).alloc (Nat.le_refl _) (.cells #[.int .i64 2] 3)).alloc (by simp) (.cells #[.slice (some ⟨w.heap.size, 0, none⟩) 1 1, .slice none 0 0, .slice none 0 0, .slice none 0 0] 44)
  have hib := (Blk.new w 3 #[.int .i64 2]).alloc (.cells #[.slice (some ⟨w.heap.size, 0, none⟩) 1 1, .slice none 0 0, .slice none 0 0, .slice none 0 0] 44)
  have hvb := Blk.new (w.alloc (.cells #[.int .i64 2] 3)) 44 #[.slice (some ⟨w.heap.size, 0, none⟩) 1 1, .slice none 0 0, .slice none 0 0, .slice none 0 0]
  rw [World.size_alloc] at hvb
  obtain ⟨w0, hw0⟩ : ∃ w0, (w.alloc (.cells #[.int .i64 2] 3)).alloc (.cells #[.slice (some ⟨w.heap.size, 0, none⟩) 1 1, .slice none 0 0, .slice none 0 0, .slice none 0 0] 44) = w0 := ⟨_, rfl⟩
  rw [hw0] at hb0 hib hvb
  have hH : IntsAt w0 (· < w0.heap.size) (.slice (some ⟨w.heap.size, 0, none⟩) 1 1) [2] := IntsAt.blk (xs := [2]) hib hib.lt
  have hw1 := hw.below hb0
  have hoth : ∀ W, Below w0.heap.size w0 W → Calls Tryz.prog 18 #[.agg #[.int .i64 11, .int .i64 3, .int .i64 4], .agg #[.slice (some ⟨w.heap.size, 0, none⟩) 1 1, .slice none 0 0, .slice none 0 0, .slice none 0 0], .slice none 0 0, .int .i64 8] W fun e w' => (∃ A d, e = .returned (.tuple #[.slice A 0 d, .int .i64 0])) ∧ Below W.heap.size W w' := fun W hW =>
    q_OtherE 11 3 4 (some ⟨w.heap.size, 0, none⟩) none 1 1 0 0 0 0 8 [2] W (hw1.below hW) plan11 (hH.up hW) (by decide) ris2
  have hway : ∀ W, Below w0.heap.size w0 W → Calls Tryz.prog 12 #[.agg #[.int .i64 11, .int .i64 3, .int .i64 4], .agg #[.slice (some ⟨w.heap.size, 0, none⟩) 1 1, .slice none 0 0, .slice none 0 0, .slice none 0 0]] W (WaysE 1 0 W) := fun W hW =>
    q_WaysT 11 3 4 (some ⟨w.heap.size, 0, none⟩) none none none 1 1 0 0 0 0 0 0 [2] [] W (hw1.below hW) plan11 (hH.up hW) (SeensAt.none_ _ _ _) (by decide) (by decide) ⟨ris2, fun k hk => absurd hk (Nat.not_lt_zero k), fun k _ hk => absurd hk (Nat.not_lt_zero k)⟩ (fun k hk => absurd hk (Nat.not_lt_zero k))
  have hway3 : ∀ W g, Below w0.heap.size w0 W → Blk W g 3 #[.int .i64 1, .int .i64 2, .int .i64 3] → Calls Tryz.prog 12 #[.agg #[.int .i64 11, .int .i64 3, .int .i64 4], .agg #[.slice (some ⟨g, 0, none⟩) 3 3, .slice none 0 0, .slice none 0 0, .slice none 0 0]] W (WaysE 0 3 W) := fun W g hW hg =>
    q_WaysL 11 3 4 (some ⟨g, 0, none⟩) none none none 3 3 0 0 0 0 0 0 [1, 2, 3] [] W (hw1.below hW) plan11 (IntsAt.blk (xs := [1, 2, 3]) hg hg.lt) (SeensAt.none_ _ _ _) (by decide) (by decide) (by decide) ⟨ris123, fun k hk => absurd hk (Nat.not_lt_zero k), fun k _ hk => absurd hk (Nat.not_lt_zero k)⟩
  have hfit0 : ∀ W, Below w0.heap.size w0 W → Calls Tryz.prog 20 #[.agg #[.int .i64 11, .int .i64 3, .int .i64 4], .agg #[.slice (some ⟨w.heap.size, 0, none⟩) 1 1, .slice none 0 0, .slice none 0 0, .slice none 0 0], .slice none 0 0, .int .i64 8] W (BoolBelow true W) := fun W hW =>
    q_FitsE 11 3 4 (some ⟨w.heap.size, 0, none⟩) none none 1 1 0 0 0 0 0 8 [2] true W (hw1.below hW) plan11 (hH.up hW) (by decide) ris2 (by decide) rfl (fun W2 _ => q_opened0 0 W2)
  have hfit1 : ∀ W g, Below w0.heap.size w0 W → Blk W g 63 cont0 → Calls Tryz.prog 20 #[.agg #[.int .i64 11, .int .i64 3, .int .i64 4], .agg #[.slice (some ⟨w.heap.size, 0, none⟩) 1 1, .slice none 0 0, .slice none 0 0, .slice none 0 0], .slice (some ⟨g, 0, none⟩) 1 1, .int .i64 8] W (BoolBelow false W) := fun W g hW hg =>
    q_FitsE 11 3 4 (some ⟨w.heap.size, 0, none⟩) none (some ⟨g, 0, none⟩) 1 1 0 0 0 1 1 8 [2] false W (hw1.below hW) plan11 (hH.up hW) (by decide) ris2 (by decide) rfl (fun W2 h2 => q_opened1 g W2 (hg.below h2 hg.lt))
  have lim : ∀ W, Below w0.heap.size w0 W → W.cell? ⟨w.heap.size + 1, 0, none⟩ = some (.slice (some ⟨w.heap.size, 0, none⟩) 1 1) ∧ W.cell? ⟨w.heap.size + 1, 1, none⟩ = some (.slice none 0 0) ∧ W.cell? ⟨w.heap.size + 1, 2, none⟩ = some (.slice none 0 0) ∧ W.cell? ⟨w.heap.size + 1, 3, none⟩ = some (.slice none 0 0) ∧ Hid (Below w0.heap.size w0 W) := fun W hW =>
    ⟨(hW.cell (p := ⟨w.heap.size + 1, 0, none⟩) hvb.lt).trans ((hvb.cell 0).trans rfl), (hW.cell (p := ⟨w.heap.size + 1, 1, none⟩) hvb.lt).trans ((hvb.cell 1).trans rfl), (hW.cell (p := ⟨w.heap.size + 1, 2, none⟩) hvb.lt).trans ((hvb.cell 2).trans rfl), (hW.cell (p := ⟨w.heap.size + 1, 3, none⟩) hvb.lt).trans ((hvb.cell 3).trans rfl), Lib.hid hW⟩
  have HOT := Lib.hid hoth
  have HWA := Lib.hid hway
  have HW3 := Lib.hid hway3
  have HF0 := Lib.hid hfit0
  have HF1 := Lib.hid hfit1
  have LIM := Lib.hid lim
  have HB0 := Lib.hid hb0
  have K0 : Hid (Below w0.heap.size w0 w0.drew) := Lib.hid (Below.refl _ _).drew
  have HW0 := Lib.hid hw0
  clear hw0 hoth hway hway3 hfit0 hfit1 lim hb0 hib hvb hH hw1 hw
  go_enter Tryz.func6, Tryz.ntmps6
  go_wp2_with fail
  rw [HW0.out]
  clear HW0
  go_region_held3 (fun W => W.cell? ⟨w.heap.size + 1, 0, none⟩ = some (.slice (some ⟨w.heap.size, 0, none⟩) 1 1) ∧ W.cell? ⟨w.heap.size + 1, 1, none⟩ = some (.slice none 0 0) ∧ W.cell? ⟨w.heap.size + 1, 2, none⟩ = some (.slice none 0 0) ∧ W.cell? ⟨w.heap.size + 1, 3, none⟩ = some (.slice none 0 0) ∧ Hid (Below w0.heap.size w0 W))
    (first
      | with_reducible exact LIM.out _ K0.out
      | with_reducible exact LIM.out _ K1.out
      | with_reducible exact LIM.out _ K2.out)
    (first
      | (go_at_call 19; ((with_reducible refine (a_plan _).mono ?_); rintro e w1 ⟨rfl, hbx⟩; have K1 := Lib.hid (K0.out.trans (hbx.mono K0.out.size)); clear hbx))
      | (go_at_call 18; ((with_reducible refine (HOT.out _ K1.out).mono ?_); rintro e w2 ⟨⟨A2, d2, rfl⟩, hbx⟩; have K2 := Lib.hid (K1.out.trans (hbx.mono K1.out.size)); clear hbx)))
  all_goals
    have K3 := Lib.hid K2.out.drew
    have z3 := K3.out.size
    go_wp2_with fail
    go_region_held3 (fun W => W.cell? ⟨w.heap.size + 1, 0, none⟩ = some (.slice (some ⟨w.heap.size, 0, none⟩) 1 1) ∧ W.cell? ⟨w.heap.size + 1, 1, none⟩ = some (.slice none 0 0) ∧ W.cell? ⟨w.heap.size + 1, 2, none⟩ = some (.slice none 0 0) ∧ W.cell? ⟨w.heap.size + 1, 3, none⟩ = some (.slice none 0 0) ∧ Hid (Below w0.heap.size w0 W))
      (first
        | with_reducible exact LIM.out _ K3.out
        | with_reducible exact LIM.out _ K4.out
        | with_reducible exact LIM.out _ K5.out)
      (first
        | (go_at_call 19; ((with_reducible refine (a_plan _).mono ?_); rintro e w3 ⟨rfl, hbx⟩; have K4 := Lib.hid (K3.out.trans (hbx.mono K3.out.size)); clear hbx))
        | (go_at_call 12; ((with_reducible refine (HWA.out _ K4.out).mono ?_); rintro e w4 ⟨rfl, hbx⟩; have K5 := Lib.hid (K4.out.trans (hbx.mono K4.out.size)); clear hbx)))
  all_goals
    go_wp2_with fail
    refine (a_plan _).mono ?_
    rintro e w5 ⟨rfl, hbx⟩
    have K6 := Lib.hid (K5.out.trans (hbx.mono K5.out.size))
    have K7 := Lib.hid (K6.out.alloc (by exact K6.out.size) (.cells #[.int .i64 1, .int .i64 2, .int .i64 3] 3))
    clear hbx
    go_wp2_with fail
    refine (HW3.out _ _ K7.out (Blk.new _ _ _)).mono ?_
    rintro e w6 ⟨rfl, hbx⟩
    have K8 := Lib.hid (K7.out.trans (hbx.mono K7.out.size))
    have K9 := Lib.hid K8.out.drew
    clear hbx
    go_wp2_with fail
    have k9 := K9.out
    have HPL := Lib.hid (fun (W : World) (hW : Below w0.heap.size w0 W) => (a_plan W).mono fun e w' h => (⟨h.1, hW.trans (h.2.mono hW.size), h.2⟩ : e = .returned (.agg #[.int .i64 11, .int .i64 3, .int .i64 4]) ∧ Below w0.heap.size w0 w' ∧ Below W.heap.size W w'))
    have HFA := Lib.hid (fun (W : World) (hW : Below w0.heap.size w0 W) => (HF0.out W hW).mono fun e w' h => (⟨h.1, hW.trans (h.2.mono hW.size)⟩ : e = .returned (.bool true) ∧ Below w0.heap.size w0 w'))
    have HFB := Lib.hid (fun (W : World) (g : Nat) (hW : Below w0.heap.size w0 W) (hg : Blk W g 63 cont0) => (HF1.out W g hW hg).mono fun e w' h => (⟨h.1, hW.trans (h.2.mono hW.size)⟩ : e = .returned (.bool false) ∧ Below w0.heap.size w0 w'))
    have HAL := Lib.hid (fun (W : World) (hW : Below w0.heap.size w0 W) => (q_Alike0 0 0 8 W).mono fun e w' h => (⟨h.1, hW.trans (h.2.mono hW.size)⟩ : e = .returned (.bool true) ∧ Below w0.heap.size w0 w'))
    have LIN := Lib.hid (fun (W : World) (hW : Below w0.heap.size w0 W) => (⟨(LIM.out W hW).1, (LIM.out W hW).2.1, (LIM.out W hW).2.2.1, (LIM.out W hW).2.2.2.1, hW⟩ : W.cell? ⟨w.heap.size + 1, 0, none⟩ = some (.slice (some ⟨w.heap.size, 0, none⟩) 1 1) ∧ W.cell? ⟨w.heap.size + 1, 1, none⟩ = some (.slice none 0 0) ∧ W.cell? ⟨w.heap.size + 1, 2, none⟩ = some (.slice none 0 0) ∧ W.cell? ⟨w.heap.size + 1, 3, none⟩ = some (.slice none 0 0) ∧ Below w0.heap.size w0 W))
    clear K0 K1 K2 K3 K4 K5 K6 K7 K8 K9 HOT HWA HW3 HF0 HF1 LIM z3
    go_region_held3 (fun W => W.cell? ⟨w.heap.size + 1, 0, none⟩ = some (.slice (some ⟨w.heap.size, 0, none⟩) 1 1) ∧ W.cell? ⟨w.heap.size + 1, 1, none⟩ = some (.slice none 0 0) ∧ W.cell? ⟨w.heap.size + 1, 2, none⟩ = some (.slice none 0 0) ∧ W.cell? ⟨w.heap.size + 1, 3, none⟩ = some (.slice none 0 0) ∧ Below w0.heap.size w0 W)
      (first
        | with_reducible exact LIN.out _ k9
        | with_reducible exact LIN.out _ (by assumption)
        | with_reducible exact LIN.out _ (bal (by assumption) _))
      (first
        | (go_at_call 19; ((with_reducible refine (HPL.out _ (by first | assumption | exact bal (by assumption) _)).mono ?_); rintro e wp ⟨rfl, kx, hbx⟩))
        | (go_at_call 20; ((with_reducible refine (HFA.out _ (by assumption)).mono ?_); rintro e wf ⟨rfl, kx⟩))
        | (go_at_call 20; ((with_reducible refine (HFB.out _ _ (by first | assumption | exact bal (by assumption) _) (by first | exact cont_new _ | exact cont_keep _ (by assumption))).mono ?_); rintro e wf ⟨rfl, kx⟩))
        | (go_at_call 17; ((with_reducible refine (HAL.out _ (by assumption)).mono ?_); rintro e wz ⟨rfl, kz⟩)))
    all_goals
      have HBE := Lib.hid (HB0.out.trans (kz.mono HB0.out.size))
      go_wp2_with fail
      go_ret
      exact ⟨rfl, HBE.out⟩
end Go.Proofs.YtgeahbmaeaoeeaaGreatDoor
