/- Contract: the sanity check of chapter 41. What a slice of ints that is read as data gives. The law PairAlike. -/
import Derived.Test.YtgeahbmaeaoeeaaGreatDoorQ45
import Derived.Test.YtgeahbmaeaoeeaaGreatDoorQ04
import Derived.ProofKit
import Derived.SizedLaws
import Derived.Test.YtgeahbmaeaoeeaaGreatDoorQ39
import Derived.Test.YtgeahbmaeaoeeaaGreatDoorQ40
set_option linter.unusedVariables false
set_option linter.unusedSimpArgs false
namespace Go.Proofs.YtgeahbmaeaoeeaaGreatDoor
open Go.RowKit Num

theorem prm5 : Prm 5 := prm_of (f := 1) (by decide) (by decide) (by decide)
theorem prm7 : Prm 7 := prm_of (f := 1) (by decide) (by decide) (by decide)
theorem prm11 : Prm 11 := prm_of (f := 2) (by decide) (by decide) (by decide)
theorem plan11 : PlanP 11 3 4 := ⟨prm11, by decide, by decide, by decide, by decide, by decide⟩
theorem ris2 : RisP [2] 1 ((4 : Nat) : Int) := fun i hi => by
  have hi1 : i < 1 := hi
  obtain rfl : i = 0 := by omega
  exact ⟨by decide, fun h => absurd h (by decide)⟩
theorem ris123 : RisP [1, 2, 3] 1 ((4 : Nat) : Int) := fun i hi => by
  have hi1 : i < 3 := hi
  rcases (show i = 0 ∨ i = 1 ∨ i = 2 by omega) with rfl | rfl | rfl
  · exact ⟨by decide, fun h => absurd h (by decide)⟩
  · exact ⟨by decide, fun _ => by decide⟩
  · exact ⟨by decide, fun _ => by decide⟩
theorem IntsAt.blk {w : World} {g : Nat} {xs : List Int} {S : Nat → Prop} (h : Blk w g 3 (xs.map (Value.int .i64)).toArray) (hS : S g) : IntsAt w S (.slice (some ⟨g, 0, none⟩) xs.length xs.length) xs :=
  ⟨_, _, _, rfl, rfl, Nat.le_refl _, fun _ => ⟨g, 0, rfl, hS, fun k hk => by
    rw [Nat.zero_add, h.cell k, List.getElem?_toArray, List.getElem?_map, List.getElem?_eq_getElem hk, List.getD_eq_getElem?_getD, List.getElem?_eq_getElem hk]; rfl⟩⟩
theorem cont_new (W : World) : Blk (W.alloc (.cells #[.int .i64 0, .int .i64 0, .bool false, .int .i64 0, .string ⟨#[]⟩, .int .i64 0, .int .i64 0, .slice none 0 0, .slice none 0 0, .slice none 0 0] 63)) W.heap.size 63 cont0 := Blk.new _ _ _
theorem cont_keep {w' : World} (W : World) (h : Below (W.alloc (.cells #[.int .i64 0, .int .i64 0, .bool false, .int .i64 0, .string ⟨#[]⟩, .int .i64 0, .int .i64 0, .slice none 0 0, .slice none 0 0, .slice none 0 0] 63)).heap.size (W.alloc (.cells #[.int .i64 0, .int .i64 0, .bool false, .int .i64 0, .string ⟨#[]⟩, .int .i64 0, .int .i64 0, .slice none 0 0, .slice none 0 0, .slice none 0 0] 63)) w') : Blk w' W.heap.size 63 cont0 := (cont_new W).below h (by simp)
theorem bal {w0 W : World} (h : Below w0.heap.size w0 W) (o : Obj) : Below w0.heap.size w0 (W.alloc o) := h.alloc h.size o
set_option maxRecDepth 100000 in
set_option maxHeartbeats 8000000 in
theorem a_awake (w : World) (hw : BasesOk w) : Calls Tryz.prog 6 #[] w (BoolBelow true w) := by
  have hb0 := ((Below.refl w.heap.size w).alloc (Nat.le_refl _) (.cells #[.int .i64 2] 3)).alloc (by simp) (.cells #[.slice (some ⟨w.heap.size, 0, none⟩) 1 1, .slice none 0 0, .slice none 0 0, .slice none 0 0] 44)
  have hib := (Blk.new w 3 #[.int .i64 2]).alloc (.cells #[.slice (some ⟨w.heap.size, 0, none⟩) 1 1, .slice none 0 0, .slice none 0 0, .slice none 0 0] 44)
  have hvb := Blk.new (w.alloc (.cells #[.int .i64 2] 3)) 44 #[.slice (some ⟨w.heap.size, 0, none⟩) 1 1, .slice none 0 0, .slice none 0 0, .slice none 0 0]
  rw [World.size_alloc] at hvb
  obtain ⟨w0, hw0⟩ : ∃ w0, (w.alloc (.cells #[.int .i64 2] 3)).alloc (.cells #[.slice (some ⟨w.heap.size, 0, none⟩) 1 1, .slice none 0 0, .slice none 0 0, .slice none 0 0] 44) = w0 := ⟨_, rfl⟩
  rw [hw0] at hb0 hib hvb
  have hH : IntsAt w0 (· < w0.heap.size) (.slice (some ⟨w.heap.size, 0, none⟩) 1 1) [2] := IntsAt.blk (xs := [2]) hib hib.lt
  have hw1 := hw.below hb0
  have hoth : ∀ W, Below w0.heap.size w0 W → Calls Tryz.prog 18 #[.agg #[.int .i64 11, .int .i64 3, .int .i64 4], .agg #[.slice (some ⟨w.heap.size, 0, none⟩) 1 1, .slice none 0 0, .slice none 0 0, .slice none 0 0], .slice none 0 0, .int .i64 8] W fun e w' => (∃ A d, e = .returned (.tuple #[.slice A 0 d, .int .i64 0])) ∧ Below W.heap.size W w' := fun W hW =>
    q_OtherE 11 3 4 (some ⟨w.heap.size, 0, none⟩) none 1 1 0 0 0 0 8 [2] W (hw1.below hW) plan11 (hH.up hW) (by decide) ris2
  have hway : ∀ W, Below w0.heap.size w0 W → Calls Tryz.prog 12 #[.agg #[.int .i64 11, .int .i64 3, .int .i64 4], .agg #[.slice (some ⟨w.heap.size, 0, none⟩) 1 1, .slice none 0 0, .slice none 0 0, .slice none 0 0]] W (WaysE 1 0 W) := fun W hW =>
    q_WaysT 11 3 4 (some ⟨w.heap.size, 0, none⟩) none none none 1 1 0 0 0 0 0 0 [2] [] W (hw1.below hW) plan11 (hH.up hW) (SeensAt.none_ _ _ _) (by decide) (by decide) ⟨ris2, fun k hk => absurd hk (Nat.not_lt_zero k), fun k _ hk => absurd hk (Nat.not_lt_zero k)⟩ (fun k hk => absurd hk (Nat.not_lt_zero k))
  have hway3 : ∀ W g, Below w0.heap.size w0 W → Blk W g 3 #[.int .i64 1, .int .i64 2, .int .i64 3] → Calls Tryz.prog 12 #[.agg #[.int .i64 11, .int .i64 3, .int .i64 4], .agg #[.slice (some ⟨g, 0, none⟩) 3 3, .slice none 0 0, .slice none 0 0, .slice none 0 0]] W (WaysE 0 3 W) := fun W g hW hg =>
    q_WaysL 11 3 4 (some ⟨g, 0, none⟩) none none none 3 3 0 0 0 0 0 0 [1, 2, 3] [] W (hw1.below hW) plan11 (IntsAt.blk (xs := [1, 2, 3]) hg hg.lt) (SeensAt.none_ _ _ _) (by decide) (by decide) (by decide) ⟨ris123, fun k hk => absurd hk (Nat.not_lt_zero k), fun k _ hk => absurd hk (Nat.not_lt_zero k)⟩
  have hfit0 : ∀ W, Below w0.heap.size w0 W → Calls Tryz.prog 20 #[.agg #[.int .i64 11, .int .i64 3, .int .i64 4], .agg #[.slice (some ⟨w.heap.size, 0, none⟩) 1 1, .slice none 0 0, .slice none 0 0, .slice none 0 0], .slice none 0 0, .int .i64 8] W (BoolBelow true W) := fun W hW =>
    q_FitsE 11 3 4 (some ⟨w.heap.size, 0, none⟩) none none 1 1 0 0 0 0 0 8 [2] true W (hw1.below hW) plan11 (hH.up hW) (by decide) ris2 (by decide) rfl (fun W2 _ => q_opened0 0 W2)
  have hfit1 : ∀ W g, Below w0.heap.size w0 W → Blk W g 63 cont0 → Calls Tryz.prog 20 #[.agg #[.int .i64 11, .int .i64 3, .int .i64 4], .agg #[.slice (some ⟨w.heap.size, 0, none⟩) 1 1, .slice none 0 0, .slice none 0 0, .slice none 0 0], .slice (some ⟨g, 0, none⟩) 1 1, .int .i64 8] W (BoolBelow false W) := fun W g hW hg =>
    q_FitsE 11 3 4 (some ⟨w.heap.size, 0, none⟩) none (some ⟨g, 0, none⟩) 1 1 0 0 0 1 1 8 [2] false W (hw1.below hW) plan11 (hH.up hW) (by decide) ris2 (by decide) rfl (fun W2 h2 => q_opened1 g W2 (hg.below h2 hg.lt))
  have lim : ∀ W, Below w0.heap.size w0 W → W.cell? ⟨w.heap.size + 1, 0, none⟩ = some (.slice (some ⟨w.heap.size, 0, none⟩) 1 1) ∧ W.cell? ⟨w.heap.size + 1, 1, none⟩ = some (.slice none 0 0) ∧ W.cell? ⟨w.heap.size + 1, 2, none⟩ = some (.slice none 0 0) ∧ W.cell? ⟨w.heap.size + 1, 3, none⟩ = some (.slice none 0 0) ∧ Hid (Below w0.heap.size w0 W) := fun W hW =>
    ⟨(hW.cell (p := ⟨w.heap.size + 1, 0, none⟩) hvb.lt).trans ((hvb.cell 0).trans rfl), (hW.cell (p := ⟨w.heap.size + 1, 1, none⟩) hvb.lt).trans ((hvb.cell 1).trans rfl), (hW.cell (p := ⟨w.heap.size + 1, 2, none⟩) hvb.lt).trans ((hvb.cell 2).trans rfl), (hW.cell (p := ⟨w.heap.size + 1, 3, none⟩) hvb.lt).trans ((hvb.cell 3).trans rfl), Lib.hid hW⟩
  have HOT := Lib.hid hoth
  have HWA := Lib.hid hway
  have HW3 := Lib.hid hway3
  have HF0 := Lib.hid hfit0
  have HF1 := Lib.hid hfit1
  have LIM := Lib.hid lim
  have HB0 := Lib.hid hb0
  have K0 : Hid (Below w0.heap.size w0 w0.drew) := Lib.hid (Below.refl _ _).drew
  have HW0 := Lib.hid hw0
  clear hw0 hoth hway hway3 hfit0 hfit1 lim hb0 hib hvb hH hw1 hw
  go_enter Tryz.func6, Tryz.ntmps6
  go_wp2_with fail
  rw [HW0.out]
  clear HW0
  go_region_held3 (fun W => W.cell? ⟨w.heap.size + 1, 0, none⟩ = some (.slice (some ⟨w.heap.size, 0, none⟩) 1 1) ∧ W.cell? ⟨w.heap.size + 1, 1, none⟩ = some (.slice none 0 0) ∧ W.cell? ⟨w.heap.size + 1, 2, none⟩ = some (.slice none 0 0) ∧ W.cell? ⟨w.heap.size + 1, 3, none⟩ = some (.slice none 0 0) ∧ Hid (Below w0.heap.size w0 W))
    (first
      | with_reducible exact LIM.out _ K0.out
      | with_reducible exact LIM.out _ K1.out
      | with_reducible exact LIM.out _ K2.out)
    (first
      | (go_at_call 19; ((with_reducible refine (a_plan _).mono ?_); rintro e w1 ⟨rfl, hbx⟩; have K1 := Lib.hid (K0.out.trans (hbx.mono K0.out.size)); clear hbx))
      | (go_at_call 18; ((with_reducible refine (HOT.out _ K1.out).mono ?_); rintro e w2 ⟨⟨A2, d2, rfl⟩, hbx⟩; have K2 := Lib.hid (K1.out.trans (hbx.mono K1.out.size)); clear hbx)))
  all_goals
    have K3 := Lib.hid K2.out.drew
    have z3 := K3.out.size
    go_wp2_with fail
    go_region_held3 (fun W => W.cell? ⟨w.heap.size + 1, 0, none⟩ = some (.slice (some ⟨w.heap.size, 0, none⟩) 1 1) ∧ W.cell? ⟨w.heap.size + 1, 1, none⟩ = some (.slice none 0 0) ∧ W.cell? ⟨w.heap.size + 1, 2, none⟩ = some (.slice none 0 0) ∧ W.cell? ⟨w.heap.size + 1, 3, none⟩ = some (.slice none 0 0) ∧ Hid (Below w0.heap.size w0 W))
      (first
        | with_reducible exact LIM.out _ K3.out
        | with_reducible exact LIM.out _ K4.out
        | with_reducible exact LIM.out _ K5.out)
      (first
        | (go_at_call 19; ((with_reducible refine (a_plan _).mono ?_); rintro e w3 ⟨rfl, hbx⟩; have K4 := Lib.hid (K3.out.trans (hbx.mono K3.out.size)); clear hbx))
        | (go_at_call 12; ((with_reducible refine (HWA.out _ K4.out).mono ?_); rintro e w4 ⟨rfl, hbx⟩; have K5 := Lib.hid (K4.out.trans (hbx.mono K4.out.size)); clear hbx)))
  all_goals
    go_wp2_with fail
    refine (a_plan _).mono ?_
    rintro e w5 ⟨rfl, hbx⟩
    have K6 := Lib.hid (K5.out.trans (hbx.mono K5.out.size))
    have K7 := Lib.hid (K6.out.alloc (by exact K6.out.size) (.cells #[.int .i64 1, .int .i64 2, .int .i64 3] 3))
    clear hbx
    go_wp2_with fail
    refine (HW3.out _ _ K7.out (Blk.new _ _ _)).mono ?_
    rintro e w6 ⟨rfl, hbx⟩
    have K8 := Lib.hid (K7.out.trans (hbx.mono K7.out.size))
    have K9 := Lib.hid K8.out.drew
    clear hbx
    go_wp2_with fail
    have k9 := K9.out
    have HPL := Lib.hid (fun (W : World) (hW : Below w0.heap.size w0 W) => (a_plan W).mono fun e w' h => (⟨h.1, hW.trans (h.2.mono hW.size), h.2⟩ : e = .returned (.agg #[.int .i64 11, .int .i64 3, .int .i64 4]) ∧ Below w0.heap.size w0 w' ∧ Below W.heap.size W w'))
    have HFA := Lib.hid (fun (W : World) (hW : Below w0.heap.size w0 W) => (HF0.out W hW).mono fun e w' h => (⟨h.1, hW.trans (h.2.mono hW.size)⟩ : e = .returned (.bool true) ∧ Below w0.heap.size w0 w'))
    have HFB := Lib.hid (fun (W : World) (g : Nat) (hW : Below w0.heap.size w0 W) (hg : Blk W g 63 cont0) => (HF1.out W g hW hg).mono fun e w' h => (⟨h.1, hW.trans (h.2.mono hW.size)⟩ : e = .returned (.bool false) ∧ Below w0.heap.size w0 w'))
    have HAL := Lib.hid (fun (W : World) (hW : Below w0.heap.size w0 W) => (q_Alike0 0 0 8 W).mono fun e w' h => (⟨h.1, hW.trans (h.2.mono hW.size)⟩ : e = .returned (.bool true) ∧ Below w0.heap.size w0 w'))
    have LIN := Lib.hid (fun (W : World) (hW : Below w0.heap.size w0 W) => (⟨(LIM.out W hW).1, (LIM.out W hW).2.1, (LIM.out W hW).2.2.1, (LIM.out W hW).2.2.2.1, hW⟩ : W.cell? ⟨w.heap.size + 1, 0, none⟩ = some (.slice (some ⟨w.heap.size, 0, none⟩) 1 1) ∧ W.cell? ⟨w.heap.size + 1, 1, none⟩ = some (.slice none 0 0) ∧ W.cell? ⟨w.heap.size + 1, 2, none⟩ = some (.slice none 0 0) ∧ W.cell? ⟨w.heap.size + 1, 3, none⟩ = some (.slice none 0 0) ∧ Below w0.heap.size w0 W))
    clear K0 K1 K2 K3 K4 K5 K6 K7 K8 K9 HOT HWA HW3 HF0 HF1 LIM z3
    go_region_held3 (fun W => W.cell? ⟨w.heap.size + 1, 0, none⟩ = some (.slice (some ⟨w.heap.size, 0, none⟩) 1 1) ∧ W.cell? ⟨w.heap.size + 1, 1, none⟩ = some (.slice none 0 0) ∧ W.cell? ⟨w.heap.size + 1, 2, none⟩ = some (.slice none 0 0) ∧ W.cell? ⟨w.heap.size + 1, 3, none⟩ = some (.slice none 0 0) ∧ Below w0.heap.size w0 W)
      (first
        | with_reducible exact LIN.out _ k9
        | with_reducible exact LIN.out _ (by assumption)
        | with_reducible exact LIN.out _ (bal (by assumption) _))
      (first
        | (go_at_call 19; ((with_reducible refine (HPL.out _ (by first | assumption | exact bal (by assumption) _)).mono ?_); rintro e wp ⟨rfl, kx, hbx⟩))
        | (go_at_call 20; ((with_reducible refine (HFA.out _ (by assumption)).mono ?_); rintro e wf ⟨rfl, kx⟩))
        | (go_at_call 20; ((with_reducible refine (HFB.out _ _ (by first | assumption | exact bal (by assumption) _) (by first | exact cont_new _ | exact cont_keep _ (by assumption))).mono ?_); rintro e wf ⟨rfl, kx⟩))
        | (go_at_call 17; ((with_reducible refine (HAL.out _ (by assumption)).mono ?_); rintro e wz ⟨rfl, kz⟩)))
    all_goals
      have HBE := Lib.hid (HB0.out.trans (kz.mono HB0.out.size))
      go_wp2_with fail
      go_ret
      exact ⟨rfl, HBE.out⟩
end Go.Proofs.YtgeahbmaeaoeeaaGreatDoor
namespace Go.Proofs.YtgeahbmaeaoeeaaGreatDoor
open Go.ChangeShapes Go.WideShapes Go.ChangeAt Go.RowKit

theorem ints_fact {H : Type} {enc : TypeId × Value → H} {W : World} {t e : TypeId} {a : Option Addr} {n c : Nat} {d : DataW H} {p : List MemPlace} (ht : Tryz.prog.underlying t = some (.slice e)) (he : Tryz.prog.underlying e = some (.int .i64)) (hc : Tryz.prog.cellsOf e = 1)
    (h : DataW.Trod enc Tryz.prog W 0 (fun _ => true) true t (.slice a n c) d p) (hlt : ∀ x ∈ p, x.block < W.heap.size) :
    n ≤ 9223372036854775807 ∧ (n ≤ 500 → ArgL W (.slice a n c)) := by
  obtain ⟨fu, hf⟩ := h
  rcases open_ints ht he hc hf with ⟨hcs, hx⟩ | ⟨b, len', cap', zs, hcs, _, hl, hm, hz, hx, hcell, hwz⟩
  · simp [Value.cells] at hcs
    obtain ⟨rfl, rfl, rfl⟩ := hcs
    exact ⟨by omega, fun _ => ⟨none, 0, 0, fun _ => 0, rfl, by omega, fun h => absurd h (by omega)⟩⟩
  · simp [Value.cells] at hcs
    obtain ⟨rfl, rfl, rfl⟩ := hcs
    simp only [Prod.mk.injEq] at hx
    obtain ⟨rfl, rfl⟩ := hx
    simp only [if_true] at hz
    unfold maxLen at hm
    refine ⟨by omega, fun h5 => ⟨some b, n, c, fun i => zs.getD i 0, rfl, h5, fun hn => ?_⟩⟩
    obtain ⟨b0, off, spot⟩ := b
    have hspot : spot = none := by simpa [Addr.add] using World.cell?_spot (hcell 0 (by omega))
    subst hspot
    refine ⟨b0, off, rfl, hlt (.cell b0 off) (MemPlace.mem_row.2 ⟨0, by omega, by simp⟩), fun i hi => ?_⟩
    rw [← add_plain]; exact hcell i (by omega)
end Go.Proofs.YtgeahbmaeaoeeaaGreatDoor
namespace Go.Proofs.YtgeahbmaeaoeeaaGreatDoor.Pa
open Go.RowKit Num

set_option maxRecDepth 100000 in
set_option maxHeartbeats 400000 in
theorem pa_heavy (A : Option Addr) (n c : Nat) (w : World) (hw : BasesOk w) (hn : n ≤ 9223372036854775807) (h5 : ¬ n ≤ 500) :
    Calls Tryz.prog 4 #[.slice A n c] w (BoolBelow true w) := by
  have t5 : decide ((n : Int) ≤ 500) = false := decide_eq_false (by omega)
  have HAW := Lib.hid (a_awake w hw)
  clear hw h5
  go_enter Tryz.func4, Tryz.ntmps4
  go_wp2_with fail
  refine (k_Light A n c w hn).mono ?_
  rintro e w' ⟨rfl, rfl⟩
  go_wp2_with fail
  refine HAW.out.mono ?_
  rintro e w1 ⟨rfl, hb1⟩
  go_wp2_with fail
  go_ret
  exact ⟨rfl, hb1⟩
/-- Below, behind calls that turn the dice only (the dice are the call's own first block). -/
theorem below_db {w w1 w2 : World} {d : Nat} (hd : w.heap.size = d) (hb : Below w.heap.size w w1) (hg : w1.grownBy w2 (some d)) : Below w.heap.size w w2 :=
  ⟨hg.os.trans hb.os, hg.tape.trans hb.tape, hg.output.trans hb.output, Nat.le_trans hb.size hg.size, fun q hq => (hg.block q (Nat.lt_of_lt_of_le hq hb.size) (fun e => by injection e; omega)).trans (hb.block q hq)⟩
/-- What the last line of the law needs: the three lists in one world. -/
structure FinS (w W : World) (vl vo vd : Value) (L O D : List Cnt) (same : Bool) : Prop where
  hb : Below w.heap.size w W
  l : CntsAt W (· < W.heap.size) vl L
  o : CntsAt W (· < W.heap.size) vo O
  d : CntsAt W (· < W.heap.size) vd D
  ll : ∀ x ∈ L, CntSm x
  oo : StmsW O
  dd : StmsW D
  l5 : L.length ≤ 5
  o5 : O.length ≤ 5
  d5 : D.length ≤ 5
  sm : AlL L D ↔ same = true
set_option maxRecDepth 100000 in
set_option maxHeartbeats 8000000 in
theorem pa_light (A : Option Addr) (n c : Nat) (w : World) (hw : BasesOk w) (hlib : LibOk w) (hn : n ≤ 9223372036854775807) (h5 : n ≤ 500) (har : ArgL w (.slice A n c)) :
    Calls Tryz.prog 4 #[.slice A n c] w (BoolBelow true w) := by
  have t5 : decide ((n : Int) ≤ 500) = true := decide_eq_true (by omega)
  have HW := Lib.hid hw
  have HLIB := Lib.hid hlib
  have HAR := Lib.hid har
  clear hw har hlib
  go_enter Tryz.func4, Tryz.ntmps4
  go_wp2_with fail
  refine (k_Light A n c w hn).mono ?_
  rintro e w' ⟨rfl, rfl⟩
  go_wp2_with fail
  refine (k_Roll _ w HAR.out).mono ?_
  rintro e w1 ⟨rfl, hd1, hb1⟩
  obtain ⟨d, hd⟩ : ∃ d, w.heap.size = d := ⟨_, rfl⟩
  rw [hd] at hd1 ⊢
  have HDE := Lib.hid hd
  have HD1 := Lib.hid hd1
  have HB1 := Lib.hid hb1
  clear hd1 hb1 hd
  go_wp2_with fail
  refine (p_Roll d w1 HD1.out).mono ?_
  rintro e w2 ⟨A2, n2, c2, rfl, hd2, hg2⟩
  have hd2a := hd2.alloc (.cells #[.int .i64 500000003, .slice A2 n2 c2] 50)
  have hb2 := (below_db HDE.out HB1.out hg2).alloc (by have := (below_db HDE.out HB1.out hg2).size; omega) (.cells #[.int .i64 500000003, .slice A2 n2 c2] 50)
  have dl2 := hd2a.lt
  have HD2 := Lib.hid hd2a
  have HB2 := Lib.hid hb2
  clear hd2 hg2 hd2a hb2 HD1 HB1
  go_wp2_with fail
  generalize w2.alloc (.cells #[.int .i64 500000003, .slice A2 n2 c2] 50) = w2a at *
  refine (p_Contents d A2 n2 c2 w2a HD2.out).mono ?_
  rintro e w3 ⟨v, L, rfl, hown, hl5, hsm, hd3, hg3⟩
  have hs3 := hg3.size
  have hcl : CntsAt w3 (fun b => b < w3.heap.size ∧ b ≠ d) v L := hown.cnts (fun b hb => ⟨hb.2.1, by omega⟩) (fun b hb => by have := hown.row.lt b hb; exact ⟨this.2, by omega⟩)
  obtain ⟨⟨Al, nl, cl, rfl, hnl, hncl, -⟩, -⟩ := id hcl
  subst hnl
  have HCL := Lib.hid hcl
  have HB3 := Lib.hid (below_db HDE.out HB2.out hg3)
  have HD3 := Lib.hid hd3
  have HSM := Lib.hid hsm
  clear hown hsm hd3 hg3 hcl HD2 HB2 hncl
  go_wp2_with fail
  refine (a_other d (.slice Al L.length cl) L w3 HD3.out HCL.out hl5 HSM.out).mono ?_
  rintro e w4 ⟨vo, O, rfl, hoo, ho5, hok, hd4, hg4⟩
  have hs4 := hg4.size
  have hlo : CntsAt w4 (fun b => b < w4.heap.size ∧ b ≠ d) (.slice Al L.length cl) L := (HCL.out.keep fun b hb => hg4.block b hb.1 (fun e => hb.2 (Option.some.inj e))).mono fun b hb => ⟨Nat.lt_of_lt_of_le hb.1 hs4, hb.2⟩
  have hco : CntsAt w4 (fun b => b < w4.heap.size ∧ b ≠ d) vo O := hoo.cnts (fun b hb => ⟨Nat.lt_of_lt_of_le hb.1 hs4, hb.2⟩) (fun b hb => by have := hoo.row.lt b hb; have := HD3.out.lt; exact ⟨by omega, by omega⟩)
  obtain ⟨⟨Ao, no, co, rfl, hno, hnco, -⟩, -⟩ := id hco
  have HLO := Lib.hid hlo
  have HCO := Lib.hid hco
  have HB4 := Lib.hid (below_db HDE.out HB3.out hg4)
  have HD4 := Lib.hid hd4
  have HO5 := Lib.hid ho5
  have HOK := Lib.hid hok
  clear hlo hco hoo ho5 hok hd4 hg4 HCL HB3 HD3 hno hnco hs3
  go_wp2_with (at_builtin; refine wpList_copy_cnts rfl _ _ rfl rfl _ Al L.length cl L HLO.out rfl (by omega) ?_)
  intro vd w5 hrow hb5
  have HB5 := Lib.hid (HB4.out.trans (hb5.mono HB4.out.size))
  have hs5 := hb5.size
  have hd5 : Dc w5 d := HD4.out.keep fun q hq => hb5.block q (by have := HD4.out.lt; omega)
  have HL5w : Hid (CntsAt w5 (fun b => b < w4.heap.size ∧ b ≠ d) (.slice Al L.length cl) L) := Lib.hid (HLO.out.keep fun b hb => hb5.block b hb.1)
  have HO5w : Hid (CntsAt w5 (fun b => b < w4.heap.size ∧ b ≠ d) (.slice Ao no co) O) := Lib.hid (HCO.out.keep fun b hb => hb5.block b hb.1)
  have HROW := Lib.hid hrow
  have HD5 := Lib.hid hd5
  have dl4 := HD4.out.lt
  obtain ⟨Ad, cd, rfl⟩ := own_slice hrow
  clear hrow hb5 hd5 HLO HCO HD4 HB4
  go_upto_if 27 with fail
  go_cut [8] from 27 to 38 (fun x8 wx => ∃ (D : List Cnt) (same : Bool), x8 = .bool same ∧ FinS w wx (.slice Al L.length cl) (.slice Ao no co) (.slice Ad L.length cd) L O D same)
  case first =>
    by_cases hp : 0 < L.length
    · have zi : (0 : Int) < (L.length : Int) := by omega
      obtain ⟨g, rfl⟩ : ∃ g, Ad = some ⟨g, 0, none⟩ := by
        rcases id HROW.out.2 with ⟨h, h0⟩ | ⟨g, cap, cur, h, _⟩
        · omega
        · injection h with h1 h2 h3
          exact ⟨g, h1⟩
      have glt := HROW.out.lt g rfl
      go_wp2_with fail
      refine (k_Next d L.length w5 HD5.out (by omega) (by omega)).mono ?_
      rintro e w6 ⟨r, hr, rfl, hd6, hg6⟩
      have hs6 := hg6.size
      have hrow6 := HROW.out.kept hg6 (.inr fun e => by have e2 : g = d := Option.some.inj e; omega)
      have hL6 := HL5w.out.keep fun b hb => hg6.block b (by omega) (fun e => hb.2 (Option.some.inj e))
      have hO6 := HO5w.out.keep fun b hb => hg6.block b (by omega) (fun e => hb.2 (Option.some.inj e))
      have hbm := cnts_bump hrow6 hr (S := fun b => b < w4.heap.size ∧ b ≠ d) (fun b hb => ⟨by omega, by omega⟩) hL6.2 ((L[r]'hr).time + 1)
      have ct : w6.cell? ⟨g, r * 10 + 1, none⟩ = some (.int .i64 (L[r]'hr).time) := own_cell hrow6 _ _ ((cntC_at L r hr 1 (by omega)).trans rfl)
      have cf : w6.frozen? ⟨g, r * 10 + 1, none⟩ = false := own_frozen hrow6 _
      have hset : w6.grownBy (w6.setCell ⟨g, r * 10 + 1, none⟩ (.int .i64 ((L[r]'hr).time + 1))) (some g) := grown_setCell w6 ⟨g, r * 10 + 1, none⟩ _
      have htm := (HSM.out _ (List.getElem_mem hr)).time
      have HFIN : Hid (FinS w (w6.setCell ⟨g, r * 10 + 1, none⟩ (.int .i64 ((L[r]'hr).time + 1))) (.slice Al L.length cl) (.slice Ao no co) (.slice (some ⟨g, 0, none⟩) L.length cd) L O (L.set r { (L[r]'hr) with time := (L[r]'hr).time + 1 }) false) := Lib.hid (by
        have hB6 := below_db HDE.out HB5.out hg6
        have hDE := HDE.out
        refine ⟨?_, ?_, ?_, hbm, HSM.out, HOK.out, ?_, hl5, HO5.out, by rw [List.length_set]; exact hl5, ?_⟩
        · exact hB6.grown hset (by omega) (fun q hq => by have e2 : g = q := Option.some.inj hq; omega)
        · exact (hL6.keep fun b hb => hset.block b (by omega) (fun e => by have e2 : b = g := Option.some.inj e; omega)).mono fun b hb => by have := hset.size; omega
        · exact (hO6.keep fun b hb => hset.block b (by omega) (fun e => by have e2 : b = g := Option.some.inj e; omega)).mono fun b hb => by have := hset.size; omega
        · intro x hx
          rcases List.mem_or_eq_of_mem_set hx with e | e
          · exact stmsW HSM.out x e
          · subst e
            exact stmsW HSM.out (L[r]'hr) (List.getElem_mem hr)
        · refine ⟨fun h => absurd h (alL_bump hr (by rw [List.length_set]; exact hr) ?_), fun h => by cases h⟩
          rw [List.getElem_set_self]
          show (L[r]'hr).time ≠ (L[r]'hr).time + 1
          omega)
      obtain ⟨t, ht⟩ : ∃ t, (L[r]'hr).time = t := ⟨_, rfl⟩
      rw [ht] at ct htm HFIN
      have zr : (r : Int) < (L.length : Int) := by omega
      have zr0 : (0 : Int) ≤ (r : Int) := by omega
      clear hd6 hg6 hrow6 hL6 hO6 hbm hset ht
      go_wp2_with fail
      go_meet
      exact ⟨_, false, rfl, HFIN.out⟩
    · have h0 : L.length = 0 := by omega
      have zi : ¬ (0 : Int) < (L.length : Int) := by omega
      have HFIN : Hid (FinS w w5 (.slice Al L.length cl) (.slice Ao no co) (.slice Ad L.length cd) L O L true) := Lib.hid (by
        refine ⟨HB5.out, HL5w.out.mono fun b hb => by omega, HO5w.out.mono fun b hb => by omega, (CntOwn.mk HROW.out HL5w.out.2).cnts (T := (· < w5.heap.size)) (fun b hb => by omega) (fun b hb => (HROW.out.lt b hb).2), HSM.out, HOK.out, stmsW HSM.out, hl5, HO5.out, hl5, ⟨fun _ => rfl, fun _ => alL_refl HSM.out⟩⟩)
      clear h0
      go_wp2_with fail
      go_meet
      exact ⟨_, true, rfl, HFIN.out⟩
  case rest =>
    obtain ⟨D, same, rfl, hf⟩ := hcut
    rename World => wx
    have HF := Lib.hid hf
    have q := fun (M N : List Cnt) (vm vn : Value) (hm : CntsAt wx (· < wx.heap.size) vm M) (hn : CntsAt wx (· < wx.heap.size) vn N) (lm : M.length ≤ 5) (ln : N.length ≤ 5) (sm : StmsW M) (sn : StmsW N) (W : World) (hB : Below wx.heap.size wx W) => (q_AlikeP vm vn M N W (hm.up hB) (hn.up hB) (by omega) (by omega) sm sn ((HLIB.out.later hf.hb).later hB)).mono (R' := fun e W' => (∃ b : Bool, e = .returned (.bool b) ∧ (b = true ↔ AlL M N)) ∧ Below wx.heap.size wx W') fun e W' hh => ⟨hh.1, hB.trans (hh.2.mono hB.size)⟩
    have HC1 := Lib.hid (q L L _ _ hf.l hf.l hf.l5 hf.l5 (stmsW hf.ll) (stmsW hf.ll))
    have HC2 := Lib.hid (q L O _ _ hf.l hf.o hf.l5 hf.o5 (stmsW hf.ll) hf.oo)
    have HC3 := Lib.hid (q O L _ _ hf.o hf.l hf.o5 hf.l5 hf.oo (stmsW hf.ll))
    have HC4 := Lib.hid (q L D _ _ hf.l hf.d hf.l5 hf.d5 (stmsW hf.ll) hf.dd)
    have HAW := Lib.hid (a_awake wx (HW.out.below hf.hb))
    clear q hf HL5w HO5w HROW HD5 HB5
    go_wp2_with fail
    refine HAW.out.mono ?_
    rintro e y1 ⟨rfl, hy1⟩
    have HY1 := Lib.hid hy1
    clear hy1
    go_wp2_with fail
    refine (HC1.out _ HY1.out).mono ?_
    rintro e y2 ⟨⟨b1, rfl, hb1⟩, hy2⟩
    obtain rfl : b1 = true := hb1.2 (alL_refl HF.out.ll)
    have HY2 := Lib.hid hy2
    clear hy2 hb1
    go_wp2_with fail
    refine (HC2.out _ HY2.out).mono ?_
    rintro e y3 ⟨⟨b2, rfl, hb2⟩, hy3⟩
    have HY3 := Lib.hid hy3
    have HH2 := Lib.hid hb2
    clear hy3 hb2
    go_wp2_with fail
    refine (HC3.out _ HY3.out).mono ?_
    rintro e y4 ⟨⟨b3, rfl, hb3⟩, hy4⟩
    obtain rfl : b2 = b3 := Bool.eq_iff_iff.2 (HH2.out.trans (Iff.trans ⟨AlL.symm, AlL.symm⟩ hb3.symm))
    have HY4 := Lib.hid hy4
    have eb : (b2 == b2) = true := by simp
    clear hy4 hb3 HH2
    go_wp2_with fail
    refine (HC4.out _ HY4.out).mono ?_
    rintro e y5 ⟨⟨b4, rfl, hb4⟩, hy5⟩
    obtain rfl : b4 = same := Bool.eq_iff_iff.2 (hb4.trans HF.out.sm)
    have HY5 := Lib.hid (HF.out.hb.trans (hy5.mono HF.out.hb.size))
    have eb4 : (b4 == b4) = true := by simp
    clear hy5 hb4
    go_wp2_with fail
    go_ret
    exact ⟨rfl, HY5.out⟩
theorem l_PairAlike (A : Option Addr) (n c : Nat) (w : World) (hw : BasesOk w) (hlib : LibOk w) (hn : n ≤ 9223372036854775807) (har : n ≤ 500 → ArgL w (.slice A n c)) :
    Calls Tryz.prog 4 #[.slice A n c] w (BoolBelow true w) := by
  by_cases h5 : n ≤ 500
  · exact pa_light A n c w hw hlib hn h5 (har h5)
  · exact pa_heavy A n c w hw hn h5
end Go.Proofs.YtgeahbmaeaoeeaaGreatDoor.Pa
