/- Contracts of the kit: plans and elements by the dice. -/
import Derived.Test.YtjfphobfikadlaaGreatDoorZ09
set_option linter.unusedVariables false
set_option linter.unusedSimpArgs false
namespace Go.Proofs.YtjfphobfikadlaaGreatDoor
open Go.RowKit Num

def PlanPost (b p : Nat) (w : World) (e : Ending) (w' : World) : Prop :=
  ∃ need hold : Nat, 1 ≤ need ∧ need ≤ hold ∧ hold ≤ 7 ∧ hold < p ∧ e = .returned (planV p need hold) ∧ Dc w' b ∧ w.grownBy w' (some b)
set_option maxRecDepth 100000 in
set_option maxHeartbeats 1000000 in
theorem k_Plan (b p : Nat) (w : World) (hd : Dc w b) (h1 : 2 ≤ p) (h2 : p ≤ 1073741824) :
    Calls Tryz.prog 43 #[.pointer (some ⟨b, 0, none⟩), .int .i64 (p : Int)] w (PlanPost b p w) := by
  have hlt := hd.lt
  have HD := Lib.hid hd
  have key : ∀ (W : World) (z : Int), Dc W b → z = ((min 7 (p - 1) : Nat) : Int) → Calls Tryz.prog 23 #[.pointer (some ⟨b, 0, none⟩), .int .i64 z] W (NextPost b (min 7 (p - 1)) W) := fun W z h e => by
    rw [e]; exact k_Next b (min 7 (p - 1)) W h (by omega) (by omega)
  clear hd
  go_enter Tryz.func43, Tryz.ntmps43
  go_wp2_with fail
  all_goals
    refine (key _ _ (HD.out.alloc _) (by omega)).mono ?_
    rintro e w1 ⟨r, hr, rfl, hd1, hg1⟩
    have hz1 := hg1.size
    have hb1 : Blk w1 w.heap.size 34 #[.int .i64 0, .int .i64 0, .int .i64 0] := (Blk.new w _ _).grown hg1 (by simp; omega)
    have HD1 := Lib.hid hd1
    have HB1 := Lib.hid hb1
    have HG1 := Lib.hid hg1
    have r1 : r < 7 := by omega
    have r2 : r < p - 1 := by omega
    clear hr hd1 hg1 hb1
    go_wp2_with fail
    have e2 : (1 + (r : Int)) = ((1 + r : Nat) : Int) := by omega
    rw [e2]
    refine (k_Next b (1 + r) _ HD1.out (by omega) (by omega)).mono ?_
    rintro e w2 ⟨s, hs, rfl, hd2, hg2⟩
    have hb2 := HB1.out.grown hg2 (by intro e; injection e with e; have := HB1.out.lt; omega)
    have c0 : w2.cell? ⟨w.heap.size, 0, none⟩ = some (.int .i64 0) := hb2.cell 0
    have c1 : w2.cell? ⟨w.heap.size, 1, none⟩ = some (.int .i64 0) := hb2.cell 1
    have c2 : w2.cell? ⟨w.heap.size, 2, none⟩ = some (.int .i64 0) := hb2.cell 2
    have f0 := hb2.frozen 0
    have f1 := hb2.frozen 1
    have f2 := hb2.frozen 2
    have HB2 := Lib.hid hb2
    have HG2 := Lib.hid hg2
    have HD2 := Lib.hid hd2
    clear hb2 hg2 hd2 e2
    go_wp2_with fail
    have hb3 := ((HB2.out.set_ 0 (.int .i64 (p : Int))).set_ 1 (.int .i64 (1 + (s : Int)))).set_ 2 (.int .i64 (1 + (r : Int)))
    have hg3 : w.grownBy _ (some b) := only_setCell (only_setCell (only_setCell (gb_trans (grown_past HG1.out) HG2.out) (p := ⟨w.heap.size, 0, none⟩) (.inr (Nat.le_refl _)) (.int .i64 (p : Int))) (p := ⟨w.heap.size, 1, none⟩) (.inr (Nat.le_refl _)) (.int .i64 (1 + (s : Int)))) (p := ⟨w.heap.size, 2, none⟩) (.inr (Nat.le_refl _)) (.int .i64 (1 + (r : Int)))
    have hd3 : Dc (((w2.setCell ⟨w.heap.size, 0, none⟩ (.int .i64 (p : Int))).setCell ⟨w.heap.size, 1, none⟩ (.int .i64 (1 + (s : Int)))).setCell ⟨w.heap.size, 2, none⟩ (.int .i64 (1 + (r : Int)))) b :=
      HD2.out.keep fun i hi => ((Below.heap_setCell _ _ _ i (by simp; omega)).trans (Below.heap_setCell _ _ _ i (by simp; omega))).trans (Below.heap_setCell _ _ _ i (by simp; omega))
    generalize ((w2.setCell ⟨w.heap.size, 0, none⟩ (.int .i64 (p : Int))).setCell ⟨w.heap.size, 1, none⟩ (.int .i64 (1 + (s : Int)))).setCell ⟨w.heap.size, 2, none⟩ (.int .i64 (1 + (r : Int))) = w3 at *
    have d0 : w3.cell? ⟨w.heap.size, 0, none⟩ = some (.int .i64 (p : Int)) := hb3.cell 0
    have d1 : w3.cell? ⟨w.heap.size, 1, none⟩ = some (.int .i64 (1 + (s : Int))) := hb3.cell 1
    have d2 : w3.cell? ⟨w.heap.size, 2, none⟩ = some (.int .i64 (1 + (r : Int))) := hb3.cell 2
    refine bodyPost_ret (v := .agg #[.int .i64 (p : Int), .int .i64 (1 + (s : Int)), .int .i64 (1 + (r : Int))]) (by simp [results, Tryz.results43, go_sem, d0, d1, d2]) rfl ⟨1 + s, 1 + r, by omega, by omega, by omega, by omega, ?_, hd3, hg3⟩
    unfold planV
    rw [show ((1 + s : Nat) : Int) = 1 + (s : Int) by omega, show ((1 + r : Nat) : Int) = 1 + (r : Int) by omega]
def ElemPost (b p n : Nat) (w : World) (e : Ending) (w' : World) : Prop :=
  ∃ v xs, e = .returned v ∧ IntsAt w' (fun g => w.heap.size ≤ g ∧ g < w'.heap.size) v xs ∧ xs.length = n ∧ InF p xs ∧ Dc w' b ∧ w.grownBy w' (some b)
theorem InF.snoc {p : Nat} {xs : List Int} {y : Int} (h : InF p xs) (h0 : 0 ≤ y) (h1 : y < p) : InF p (xs ++ [y]) := by
  intro k hk
  rcases Nat.lt_or_ge k xs.length with hl | hl
  · have := h k hl; rwa [List.getD_eq_getElem?_getD, List.getElem?_append_left hl, ← List.getD_eq_getElem?_getD]
  · have hk2 : k = xs.length := by simp at hk; omega
    subst hk2
    rw [List.getD_eq_getElem?_getD, List.getElem?_append_right (Nat.le_refl _)]; simpa using ⟨h0, h1⟩
theorem k_ModE (p : Nat) (x : Int) (w : World) (h1 : 1 ≤ p) (h2 : p ≤ 1073741824) :
    Calls Tryz.prog 11 #[.int .i64 x, .int .i64 (p : Int)] w fun e w' => ∃ y : Int, 0 ≤ y ∧ y < p ∧ e = .returned (.int .i64 y) ∧ w = w' :=
  (k_Mod x p w (by omega) (by omega)).mono fun e w' ⟨he, hw⟩ => ⟨x % p, Int.emod_nonneg _ (by omega), Int.emod_lt_of_pos _ (by omega), he, hw⟩
set_option maxRecDepth 100000 in
set_option maxHeartbeats 1000000 in
theorem k_Elements (b p n : Nat) (w : World) (hd : Dc w b) (h1 : 2 ≤ p) (h2 : p ≤ 1073741824) (hn : n ≤ 100000) :
    Calls Tryz.prog 90 #[.pointer (some ⟨b, 0, none⟩), .int .i64 (p : Int), .int .i64 (n : Int)] w (ElemPost b p n w) := by
  obtain ⟨i0, hi, hz0, hz1, hz2⟩ := info_parts infoI
  have hlt := hd.lt
  have HD := Lib.hid hd
  clear hd
  go_enter Tryz.func90, Tryz.ntmps90
  go_wp2_with fail
  go_loopw [7, 11] (fun o t wr => ∃ (k : Nat) (xs : List Int), k ≤ n ∧ t = .int .i64 k ∧ xs.length = k ∧ InF p xs ∧ wr.ownsRow w.heap.size 3 1 o k (xs.map (Value.int .i64)) ∧ Dc wr b ∧ w.grownBy wr (some b)) (fun _ t _ => n - (intOf t).toNat)
  case atStart => exact ⟨0, [], by omega, rfl, rfl, fun k hk => absurd hk (by simp), World.ownsRow_nil _ _ _ _, HD.out, World.grownBy.refl _ _⟩
  case round =>
    obtain ⟨k, xs, hk, rfl, hxl, hxs, hown, hdr, hgr⟩ := hrel
    have HX := Lib.hid hxs
    have HXL := Lib.hid hxl
    have HOWN := Lib.hid hown
    have HDR := Lib.hid hdr
    have HGR := Lib.hid hgr
    clear hxs hxl hown hdr hgr
    by_cases hl : k < n
    · have qk : (k : Int) < (n : Int) := by omega
      have hN : ∀ W, Dc W b → Calls Tryz.prog 23 #[.pointer (some ⟨b, 0, none⟩), .int .i64 1099511627776] W (NextPost b 1099511627776 W) := fun W h => k_Next b 1099511627776 W h (by omega) (by omega)
      go_wp2_with fail
      refine (hN _ HDR.out).mono ?_
      rintro e w1 ⟨r, hr, rfl, hd1, hg1⟩
      have hblk : u7.ownBlock = none ∨ u7.ownBlock ≠ some b := by
        rcases hv : u7.ownBlock with _ | g
        · exact .inl rfl
        · right; have := (HOWN.out.lt g hv).1; intro e; injection e; omega
      have hown1 := HOWN.out.kept hg1 hblk
      have HO1 := Lib.hid hown1
      have HD1 := Lib.hid hd1
      have HG1 := Lib.hid (gb_trans HGR.out hg1)
      have hs1 := HG1.out.size
      clear hd1 hg1 hN
      have step : ∀ (y : Int), 0 ≤ y → y < p → ((xs ++ [y]).map (Value.int .i64)) = xs.map (Value.int .i64) ++ [.int .i64 y] := fun y _ _ => by rw [List.map_append]; rfl
      have STEP := Lib.hid step
      clear step hown1
      rcases (show (k = 0) ∨ (0 < k ∧ r ≠ 0) ∨ (∃ k', k = k' + 1 ∧ r = 0) by
        rcases Nat.eq_zero_or_pos k with h | h
        · exact .inl h
        · by_cases h0 : r = 0
          · exact .inr (.inr ⟨k - 1, by omega, h0⟩)
          · exact .inr (.inl ⟨h, h0⟩)) with rfl | ⟨hk1, hr0⟩ | ⟨k', rfl, rfl⟩
      · have t1 : decide ((0 : Int) < ((0 : Nat) : Int)) = false := by decide
        go_wp2_with fail
        refine (k_ModE p _ _ (by omega) h2).mono ?_
        rintro e w' ⟨y, y0, y1, rfl, rfl⟩
        go_wp2_with (at_builtin; refine wpList_append_own _ rfl _ _ 24 rfl w.heap.size 3 i0 (.int .i64 0) 1 8 Tryz.underlying24 hi hz0 hz1 hz2 rfl (by decide) _ _ _ rfl (HO1.out.alloc _) ⟨w1.heap.size, 0, none⟩ 1 1 [.int .i64 y] rfl rfl (fun j u hj => by have := cell_one_new w1 (.int .i64 y) 3 j u hj; simpa using this) (ints_oneCell .i64 [_]) (by unfold maxLen; omega) (by omega) (by simp; omega) ?_)
        intro v' w2 hown' hgrow _
        have hg0 := grown_past hgrow
        have hown2 := hown'
        rw [← STEP.out y y0 y1] at hown2
        have hdc2 := HD1.out.keep (w' := w2) fun i hi => hg0.block i (by omega) (fun e => by have := (HO1.out.lt i e.symm).1; omega)
        have hgr2 : w.grownBy w2 (some b) := ⟨hg0.os.trans HG1.out.os, hg0.tape.trans HG1.out.tape, hg0.output.trans HG1.out.output, Nat.le_trans HG1.out.size hg0.size, fun i hi hne => (hg0.block i (by omega) (fun e => by have := (HO1.out.lt i e.symm).1; omega)).trans (HG1.out.block i hi hne)⟩
        have hin := HX.out.snoc y0 y1
        have HO2 := Lib.hid hown2
        have HD2 := Lib.hid hdc2
        have HG2 := Lib.hid hgr2
        have HI2 := Lib.hid hin
        clear hown' hgrow hg0 hown2 hdc2 hgr2 hin
        go_wp2_with fail
        go_roundw
        case measure => simp [intOf]; omega
        case rel => exact ⟨_, xs ++ [y], by omega, by go_num, by rw [List.length_append, HXL.out]; rfl, HI2.out, HO2.out, HD2.out, HG2.out⟩
      · have t1 : decide ((0 : Int) < (k : Int)) = true := decide_eq_true (by omega)
        have t2 : ((r : Int) == 0) = false := by simp; omega
        go_wp2_with fail
        refine (k_ModE p _ _ (by omega) h2).mono ?_
        rintro e w' ⟨y, y0, y1, rfl, rfl⟩
        go_wp2_with (at_builtin; refine wpList_append_own _ rfl _ _ 24 rfl w.heap.size 3 i0 (.int .i64 0) 1 8 Tryz.underlying24 hi hz0 hz1 hz2 rfl (by decide) _ _ _ rfl (HO1.out.alloc _) ⟨w1.heap.size, 0, none⟩ 1 1 [.int .i64 y] rfl rfl (fun j u hj => by have := cell_one_new w1 (.int .i64 y) 3 j u hj; simpa using this) (ints_oneCell .i64 [_]) (by unfold maxLen; omega) (by omega) (by simp; omega) ?_)
        intro v' w2 hown' hgrow _
        have hg0 := grown_past hgrow
        have hown2 := hown'
        rw [← STEP.out y y0 y1] at hown2
        have hdc2 := HD1.out.keep (w' := w2) fun i hi => hg0.block i (by omega) (fun e => by have := (HO1.out.lt i e.symm).1; omega)
        have hgr2 : w.grownBy w2 (some b) := ⟨hg0.os.trans HG1.out.os, hg0.tape.trans HG1.out.tape, hg0.output.trans HG1.out.output, Nat.le_trans HG1.out.size hg0.size, fun i hi hne => (hg0.block i (by omega) (fun e => by have := (HO1.out.lt i e.symm).1; omega)).trans (HG1.out.block i hi hne)⟩
        have hin := HX.out.snoc y0 y1
        have HO2 := Lib.hid hown2
        have HD2 := Lib.hid hdc2
        have HG2 := Lib.hid hgr2
        have HI2 := Lib.hid hin
        clear hown' hgrow hg0 hown2 hdc2 hgr2 hin
        go_wp2_with fail
        go_roundw
        case measure => simp [intOf]; omega
        case rel => exact ⟨_, xs ++ [y], by omega, by go_num, by rw [List.length_append, HXL.out]; rfl, HI2.out, HO2.out, HD2.out, HG2.out⟩
      · obtain ⟨g, cap, hu7, hBg, hlg⟩ := HO1.out.form (by omega)
        subst hu7
        have hlk : k' < xs.length := by have := HXL.out; omega
        have ck := HO1.out.cells (g := g) rfl k' (.int .i64 (xs.getD k' 0)) (by rw [List.getElem?_map, List.getElem?_eq_getElem hlk, List.getD_eq_getElem?_getD, List.getElem?_eq_getElem hlk]; rfl)
        have ha : (⟨g, 0, none⟩ : Addr).add k' = ⟨g, k', none⟩ := by unfold Addr.add; split <;> simp_all
        rw [ha] at ck
        have fb := HX.out k' hlk
        obtain ⟨z, hz⟩ : ∃ z, xs.getD k' 0 = z := ⟨_, rfl⟩
        rw [hz] at ck fb
        clear hz
        have t1 : decide ((0 : Int) < ((k' : Int) + 1)) = true := decide_eq_true (by omega)
        have t3 : decide (((k' : Int)) < ((k' : Int) + 1)) = true := decide_eq_true (by omega)
        go_wp2_with fail
        refine (k_ModE p _ _ (by omega) h2).mono ?_
        rintro e w' ⟨y, y0, y1, rfl, rfl⟩
        go_wp2_with (at_builtin; refine wpList_append_own _ rfl _ _ 24 rfl w.heap.size 3 i0 (.int .i64 0) 1 8 Tryz.underlying24 hi hz0 hz1 hz2 rfl (by decide) _ _ _ rfl (HO1.out.alloc _) ⟨w1.heap.size, 0, none⟩ 1 1 [.int .i64 y] rfl rfl (fun j u hj => by have := cell_one_new w1 (.int .i64 y) 3 j u hj; simpa using this) (ints_oneCell .i64 [_]) (by unfold maxLen; omega) (by omega) (by simp; omega) ?_)
        intro v' w2 hown' hgrow _
        have hg0 := grown_past hgrow
        have hown2 := hown'
        rw [← STEP.out y y0 y1] at hown2
        have hdc2 := HD1.out.keep (w' := w2) fun i hi => hg0.block i (by omega) (fun e => by have := (HO1.out.lt i e.symm).1; omega)
        have hgr2 : w.grownBy w2 (some b) := ⟨hg0.os.trans HG1.out.os, hg0.tape.trans HG1.out.tape, hg0.output.trans HG1.out.output, Nat.le_trans HG1.out.size hg0.size, fun i hi hne => (hg0.block i (by omega) (fun e => by have := (HO1.out.lt i e.symm).1; omega)).trans (HG1.out.block i hi hne)⟩
        have hin := HX.out.snoc y0 y1
        have HO2 := Lib.hid hown2
        have HD2 := Lib.hid hdc2
        have HG2 := Lib.hid hgr2
        have HI2 := Lib.hid hin
        clear hown' hgrow hg0 hown2 hdc2 hgr2 hin
        go_wp2_with fail
        go_roundw
        case measure => simp [intOf]; omega
        case rel => exact ⟨_, xs ++ [y], by omega, by go_num, by rw [List.length_append, HXL.out]; rfl, HI2.out, HO2.out, HD2.out, HG2.out⟩
    · have hkn : k = n := by omega
      subst hkn
      go_wp2_with fail
      go_ret
      exact ⟨_, xs, rfl, IntsAt.of_own (n := k) HOWN.out, HXL.out, HX.out, HDR.out, HGR.out⟩
end Go.Proofs.YtjfphobfikadlaaGreatDoor
