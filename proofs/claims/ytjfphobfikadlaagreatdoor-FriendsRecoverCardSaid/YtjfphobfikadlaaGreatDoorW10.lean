/- Contracts of the kit: plans and elements by the dice. Contracts: the reference's copy of shares; the kit's turn of them. Contracts: what parts give together. Contracts: the handle of a name. -/
import Derived.Test.YtjfphobfikadlaaGreatDoorW07
import Derived.Test.YtjfphobfikadlaaGreatDoorW04
set_option linter.unusedVariables false
set_option linter.unusedSimpArgs false
namespace Go.Proofs.YtjfphobfikadlaaGreatDoor
open Go.RowKit Num

def PlanPost (b p : Nat) (w : World) (e : Ending) (w' : World) : Prop :=
  ∃ need hold : Nat, 1 ≤ need ∧ need ≤ hold ∧ hold ≤ 7 ∧ hold < p ∧ e = .returned (planV p need hold) ∧ Dc w' b ∧ w.grownBy w' (some b)
set_option maxRecDepth 100000 in
set_option maxHeartbeats 1000000 in
theorem k_Plan (b p : Nat) (w : World) (hd : Dc w b) (h1 : 2 ≤ p) (h2 : p ≤ 1073741824) :
    Calls Tryz.prog 43 #[.pointer (some ⟨b, 0, none⟩), .int .i64 (p : Int)] w (PlanPost b p w) := by
  have hlt := hd.lt
  have HD := Lib.hid hd
  have key : ∀ (W : World) (z : Int), Dc W b → z = ((min 7 (p - 1) : Nat) : Int) → Calls Tryz.prog 23 #[.pointer (some ⟨b, 0, none⟩), .int .i64 z] W (NextPost b (min 7 (p - 1)) W) := fun W z h e => by
    rw [e]; exact k_Next b (min 7 (p - 1)) W h (by omega) (by omega)
  clear hd
  go_enter Tryz.func43, Tryz.ntmps43
  go_wp2_with fail
  all_goals
    refine (key _ _ (HD.out.alloc _) (by omega)).mono ?_
    rintro e w1 ⟨r, hr, rfl, hd1, hg1⟩
    have hz1 := hg1.size
    have hb1 : Blk w1 w.heap.size 34 #[.int .i64 0, .int .i64 0, .int .i64 0] := (Blk.new w _ _).grown hg1 (by simp; omega)
    have HD1 := Lib.hid hd1
    have HB1 := Lib.hid hb1
    have HG1 := Lib.hid hg1
    have r1 : r < 7 := by omega
    have r2 : r < p - 1 := by omega
    clear hr hd1 hg1 hb1
    go_wp2_with fail
    have e2 : (1 + (r : Int)) = ((1 + r : Nat) : Int) := by omega
    rw [e2]
    refine (k_Next b (1 + r) _ HD1.out (by omega) (by omega)).mono ?_
    rintro e w2 ⟨s, hs, rfl, hd2, hg2⟩
    have hb2 := HB1.out.grown hg2 (by intro e; injection e with e; have := HB1.out.lt; omega)
    have c0 : w2.cell? ⟨w.heap.size, 0, none⟩ = some (.int .i64 0) := hb2.cell 0
    have c1 : w2.cell? ⟨w.heap.size, 1, none⟩ = some (.int .i64 0) := hb2.cell 1
    have c2 : w2.cell? ⟨w.heap.size, 2, none⟩ = some (.int .i64 0) := hb2.cell 2
    have f0 := hb2.frozen 0
    have f1 := hb2.frozen 1
    have f2 := hb2.frozen 2
    have HB2 := Lib.hid hb2
    have HG2 := Lib.hid hg2
    have HD2 := Lib.hid hd2
    clear hb2 hg2 hd2 e2
    go_wp2_with fail
    have hb3 := ((HB2.out.set_ 0 (.int .i64 (p : Int))).set_ 1 (.int .i64 (1 + (s : Int)))).set_ 2 (.int .i64 (1 + (r : Int)))
    have hg3 : w.grownBy _ (some b) := only_setCell (only_setCell (only_setCell (gb_trans (grown_past HG1.out) HG2.out) (p := ⟨w.heap.size, 0, none⟩) (.inr (Nat.le_refl _)) (.int .i64 (p : Int))) (p := ⟨w.heap.size, 1, none⟩) (.inr (Nat.le_refl _)) (.int .i64 (1 + (s : Int)))) (p := ⟨w.heap.size, 2, none⟩) (.inr (Nat.le_refl _)) (.int .i64 (1 + (r : Int)))
    have hd3 : Dc (((w2.setCell ⟨w.heap.size, 0, none⟩ (.int .i64 (p : Int))).setCell ⟨w.heap.size, 1, none⟩ (.int .i64 (1 + (s : Int)))).setCell ⟨w.heap.size, 2, none⟩ (.int .i64 (1 + (r : Int)))) b :=
      HD2.out.keep fun i hi => ((Below.heap_setCell _ _ _ i (by simp; omega)).trans (Below.heap_setCell _ _ _ i (by simp; omega))).trans (Below.heap_setCell _ _ _ i (by simp; omega))
    generalize ((w2.setCell ⟨w.heap.size, 0, none⟩ (.int .i64 (p : Int))).setCell ⟨w.heap.size, 1, none⟩ (.int .i64 (1 + (s : Int)))).setCell ⟨w.heap.size, 2, none⟩ (.int .i64 (1 + (r : Int))) = w3 at *
    have d0 : w3.cell? ⟨w.heap.size, 0, none⟩ = some (.int .i64 (p : Int)) := hb3.cell 0
    have d1 : w3.cell? ⟨w.heap.size, 1, none⟩ = some (.int .i64 (1 + (s : Int))) := hb3.cell 1
    have d2 : w3.cell? ⟨w.heap.size, 2, none⟩ = some (.int .i64 (1 + (r : Int))) := hb3.cell 2
    refine bodyPost_ret (v := .agg #[.int .i64 (p : Int), .int .i64 (1 + (s : Int)), .int .i64 (1 + (r : Int))]) (by simp [results, Tryz.results43, go_sem, d0, d1, d2]) rfl ⟨1 + s, 1 + r, by omega, by omega, by omega, by omega, ?_, hd3, hg3⟩
    unfold planV
    rw [show ((1 + s : Nat) : Int) = 1 + (s : Int) by omega, show ((1 + r : Nat) : Int) = 1 + (r : Int) by omega]
def ElemPost (b p n : Nat) (w : World) (e : Ending) (w' : World) : Prop :=
  ∃ v xs, e = .returned v ∧ IntsAt w' (fun g => w.heap.size ≤ g ∧ g < w'.heap.size) v xs ∧ xs.length = n ∧ InF p xs ∧ Dc w' b ∧ w.grownBy w' (some b)
theorem InF.snoc {p : Nat} {xs : List Int} {y : Int} (h : InF p xs) (h0 : 0 ≤ y) (h1 : y < p) : InF p (xs ++ [y]) := by
  intro k hk
  rcases Nat.lt_or_ge k xs.length with hl | hl
  · have := h k hl; rwa [List.getD_eq_getElem?_getD, List.getElem?_append_left hl, ← List.getD_eq_getElem?_getD]
  · have hk2 : k = xs.length := by simp at hk; omega
    subst hk2
    rw [List.getD_eq_getElem?_getD, List.getElem?_append_right (Nat.le_refl _)]; simpa using ⟨h0, h1⟩
theorem k_ModE (p : Nat) (x : Int) (w : World) (h1 : 1 ≤ p) (h2 : p ≤ 1073741824) :
    Calls Tryz.prog 11 #[.int .i64 x, .int .i64 (p : Int)] w fun e w' => ∃ y : Int, 0 ≤ y ∧ y < p ∧ e = .returned (.int .i64 y) ∧ w = w' :=
  (k_Mod x p w (by omega) (by omega)).mono fun e w' ⟨he, hw⟩ => ⟨x % p, Int.emod_nonneg _ (by omega), Int.emod_lt_of_pos _ (by omega), he, hw⟩
set_option maxRecDepth 100000 in
set_option maxHeartbeats 1000000 in
theorem k_Elements (b p n : Nat) (w : World) (hd : Dc w b) (h1 : 2 ≤ p) (h2 : p ≤ 1073741824) (hn : n ≤ 100000) :
    Calls Tryz.prog 90 #[.pointer (some ⟨b, 0, none⟩), .int .i64 (p : Int), .int .i64 (n : Int)] w (ElemPost b p n w) := by
  obtain ⟨i0, hi, hz0, hz1, hz2⟩ := info_parts infoI
  have hlt := hd.lt
  have HD := Lib.hid hd
  clear hd
  go_enter Tryz.func90, Tryz.ntmps90
  go_wp2_with fail
  go_loopw [7, 11] (fun o t wr => ∃ (k : Nat) (xs : List Int), k ≤ n ∧ t = .int .i64 k ∧ xs.length = k ∧ InF p xs ∧ wr.ownsRow w.heap.size 3 1 o k (xs.map (Value.int .i64)) ∧ Dc wr b ∧ w.grownBy wr (some b)) (fun _ t _ => n - (intOf t).toNat)
  case atStart => exact ⟨0, [], by omega, rfl, rfl, fun k hk => absurd hk (by simp), World.ownsRow_nil _ _ _ _, HD.out, World.grownBy.refl _ _⟩
  case round =>
    obtain ⟨k, xs, hk, rfl, hxl, hxs, hown, hdr, hgr⟩ := hrel
    have HX := Lib.hid hxs
    have HXL := Lib.hid hxl
    have HOWN := Lib.hid hown
    have HDR := Lib.hid hdr
    have HGR := Lib.hid hgr
    clear hxs hxl hown hdr hgr
    by_cases hl : k < n
    · have qk : (k : Int) < (n : Int) := by omega
      have hN : ∀ W, Dc W b → Calls Tryz.prog 23 #[.pointer (some ⟨b, 0, none⟩), .int .i64 1099511627776] W (NextPost b 1099511627776 W) := fun W h => k_Next b 1099511627776 W h (by omega) (by omega)
      go_wp2_with fail
      refine (hN _ HDR.out).mono ?_
      rintro e w1 ⟨r, hr, rfl, hd1, hg1⟩
      have hblk : u7.ownBlock = none ∨ u7.ownBlock ≠ some b := by
        rcases hv : u7.ownBlock with _ | g
        · exact .inl rfl
        · right; have := (HOWN.out.lt g hv).1; intro e; injection e; omega
      have hown1 := HOWN.out.kept hg1 hblk
      have HO1 := Lib.hid hown1
      have HD1 := Lib.hid hd1
      have HG1 := Lib.hid (gb_trans HGR.out hg1)
      have hs1 := HG1.out.size
      clear hd1 hg1 hN
      have step : ∀ (y : Int), 0 ≤ y → y < p → ((xs ++ [y]).map (Value.int .i64)) = xs.map (Value.int .i64) ++ [.int .i64 y] := fun y _ _ => by rw [List.map_append]; rfl
      have STEP := Lib.hid step
      clear step hown1
      rcases (show (k = 0) ∨ (0 < k ∧ r ≠ 0) ∨ (∃ k', k = k' + 1 ∧ r = 0) by
        rcases Nat.eq_zero_or_pos k with h | h
        · exact .inl h
        · by_cases h0 : r = 0
          · exact .inr (.inr ⟨k - 1, by omega, h0⟩)
          · exact .inr (.inl ⟨h, h0⟩)) with rfl | ⟨hk1, hr0⟩ | ⟨k', rfl, rfl⟩
      · have t1 : decide ((0 : Int) < ((0 : Nat) : Int)) = false := by decide
        go_wp2_with fail
        refine (k_ModE p _ _ (by omega) h2).mono ?_
        rintro e w' ⟨y, y0, y1, rfl, rfl⟩
        go_wp2_with (at_builtin; refine wpList_append_own _ rfl _ _ 24 rfl w.heap.size 3 i0 (.int .i64 0) 1 8 Tryz.underlying24 hi hz0 hz1 hz2 rfl (by decide) _ _ _ rfl (HO1.out.alloc _) ⟨w1.heap.size, 0, none⟩ 1 1 [.int .i64 y] rfl rfl (fun j u hj => by have := cell_one_new w1 (.int .i64 y) 3 j u hj; simpa using this) (ints_oneCell .i64 [_]) (by unfold maxLen; omega) (by omega) (by simp; omega) ?_)
        intro v' w2 hown' hgrow _
        have hg0 := grown_past hgrow
        have hown2 := hown'
        rw [← STEP.out y y0 y1] at hown2
        have hdc2 := HD1.out.keep (w' := w2) fun i hi => hg0.block i (by omega) (fun e => by have := (HO1.out.lt i e.symm).1; omega)
        have hgr2 : w.grownBy w2 (some b) := ⟨hg0.os.trans HG1.out.os, hg0.tape.trans HG1.out.tape, hg0.output.trans HG1.out.output, Nat.le_trans HG1.out.size hg0.size, fun i hi hne => (hg0.block i (by omega) (fun e => by have := (HO1.out.lt i e.symm).1; omega)).trans (HG1.out.block i hi hne)⟩
        have hin := HX.out.snoc y0 y1
        have HO2 := Lib.hid hown2
        have HD2 := Lib.hid hdc2
        have HG2 := Lib.hid hgr2
        have HI2 := Lib.hid hin
        clear hown' hgrow hg0 hown2 hdc2 hgr2 hin
        go_wp2_with fail
        go_roundw
        case measure => simp [intOf]; omega
        case rel => exact ⟨_, xs ++ [y], by omega, by go_num, by rw [List.length_append, HXL.out]; rfl, HI2.out, HO2.out, HD2.out, HG2.out⟩
      · have t1 : decide ((0 : Int) < (k : Int)) = true := decide_eq_true (by omega)
        have t2 : ((r : Int) == 0) = false := by simp; omega
        go_wp2_with fail
        refine (k_ModE p _ _ (by omega) h2).mono ?_
        rintro e w' ⟨y, y0, y1, rfl, rfl⟩
        go_wp2_with (at_builtin; refine wpList_append_own _ rfl _ _ 24 rfl w.heap.size 3 i0 (.int .i64 0) 1 8 Tryz.underlying24 hi hz0 hz1 hz2 rfl (by decide) _ _ _ rfl (HO1.out.alloc _) ⟨w1.heap.size, 0, none⟩ 1 1 [.int .i64 y] rfl rfl (fun j u hj => by have := cell_one_new w1 (.int .i64 y) 3 j u hj; simpa using this) (ints_oneCell .i64 [_]) (by unfold maxLen; omega) (by omega) (by simp; omega) ?_)
        intro v' w2 hown' hgrow _
        have hg0 := grown_past hgrow
        have hown2 := hown'
        rw [← STEP.out y y0 y1] at hown2
        have hdc2 := HD1.out.keep (w' := w2) fun i hi => hg0.block i (by omega) (fun e => by have := (HO1.out.lt i e.symm).1; omega)
        have hgr2 : w.grownBy w2 (some b) := ⟨hg0.os.trans HG1.out.os, hg0.tape.trans HG1.out.tape, hg0.output.trans HG1.out.output, Nat.le_trans HG1.out.size hg0.size, fun i hi hne => (hg0.block i (by omega) (fun e => by have := (HO1.out.lt i e.symm).1; omega)).trans (HG1.out.block i hi hne)⟩
        have hin := HX.out.snoc y0 y1
        have HO2 := Lib.hid hown2
        have HD2 := Lib.hid hdc2
        have HG2 := Lib.hid hgr2
        have HI2 := Lib.hid hin
        clear hown' hgrow hg0 hown2 hdc2 hgr2 hin
        go_wp2_with fail
        go_roundw
        case measure => simp [intOf]; omega
        case rel => exact ⟨_, xs ++ [y], by omega, by go_num, by rw [List.length_append, HXL.out]; rfl, HI2.out, HO2.out, HD2.out, HG2.out⟩
      · obtain ⟨g, cap, hu7, hBg, hlg⟩ := HO1.out.form (by omega)
        subst hu7
        have hlk : k' < xs.length := by have := HXL.out; omega
        have ck := HO1.out.cells (g := g) rfl k' (.int .i64 (xs.getD k' 0)) (by rw [List.getElem?_map, List.getElem?_eq_getElem hlk, List.getD_eq_getElem?_getD, List.getElem?_eq_getElem hlk]; rfl)
        have ha : (⟨g, 0, none⟩ : Addr).add k' = ⟨g, k', none⟩ := by unfold Addr.add; split <;> simp_all
        rw [ha] at ck
        have fb := HX.out k' hlk
        obtain ⟨z, hz⟩ : ∃ z, xs.getD k' 0 = z := ⟨_, rfl⟩
        rw [hz] at ck fb
        clear hz
        have t1 : decide ((0 : Int) < ((k' : Int) + 1)) = true := decide_eq_true (by omega)
        have t3 : decide (((k' : Int)) < ((k' : Int) + 1)) = true := decide_eq_true (by omega)
        go_wp2_with fail
        refine (k_ModE p _ _ (by omega) h2).mono ?_
        rintro e w' ⟨y, y0, y1, rfl, rfl⟩
        go_wp2_with (at_builtin; refine wpList_append_own _ rfl _ _ 24 rfl w.heap.size 3 i0 (.int .i64 0) 1 8 Tryz.underlying24 hi hz0 hz1 hz2 rfl (by decide) _ _ _ rfl (HO1.out.alloc _) ⟨w1.heap.size, 0, none⟩ 1 1 [.int .i64 y] rfl rfl (fun j u hj => by have := cell_one_new w1 (.int .i64 y) 3 j u hj; simpa using this) (ints_oneCell .i64 [_]) (by unfold maxLen; omega) (by omega) (by simp; omega) ?_)
        intro v' w2 hown' hgrow _
        have hg0 := grown_past hgrow
        have hown2 := hown'
        rw [← STEP.out y y0 y1] at hown2
        have hdc2 := HD1.out.keep (w' := w2) fun i hi => hg0.block i (by omega) (fun e => by have := (HO1.out.lt i e.symm).1; omega)
        have hgr2 : w.grownBy w2 (some b) := ⟨hg0.os.trans HG1.out.os, hg0.tape.trans HG1.out.tape, hg0.output.trans HG1.out.output, Nat.le_trans HG1.out.size hg0.size, fun i hi hne => (hg0.block i (by omega) (fun e => by have := (HO1.out.lt i e.symm).1; omega)).trans (HG1.out.block i hi hne)⟩
        have hin := HX.out.snoc y0 y1
        have HO2 := Lib.hid hown2
        have HD2 := Lib.hid hdc2
        have HG2 := Lib.hid hgr2
        have HI2 := Lib.hid hin
        clear hown' hgrow hg0 hown2 hdc2 hgr2 hin
        go_wp2_with fail
        go_roundw
        case measure => simp [intOf]; omega
        case rel => exact ⟨_, xs ++ [y], by omega, by go_num, by rw [List.length_append, HXL.out]; rfl, HI2.out, HO2.out, HD2.out, HG2.out⟩
    · have hkn : k = n := by omega
      subst hkn
      go_wp2_with fail
      go_ret
      exact ⟨_, xs, rfl, IntsAt.of_own (n := k) HOWN.out, HXL.out, HX.out, HDR.out, HGR.out⟩
end Go.Proofs.YtjfphobfikadlaaGreatDoor
namespace Go.Proofs.YtjfphobfikadlaaGreatDoor
open Go.RowKit Num

def CopyPost (L : List Sh) (w : World) (e : Ending) (w' : World) : Prop := ∃ v, e = .returned v ∧ OwnSh w' w.heap.size v L ∧ Below w.heap.size w w'
theorem take_snoc_sh (L : List Sh) (k : Nat) (h : k < L.length) : L.take (k + 1) = L.take k ++ [shAt L k] := by
  rw [List.take_succ_eq_append_getElem h]
  congr 2
  unfold shAt; rw [List.getD_eq_getElem?_getD, List.getElem?_eq_getElem h]; rfl
set_option maxRecDepth 100000 in
set_option maxHeartbeats 2000000 in
theorem r_Copy (v : Value) (L : List Sh) (S : Nat → Prop) (w : World) (hv : ShAt w S v L) (hS : ∀ b, S b → b < w.heap.size) (hl : L.length ≤ 1000) (ho : ∀ k, k < L.length → 0 < (shAt L k).2.length ∧ (shAt L k).2.length ≤ 1000) :
    Calls Tryz.prog 26 #[v] w (CopyPost L w) := by
  obtain ⟨A, n, c, rfl, hn, hnc, hc⟩ := hv
  obtain ⟨i0, hi, hz0, hz1, hz2⟩ := info_parts infoI
  obtain ⟨j0, hj, hy0, hy1, hy2⟩ := info_parts infoS
  have hn1 : n ≤ 1000 := by omega
  have HN := Lib.hid hn
  have HO := Lib.hid ho
  have HC := Lib.hid hc
  clear hn hl ho hc
  go_enter Tryz.func26, Tryz.ntmps26
  go_wp2_with fail
  go_loopw [3, 8] (fun o t wr => ∃ k : Nat, k ≤ n ∧ t = .int .i64 k ∧ OwnSh wr w.heap.size o (L.take k) ∧ Below w.heap.size w wr) (fun _ t _ => n - (intOf t).toNat)
  case atStart => exact ⟨0, by omega, rfl, OwnSh.nil _ _, Below.refl _ _⟩
  case round =>
    obtain ⟨k, hk, rfl, hown, hbl⟩ := hrel
    have hsz := hbl.size
    have HBL := Lib.hid hbl
    have HOWN := Lib.hid hown
    clear hown hbl
    by_cases hlt : k < n
    · obtain ⟨b, off, rfl, hSb, hcell⟩ := HC.out (by omega)
      obtain ⟨u, c0, c1, hu⟩ := hcell k hlt
      have hkl : k < L.length := by rw [← HN.out]; exact hlt
      obtain ⟨l1, l2⟩ := HO.out k hkl
      obtain ⟨Au, nu, cu, rfl, hnu, hnc2, hcu⟩ := id hu
      have hrd := (hu.reads (B := w.heap.size) (fun b hb => hS b hb)).below HBL.out
      obtain ⟨bu, ou, rfl, hSu, _⟩ := hcu (by omega)
      have hbw := hS b hSb
      have hbu := hS bu hSu
      have d0 := (HBL.out.cell (p := ⟨b, off + k * 2, none⟩) hbw).trans c0
      have d1 := (HBL.out.cell (p := ⟨b, off + k * 2 + 1, none⟩) hbw).trans c1
      have qk : (k : Int) < (n : Int) := by omega
      have hstep := take_snoc_sh L k hkl
      obtain ⟨x, hx⟩ : ∃ x, shAt L k = x := ⟨_, rfl⟩
      rw [hx] at d0 hrd hnu l1 l2 hstep
      obtain ⟨h, xs⟩ := x
      change wr.cell? ⟨b, off + k * 2, none⟩ = some (.int .i64 h) at d0
      change Reads wr w.heap.size 1 _ nu (xs.map (Value.int .i64)) at hrd
      change nu = xs.length at hnu
      change 0 < xs.length at l1
      change xs.length ≤ 1000 at l2
      have htl : (L.take k).length = k := by rw [List.length_take]; omega
      have l3 : 0 < nu := by omega
      have l4 : nu ≤ 1000 := by omega
      obtain ⟨cells, hr, hkk⟩ := HOWN.out
      rw [htl] at hr hkk
      have HST := Lib.hid hstep
      have HRD := Lib.hid hrd
      have HNU := Lib.hid hnu
      have HR := Lib.hid hr
      have HKK := Lib.hid hkk
      have HTL := Lib.hid htl
      clear hcell c0 c1 hx hstep hrd hnu hu hcu hnc2 hr hkk htl l1 l2 hkl
      go_wp2_with fail
      have hblk := Blk.new wr 49 #[.int .i64 h, .slice (some ⟨bu, ou, none⟩) nu cu]
      have hb0 := HBL.out.alloc hsz (.cells #[.int .i64 h, .slice (some ⟨bu, ou, none⟩) nu cu] 49)
      have hr0 := HR.out.alloc (.cells #[.int .i64 h, .slice (some ⟨bu, ou, none⟩) nu cu] 49)
      have hrd0 := HRD.out.alloc hsz (.cells #[.int .i64 h, .slice (some ⟨bu, ou, none⟩) nu cu] 49)
      have hgr0 : wr.grownBy (wr.alloc (.cells #[.int .i64 h, .slice (some ⟨bu, ou, none⟩) nu cu] 49)) none := World.grownBy_alloc wr _ none
      have hs0 : (wr.alloc (.cells #[.int .i64 h, .slice (some ⟨bu, ou, none⟩) nu cu] 49)).heap.size = wr.heap.size + 1 := by simp
      have a0 : (wr.alloc (.cells #[.int .i64 h, .slice (some ⟨bu, ou, none⟩) nu cu] 49)).cell? ⟨wr.heap.size, 0, none⟩ = some (.int .i64 h) := hblk.cell 0
      have a1 : (wr.alloc (.cells #[.int .i64 h, .slice (some ⟨bu, ou, none⟩) nu cu] 49)).cell? ⟨wr.heap.size, 1, none⟩ = some (.slice (some ⟨bu, ou, none⟩) nu cu) := hblk.cell 1
      generalize (wr.alloc (.cells #[.int .i64 h, .slice (some ⟨bu, ou, none⟩) nu cu] 49)) = w0 at *
      have hkk0 : ∀ q, q < k → ∃ u, cells[2 * q]? = some (.int .i64 (shAt (L.take k) q).1) ∧ cells[2 * q + 1]? = some u ∧ w0.ownsRow w.heap.size 3 1 u (shAt (L.take k) q).2.length ((shAt (L.take k) q).2.map (Value.int .i64)) := fun q hq => by
        obtain ⟨u, g1, g2, g3⟩ := HKK.out q hq
        exact ⟨u, g1, g2, g3.kept hgr0 (by cases u.ownBlock <;> simp)⟩
      have HBK := Lib.hid hblk
      have HB0 := Lib.hid hb0
      have HR0 := Lib.hid hr0
      have HRD0 := Lib.hid hrd0
      have HKK0 := Lib.hid hkk0
      clear hblk hb0 hr0 hrd0 hgr0 hkk0 HKK HR HRD HBL HC d0 d1
      have hs1 : w.heap.size < w0.heap.size := by omega
      go_region_law (first
        | (refine step_append_lies _ (by rfl) (.const (.slice none 0 0)) _ _ (by rfl) w.heap.size 3 i0 _ 1 8 Tryz.underlying24 hi hz0 hz1 hz2 rfl (by omega) (.slice none 0 0) 0 [] (by rfl) (World.ownsRow_nil _ _ _ _) ⟨bu, ou, none⟩ nu cu (xs.map (Value.int .i64)) (by rfl) HRD0.out.1 (fun j u hj => by obtain ⟨ad, e, _, hcc⟩ := HRD0.out.2 l3; injection e with e; subst e; exact hcc j u hj) (ints_oneCell .i64 _) l3 (by simp only [maxLen]; omega) (by omega) (by simp; omega) w0.heap.size (by simp) ?_
           intro g1 cap1 w4 hown4 hgrow4 hat4 hlt4
           have hgw : w0.grownBy w4 none := ⟨hgrow4.os, hgrow4.tape, hgrow4.output, hgrow4.size, hgrow4.block⟩
           have hs4 := hgw.size
           have b0 : w4.cell? ⟨wr.heap.size, 0, none⟩ = some (.int .i64 h) := (World.cell?_of_block (hgw.block wr.heap.size (by omega) (by simp))).trans a0
           have b1 : w4.cell? ⟨wr.heap.size, 1, none⟩ = some (.slice (some ⟨bu, ou, none⟩) nu cu) := (World.cell?_of_block (hgw.block wr.heap.size (by omega) (by simp))).trans a1
           have HR4 := Lib.hid (HR0.out.kept hgw (by cases u3.ownBlock <;> simp))
           have HGW := Lib.hid hgw
           have ho4 : w4.ownsRow w.heap.size 3 1 (.slice (some ⟨g1, 0, none⟩) nu cap1) nu (xs.map (Value.int .i64)) := by simpa using hown4
           have HO4 := Lib.hid ho4
           clear hgw hown4 hgrow4 hat4 ho4)
        | (refine step_append_lies _ (by rfl) _ _ _ (by rfl) w.heap.size 49 j0 _ 2 32 Tryz.underlying41 hj hy0 hy1 hy2 rfl (by omega) u3 k cells (by rfl) (HR4.out.alloc _) ⟨w4.heap.size, 0, none⟩ 1 1 [.int .i64 h, .slice (some ⟨g1, 0, none⟩) nu cap1] (by rfl) (by rfl) (World.news_of_block (cs := #[.int .i64 h, .slice (some ⟨g1, 0, none⟩) nu cap1]) (t := 49) (fr := (0, 0)) (heap_alloc_new w4 _)) (one2 rfl rfl) (by omega) (by simp only [maxLen]; omega) (by omega) (by simp; omega) (w4.heap.size + 1) (by simp) ?_
           intro g2 cap2 w5 hown5 hgrow5 hat5 hlt5))
      all_goals
        have hg5 := grown_past hgrow5
        have hul : ∀ g, u3.ownBlock = some g → w.heap.size ≤ g := fun g hg => (HR4.out.lt g hg).1
        have hkk4 : ∀ q, q < k → ∃ u, cells[2 * q]? = some (.int .i64 (shAt (L.take k) q).1) ∧ cells[2 * q + 1]? = some u ∧ w4.ownsRow w.heap.size 3 1 u (shAt (L.take k) q).2.length ((shAt (L.take k) q).2.map (Value.int .i64)) := fun q hq => by
          obtain ⟨u, z1, z2, z3⟩ := HKK0.out q hq
          exact ⟨u, z1, z2, z3.kept HGW.out (by cases u.ownBlock <;> simp)⟩
        have hsn := OwnSh.snoc (L := L.take k) (x := (h, xs)) (by rw [HTL.out]; exact HR4.out) (by rw [HTL.out]; exact hkk4) hg5 (by rw [HTL.out]; exact hown5) (by rw [← HNU.out]; exact HO4.out)
        rw [← HST.out] at hsn
        have hb4 : Below w.heap.size w w4 := HB0.out.grown HGW.out (by omega) (fun g hg => by cases hg)
        have hb5 := hb4.grown hg5 hb4.size hul
        have HSN := Lib.hid hsn
        have HB5 := Lib.hid hb5
        clear hown5 hgrow5 hg5 hul hkk4 hsn hb4 hb5
        go_wp2_with fail
        go_roundw
        case measure => simp [intOf]; omega
        case rel => exact ⟨k + 1, by omega, by go_num, HSN.out, HB5.out⟩
    · have hkn : k = n := by omega
      subst hkn
      go_wp2_with fail
      go_ret
      have := HOWN.out
      rw [List.take_of_length_le (by rw [← HN.out]; exact Nat.le_refl _)] at this
      exact ⟨_, rfl, this, HBL.out⟩
/-- Some of the shares, each at most once. -/
def Some_ (L L' : List Sh) : Prop := ∃ σ : Nat → Nat, (∀ k, k < L'.length → σ k < L.length ∧ shAt L' k = shAt L (σ k)) ∧ ∀ i j, i < L'.length → j < L'.length → i ≠ j → σ i ≠ σ j
/-- The list that a choice of places gives. -/
def pick (L : List Sh) (σ : Nat → Nat) (n : Nat) : List Sh := (List.range n).map fun k => shAt L (σ k)
theorem pick_len (L : List Sh) (σ : Nat → Nat) (n : Nat) : (pick L σ n).length = n := by simp [pick]
theorem pick_at (L : List Sh) (σ : Nat → Nat) (n k : Nat) (h : k < n) : shAt (pick L σ n) k = shAt L (σ k) := by
  unfold pick shAt
  rw [List.getD_eq_getElem?_getD, List.getElem?_map, List.getElem?_range h]; rfl
def TurnPost (b : Nat) (L : List Sh) (least : Nat) (w : World) (e : Ending) (w' : World) : Prop :=
  ∃ v L', e = .returned v ∧ ShAt w' (fun g => w.heap.size ≤ g ∧ g < w'.heap.size) v L' ∧ least ≤ L'.length ∧ L'.length ≤ L.length ∧ Some_ L L' ∧ Dc w' b ∧ w.grownBy w' (some b)
/-- Shares in a block: by a choice of places. -/
def InB (w : World) (g B : Nat) (L : List Sh) (σ : Nat → Nat) (n : Nat) : Prop := ∃ cs : Array Value, Blk w g 49 cs ∧
  ∀ k, k < n → ∃ u, cs[2 * k]? = some (.int .i64 (shAt L (σ k)).1) ∧ cs[2 * k + 1]? = some u ∧ IntsAt w (fun b => B ≤ b ∧ b < w.heap.size ∧ b ≠ g) u (shAt L (σ k)).2
def swp (σ : Nat → Nat) (i k : Nat) : Nat → Nat := fun j => if j = i then σ k else if j = k then σ i else σ j
theorem swp_inj {σ : Nat → Nat} {n i k : Nat} (hi : i < n) (hk : k < n) (h : ∀ a b, a < n → b < n → a ≠ b → σ a ≠ σ b) : ∀ a b, a < n → b < n → a ≠ b → swp σ i k a ≠ swp σ i k b := by
  intro a b ha hb hne
  unfold swp
  by_cases a1 : a = i <;> by_cases a2 : a = k <;> by_cases b1 : b = i <;> by_cases b2 : b = k <;> simp only [a1, a2, b1, b2, if_true, if_false, ite_self] <;> first | (exfalso; omega) | (apply h <;> omega) | (split <;> first | (exfalso; omega) | (apply h <;> omega) | (split <;> first | (exfalso; omega) | (apply h <;> omega)))
theorem swp_lt {σ : Nat → Nat} {n m i k : Nat} (hi : i < n) (hk : k < n) (h : ∀ a, a < n → σ a < m) : ∀ a, a < n → swp σ i k a < m := by
  intro a ha
  unfold swp
  split
  · exact h _ hk
  · split
    · exact h _ hi
    · exact h _ ha
theorem OwnSh.inB {w : World} {B : Nat} {v : Value} {L : List Sh} (h : OwnSh w B v L) (h0 : 0 < L.length) : ∃ g cap, v = .slice (some ⟨g, 0, none⟩) L.length cap ∧ L.length ≤ cap ∧ B ≤ g ∧ g < w.heap.size ∧ InB w g B L id L.length := by
  obtain ⟨cells, hr, hk⟩ := h
  rcases id hr.2 with ⟨rfl, h0'⟩ | ⟨g, cap, cur, rfl, hB, hh, hnc, hm, hs, ht⟩
  · omega
  · refine ⟨g, cap, rfl, hnc, hB, (Array.getElem?_eq_some_iff.1 hh).1, cur, hh, fun k hk' => ?_⟩
    obtain ⟨u, h1, h2, h3⟩ := hk k hk'
    have hcu : ∀ j x, cells[j]? = some x → cur[j]? = some x := fun j x hx => by
      have hc := hr.cells (g := g) rfl j x hx
      have ha : (⟨g, 0, none⟩ : Addr).add j = ⟨g, j, none⟩ := by unfold Addr.add; split <;> simp_all
      rw [ha] at hc
      rw [← hc]
      exact (cell_of_row w g j cur _ (0, 0) hh).symm
    refine ⟨u, hcu _ _ h1, hcu _ _ h2, ?_⟩
    have hne := own_blk_ne (t := 49) (g := g) (cs := cur) h3 hh (by decide)
    have hi := IntsAt.of_own h3
    obtain ⟨A, n, c, rfl, e2, e3, e4⟩ := hi
    refine ⟨A, n, c, rfl, e2, e3, fun hn => ?_⟩
    obtain ⟨b, off, rfl, hS, hc⟩ := e4 hn
    refine ⟨b, off, rfl, ⟨hS.1, hS.2, fun e => ?_⟩, hc⟩
    subst e
    rcases h3.2 with ⟨hv, _⟩ | ⟨g', cap', cur', hv, _⟩
    · injection hv with hv; cases hv
    · injection hv with hv
      injection hv with hv
      injection hv with hv
      subst hv
      exact hne rfl
theorem InB.at_ {w : World} {g B : Nat} {L : List Sh} {σ : Nat → Nat} {n cap : Nat} (h : InB w g B L σ n) (hB : B ≤ g) (hnc : n ≤ cap) : ShAt w (fun b => B ≤ b ∧ b < w.heap.size) (.slice (some ⟨g, 0, none⟩) n cap) (pick L σ n) := by
  obtain ⟨cs, hb, hk⟩ := h
  refine ⟨_, n, cap, rfl, (pick_len _ _ _).symm, hnc, fun hn => ⟨g, 0, rfl, ⟨hB, hb.lt⟩, fun k hk' => ?_⟩⟩
  obtain ⟨u, h1, h2, h3⟩ := hk k hk'
  rw [pick_at L σ n k hk']
  refine ⟨u, ?_, ?_, h3.mono fun b hb => ⟨hb.1, hb.2.1⟩⟩
  · rw [hb.cell, Nat.zero_add, Nat.mul_comm]; exact h1
  · rw [hb.cell, Nat.zero_add, Nat.mul_comm]; exact h2
theorem InB.grown {w w' : World} {g B d : Nat} {L : List Sh} {σ : Nat → Nat} {n : Nat} (h : InB w g B L σ n) (hg : w.grownBy w' (some d)) (hd : d < B) (hB : B ≤ g) : InB w' g B L σ n := by
  obtain ⟨cs, hb, hk⟩ := h
  refine ⟨cs, hb.grown hg (by intro e; injection e; omega), fun k hk' => ?_⟩
  obtain ⟨u, h1, h2, h3⟩ := hk k hk'
  refine ⟨u, h1, h2, (h3.keep fun b hb => hg.block b hb.2.1 (by intro e; injection e; omega)).mono fun b hb => ⟨hb.1, ?_, hb.2.2⟩⟩
  have := hg.size; omega
/-- Two shares change their places. -/
theorem InB.swap {w w' : World} {g B : Nat} {L : List Sh} {σ : Nat → Nat} {n i k : Nat} {cs : Array Value} {ui uk : Value} (hb : Blk w g 49 cs)
    (h : ∀ q, q < n → ∃ u, cs[2 * q]? = some (.int .i64 (shAt L (σ q)).1) ∧ cs[2 * q + 1]? = some u ∧ IntsAt w (fun b => B ≤ b ∧ b < w.heap.size ∧ b ≠ g) u (shAt L (σ q)).2)
    (hi : i < n) (hk : k < n) (ci : cs[2 * i + 1]? = some ui) (ck : cs[2 * k + 1]? = some uk)
    (hw : w' = (((w.setCell ⟨g, 2 * i, none⟩ (.int .i64 (shAt L (σ k)).1)).setCell ⟨g, 2 * i + 1, none⟩ uk).setCell ⟨g, 2 * k, none⟩ (.int .i64 (shAt L (σ i)).1)).setCell ⟨g, 2 * k + 1, none⟩ ui) : InB w' g B L (swp σ i k) n := by
  have hkeep : ∀ b, b ≠ g → w'.heap[b]? = w.heap[b]? := fun b hne => by
    rw [hw, Below.heap_setCell _ _ _ _ (by simpa using hne), Below.heap_setCell _ _ _ _ (by simpa using hne), Below.heap_setCell _ _ _ _ (by simpa using hne), Below.heap_setCell _ _ _ _ (by simpa using hne)]
  have hsz : w'.heap.size = w.heap.size := by rw [hw]; simp [World.setCell]
  obtain ⟨u1, i1, i2, i3⟩ := h i hi
  obtain ⟨u2, k1, k2, k3⟩ := h k hk
  have e1 : u1 = ui := by rw [i2] at ci; exact Option.some.inj ci
  have e2 : u2 = uk := by rw [k2] at ck; exact Option.some.inj ck
  subst e1 e2
  have li : 2 * i + 1 < cs.size := by have := (Array.getElem?_eq_some_iff.1 i2).1; omega
  have lk : 2 * k + 1 < cs.size := by have := (Array.getElem?_eq_some_iff.1 k2).1; omega
  have hb' := (((hb.set_ (2 * i) (.int .i64 (shAt L (σ k)).1)).set_ (2 * i + 1) u2).set_ (2 * k) (.int .i64 (shAt L (σ i)).1)).set_ (2 * k + 1) u1
  rw [← hw] at hb'
  have mv : ∀ u xs, IntsAt w (fun b => B ≤ b ∧ b < w.heap.size ∧ b ≠ g) u xs → IntsAt w' (fun b => B ≤ b ∧ b < w'.heap.size ∧ b ≠ g) u xs := fun u xs hx => by
    rw [hsz]; exact hx.keep fun b hb => hkeep b hb.2.2
  refine ⟨_, hb', fun q hq => ?_⟩
  obtain ⟨u, q1, q2, q3⟩ := h q hq
  simp only [Array.getElem?_setIfInBounds, Array.size_setIfInBounds]
  unfold swp
  by_cases hqk : q = k
  · subst hqk
    by_cases hqi : q = i
    · subst hqi
      refine ⟨u1, ?_, ?_, ?_⟩
      · rw [if_neg (by omega), if_pos rfl, if_pos (by omega), if_pos rfl]
      · rw [if_pos rfl, if_pos (by omega)]
      · rw [if_pos rfl]; exact mv _ _ i3
    · refine ⟨u1, ?_, ?_, ?_⟩
      · rw [if_neg (by omega), if_pos rfl, if_pos (by omega), if_neg hqi, if_pos rfl]
      · rw [if_pos rfl, if_pos (by omega)]
      · rw [if_neg hqi, if_pos rfl]; exact mv _ _ i3
  · by_cases hqi : q = i
    · subst hqi
      refine ⟨u2, ?_, ?_, ?_⟩
      · rw [if_neg (by omega), if_neg (by omega), if_neg (by omega), if_pos rfl, if_pos (by omega), if_pos rfl]
      · rw [if_neg (by omega), if_neg (by omega), if_pos rfl, if_pos (by omega)]
      · rw [if_pos rfl]; exact mv _ _ k3
    · refine ⟨u, ?_, ?_, ?_⟩
      · rw [if_neg (by omega), if_neg (by omega), if_neg (by omega), if_neg (by omega), if_neg hqi, if_neg hqk]; exact q1
      · rw [if_neg (by omega), if_neg (by omega), if_neg (by omega), if_neg (by omega)]; exact q2
      · rw [if_neg hqi, if_neg hqk]; exact mv _ _ q3
end Go.Proofs.YtjfphobfikadlaaGreatDoor
namespace Go.Proofs.YtjfphobfikadlaaGreatDoor
open Go.RowKit Num

def hsOf (L : List Sh) : List Int := L.map (·.1)
def vOf (L : List Sh) (k : Nat) : Nat := ((shAt L k).2.getD 0 0).toNat
/-- The product of parts to the powers of their weights. -/
def hAt (p : Nat) (L : List Sh) (x : Int) : Nat → Nat
  | 0 => 1
  | k + 1 => hAt p L x k * pw (2 * p + 1) (vOf L k) (wt p (fOf (hsOf L)) L.length k x).toNat % (2 * p + 1)
theorem hAt_lt (p : Nat) (L : List Sh) (x : Int) (hp : 1 ≤ p) : ∀ k, hAt p L x k < 2 * p + 1 := by
  intro k
  cases k with
  | zero => show 1 < _; omega
  | succ k => exact Nat.mod_lt _ (by omega)
theorem wt_bd (p : Nat) (xs : Nat → Int) (n i : Nat) (x : Int) (hp : 1 ≤ p) : 0 ≤ wt p xs n i x ∧ wt p xs n i x < p :=
  ⟨Int.emod_nonneg _ (by omega), Int.emod_lt_of_pos _ (by omega)⟩
theorem hsOf_get (L : List Sh) (k : Nat) (h : k < L.length) : fOf (hsOf L) k = (shAt L k).1 := by
  unfold fOf hsOf shAt
  rw [List.getD_eq_getElem?_getD, List.getElem?_map, List.getD_eq_getElem?_getD, List.getElem?_eq_getElem h]; rfl
/-- Shares that may be parts: holders of the plan, each once, one value each, below the modulus. -/
structure PartsOk (p hold : Nat) (L : List Sh) : Prop where
  holder : ∀ k, k < L.length → 1 ≤ (shAt L k).1 ∧ (shAt L k).1 ≤ hold
  once : ∀ i j, i < L.length → j < L.length → i ≠ j → (shAt L i).1 ≠ (shAt L j).1
  one : ∀ k, k < L.length → (shAt L k).2.length = 1
  grp : ∀ k, k < L.length → inG p (2 * p + 1) ((shAt L k).2.getD 0 0) = true
theorem inG_bd {p m : Nat} {x : Int} (h : inG p m x = true) : 0 < x ∧ x < m := by
  simp only [inG, decide_eq_true_eq] at h; exact ⟨h.1, h.2.1⟩
theorem PartsOk.apart {p hold : Nat} {L : List Sh} (h : PartsOk p hold L) (hp : hold < p) : ApartN p (fOf (hsOf L)) (hsOf L).length := by
  intro i j hi hj hne hd
  have hl : (hsOf L).length = L.length := by simp [hsOf]
  rw [hl] at hi hj
  rw [hsOf_get L i hi, hsOf_get L j hj] at hd
  have h1 := h.holder i hi
  have h2 := h.holder j hj
  have h3 := h.once i j hi hj hne
  obtain ⟨c, hc⟩ := hd
  rcases Int.lt_trichotomy c 0 with hc0 | hc0 | hc0
  · have : (p : Int) * c ≤ (p : Int) * (-1) := Int.mul_le_mul_of_nonneg_left (by omega) (by omega)
    omega
  · subst hc0; omega
  · have : (p : Int) * 1 ≤ (p : Int) * c := Int.mul_le_mul_of_nonneg_left (by omega) (by omega)
    omega
end Go.Proofs.YtjfphobfikadlaaGreatDoor
namespace Go.Proofs.YtjfphobfikadlaaGreatDoor
open Go.RowKit Num

theorem shAt_take (L : List Sh) (n k : Nat) (h : k < n) : shAt (L.take n) k = shAt L k := by
  unfold shAt; rw [List.getD_eq_getElem?_getD, List.getD_eq_getElem?_getD, List.getElem?_take, if_pos h]
theorem ShAt.take {w : World} {S : Nat → Prop} {A : Option Addr} {n c m : Nat} {L : List Sh} (h : ShAt w S (.slice A n c) L) (hm : m ≤ n) : ShAt w S (.slice A m c) (L.take m) := by
  obtain ⟨A', n', c', hv, h2, h3, h4⟩ := h
  injection hv with e1 e2 e3
  subst e1 e2 e3
  refine ⟨_, m, _, rfl, by rw [List.length_take]; omega, by omega, fun hm' => ?_⟩
  obtain ⟨b, off, hA, hS, hc⟩ := h4 (by omega)
  refine ⟨b, off, hA, hS, fun k hk => ?_⟩
  rw [shAt_take L m k hk]
  exact hc k (by omega)
theorem PartsOk.take {p hold : Nat} {L : List Sh} (h : PartsOk p hold L) (m : Nat) : PartsOk p hold (L.take m) := by
  have hl : (L.take m).length ≤ L.length := by rw [List.length_take]; omega
  have hm : (L.take m).length ≤ m := by rw [List.length_take]; omega
  refine ⟨fun k hk => ?_, fun i j hi hj hne => ?_, fun k hk => ?_, fun k hk => ?_⟩
  · rw [shAt_take L m k (by omega)]; exact h.holder k (by omega)
  · rw [shAt_take L m i (by omega), shAt_take L m j (by omega)]; exact h.once i j (by omega) (by omega) hne
  · rw [shAt_take L m k (by omega)]; exact h.one k (by omega)
  · rw [shAt_take L m k (by omega)]; exact h.grp k (by omega)
def Int2Below (a b : Int) (w : World) (e : Ending) (w' : World) : Prop := e = .returned (.tuple #[.int .i64 a, .int .i64 b]) ∧ Below w.heap.size w w'
/-- One share: its holder, one value below p. -/
def PartPost (p x h y : Nat) (w : World) (e : Ending) (w' : World) : Prop :=
  ∃ v, e = .returned (.tuple #[.agg #[.int .i64 (h : Int), v], .int .i64 0]) ∧ w'.ownsRow w.heap.size 3 1 v 1 [.int .i64 (pw (2 * p + 1) x y : Int)] ∧ Below w.heap.size w w'
end Go.Proofs.YtjfphobfikadlaaGreatDoor
