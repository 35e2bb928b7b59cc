/- Contracts of the kit: plans and elements by the dice. Contracts: the kit's Word; two lists of numbers, whether they are equal. Contracts of the sum: its constants, its padding, the whole. Contracts of the builder at this cut: its check. -/
import Derived.Test.YtjfphobfikadlaaGreatDoorY09
import Derived.Test.YtjfphobfikadlaaGreatDoorY04
import Derived.Test.YtjfphobfikadlaaGreatDoorY03
import Derived.Lib.Builder
import Derived.Lib.UnsafeStr
import Derived.Lib.FrozenHead2
set_option linter.unusedVariables false
set_option linter.unusedSimpArgs false
namespace Go.Proofs.YtjfphobfikadlaaGreatDoor
open Go.RowKit Num

def PlanPost (b p : Nat) (w : World) (e : Ending) (w' : World) : Prop :=
  ∃ need hold : Nat, 1 ≤ need ∧ need ≤ hold ∧ hold ≤ 7 ∧ hold < p ∧ e = .returned (planV p need hold) ∧ Dc w' b ∧ w.grownBy w' (some b)
set_option maxRecDepth 100000 in
set_option maxHeartbeats 1000000 in
theorem k_Plan (b p : Nat) (w : World) (hd : Dc w b) (h1 : 2 ≤ p) (h2 : p ≤ 1073741824) :
    Calls Tryz.prog 43 #[.pointer (some ⟨b, 0, none⟩), .int .i64 (p : Int)] w (PlanPost b p w) := by
  have hlt := hd.lt
  have HD := Lib.hid hd
  have key : ∀ (W : World) (z : Int), Dc W b → z = ((min 7 (p - 1) : Nat) : Int) → Calls Tryz.prog 23 #[.pointer (some ⟨b, 0, none⟩), .int .i64 z] W (NextPost b (min 7 (p - 1)) W) := fun W z h e => by
    rw [e]; exact k_Next b (min 7 (p - 1)) W h (by omega) (by omega)
  clear hd
  go_enter Tryz.func43, Tryz.ntmps43
  go_wp2_with fail
  all_goals
    refine (key _ _ (HD.out.alloc _) (by omega)).mono ?_
    rintro e w1 ⟨r, hr, rfl, hd1, hg1⟩
    have hz1 := hg1.size
    have hb1 : Blk w1 w.heap.size 34 #[.int .i64 0, .int .i64 0, .int .i64 0] := (Blk.new w _ _).grown hg1 (by simp; omega)
    have HD1 := Lib.hid hd1
    have HB1 := Lib.hid hb1
    have HG1 := Lib.hid hg1
    have r1 : r < 7 := by omega
    have r2 : r < p - 1 := by omega
    clear hr hd1 hg1 hb1
    go_wp2_with fail
    have e2 : (1 + (r : Int)) = ((1 + r : Nat) : Int) := by omega
    rw [e2]
    refine (k_Next b (1 + r) _ HD1.out (by omega) (by omega)).mono ?_
    rintro e w2 ⟨s, hs, rfl, hd2, hg2⟩
    have hb2 := HB1.out.grown hg2 (by intro e; injection e with e; have := HB1.out.lt; omega)
    have c0 : w2.cell? ⟨w.heap.size, 0, none⟩ = some (.int .i64 0) := hb2.cell 0
    have c1 : w2.cell? ⟨w.heap.size, 1, none⟩ = some (.int .i64 0) := hb2.cell 1
    have c2 : w2.cell? ⟨w.heap.size, 2, none⟩ = some (.int .i64 0) := hb2.cell 2
    have f0 := hb2.frozen 0
    have f1 := hb2.frozen 1
    have f2 := hb2.frozen 2
    have HB2 := Lib.hid hb2
    have HG2 := Lib.hid hg2
    have HD2 := Lib.hid hd2
    clear hb2 hg2 hd2 e2
    go_wp2_with fail
    have hb3 := ((HB2.out.set_ 0 (.int .i64 (p : Int))).set_ 1 (.int .i64 (1 + (s : Int)))).set_ 2 (.int .i64 (1 + (r : Int)))
    have hg3 : w.grownBy _ (some b) := only_setCell (only_setCell (only_setCell (gb_trans (grown_past HG1.out) HG2.out) (p := ⟨w.heap.size, 0, none⟩) (.inr (Nat.le_refl _)) (.int .i64 (p : Int))) (p := ⟨w.heap.size, 1, none⟩) (.inr (Nat.le_refl _)) (.int .i64 (1 + (s : Int)))) (p := ⟨w.heap.size, 2, none⟩) (.inr (Nat.le_refl _)) (.int .i64 (1 + (r : Int)))
    have hd3 : Dc (((w2.setCell ⟨w.heap.size, 0, none⟩ (.int .i64 (p : Int))).setCell ⟨w.heap.size, 1, none⟩ (.int .i64 (1 + (s : Int)))).setCell ⟨w.heap.size, 2, none⟩ (.int .i64 (1 + (r : Int)))) b :=
      HD2.out.keep fun i hi => ((Below.heap_setCell _ _ _ i (by simp; omega)).trans (Below.heap_setCell _ _ _ i (by simp; omega))).trans (Below.heap_setCell _ _ _ i (by simp; omega))
    generalize ((w2.setCell ⟨w.heap.size, 0, none⟩ (.int .i64 (p : Int))).setCell ⟨w.heap.size, 1, none⟩ (.int .i64 (1 + (s : Int)))).setCell ⟨w.heap.size, 2, none⟩ (.int .i64 (1 + (r : Int))) = w3 at *
    have d0 : w3.cell? ⟨w.heap.size, 0, none⟩ = some (.int .i64 (p : Int)) := hb3.cell 0
    have d1 : w3.cell? ⟨w.heap.size, 1, none⟩ = some (.int .i64 (1 + (s : Int))) := hb3.cell 1
    have d2 : w3.cell? ⟨w.heap.size, 2, none⟩ = some (.int .i64 (1 + (r : Int))) := hb3.cell 2
    refine bodyPost_ret (v := .agg #[.int .i64 (p : Int), .int .i64 (1 + (s : Int)), .int .i64 (1 + (r : Int))]) (by simp [results, Tryz.results43, go_sem, d0, d1, d2]) rfl ⟨1 + s, 1 + r, by omega, by omega, by omega, by omega, ?_, hd3, hg3⟩
    unfold planV
    rw [show ((1 + s : Nat) : Int) = 1 + (s : Int) by omega, show ((1 + r : Nat) : Int) = 1 + (r : Int) by omega]
def ElemPost (b p n : Nat) (w : World) (e : Ending) (w' : World) : Prop :=
  ∃ v xs, e = .returned v ∧ IntsAt w' (fun g => w.heap.size ≤ g ∧ g < w'.heap.size) v xs ∧ xs.length = n ∧ InF p xs ∧ Dc w' b ∧ w.grownBy w' (some b)
theorem InF.snoc {p : Nat} {xs : List Int} {y : Int} (h : InF p xs) (h0 : 0 ≤ y) (h1 : y < p) : InF p (xs ++ [y]) := by
  intro k hk
  rcases Nat.lt_or_ge k xs.length with hl | hl
  · have := h k hl; rwa [List.getD_eq_getElem?_getD, List.getElem?_append_left hl, ← List.getD_eq_getElem?_getD]
  · have hk2 : k = xs.length := by simp at hk; omega
    subst hk2
    rw [List.getD_eq_getElem?_getD, List.getElem?_append_right (Nat.le_refl _)]; simpa using ⟨h0, h1⟩
theorem k_ModE (p : Nat) (x : Int) (w : World) (h1 : 1 ≤ p) (h2 : p ≤ 1073741824) :
    Calls Tryz.prog 11 #[.int .i64 x, .int .i64 (p : Int)] w fun e w' => ∃ y : Int, 0 ≤ y ∧ y < p ∧ e = .returned (.int .i64 y) ∧ w = w' :=
  (k_Mod x p w (by omega) (by omega)).mono fun e w' ⟨he, hw⟩ => ⟨x % p, Int.emod_nonneg _ (by omega), Int.emod_lt_of_pos _ (by omega), he, hw⟩
set_option maxRecDepth 100000 in
set_option maxHeartbeats 1000000 in
theorem k_Elements (b p n : Nat) (w : World) (hd : Dc w b) (h1 : 2 ≤ p) (h2 : p ≤ 1073741824) (hn : n ≤ 100000) :
    Calls Tryz.prog 90 #[.pointer (some ⟨b, 0, none⟩), .int .i64 (p : Int), .int .i64 (n : Int)] w (ElemPost b p n w) := by
  obtain ⟨i0, hi, hz0, hz1, hz2⟩ := info_parts infoI
  have hlt := hd.lt
  have HD := Lib.hid hd
  clear hd
  go_enter Tryz.func90, Tryz.ntmps90
  go_wp2_with fail
  go_loopw [7, 11] (fun o t wr => ∃ (k : Nat) (xs : List Int), k ≤ n ∧ t = .int .i64 k ∧ xs.length = k ∧ InF p xs ∧ wr.ownsRow w.heap.size 3 1 o k (xs.map (Value.int .i64)) ∧ Dc wr b ∧ w.grownBy wr (some b)) (fun _ t _ => n - (intOf t).toNat)
  case atStart => exact ⟨0, [], by omega, rfl, rfl, fun k hk => absurd hk (by simp), World.ownsRow_nil _ _ _ _, HD.out, World.grownBy.refl _ _⟩
  case round =>
    obtain ⟨k, xs, hk, rfl, hxl, hxs, hown, hdr, hgr⟩ := hrel
    have HX := Lib.hid hxs
    have HXL := Lib.hid hxl
    have HOWN := Lib.hid hown
    have HDR := Lib.hid hdr
    have HGR := Lib.hid hgr
    clear hxs hxl hown hdr hgr
    by_cases hl : k < n
    · have qk : (k : Int) < (n : Int) := by omega
      have hN : ∀ W, Dc W b → Calls Tryz.prog 23 #[.pointer (some ⟨b, 0, none⟩), .int .i64 1099511627776] W (NextPost b 1099511627776 W) := fun W h => k_Next b 1099511627776 W h (by omega) (by omega)
      go_wp2_with fail
      refine (hN _ HDR.out).mono ?_
      rintro e w1 ⟨r, hr, rfl, hd1, hg1⟩
      have hblk : u7.ownBlock = none ∨ u7.ownBlock ≠ some b := by
        rcases hv : u7.ownBlock with _ | g
        · exact .inl rfl
        · right; have := (HOWN.out.lt g hv).1; intro e; injection e; omega
      have hown1 := HOWN.out.kept hg1 hblk
      have HO1 := Lib.hid hown1
      have HD1 := Lib.hid hd1
      have HG1 := Lib.hid (gb_trans HGR.out hg1)
      have hs1 := HG1.out.size
      clear hd1 hg1 hN
      have step : ∀ (y : Int), 0 ≤ y → y < p → ((xs ++ [y]).map (Value.int .i64)) = xs.map (Value.int .i64) ++ [.int .i64 y] := fun y _ _ => by rw [List.map_append]; rfl
      have STEP := Lib.hid step
      clear step hown1
      rcases (show (k = 0) ∨ (0 < k ∧ r ≠ 0) ∨ (∃ k', k = k' + 1 ∧ r = 0) by
        rcases Nat.eq_zero_or_pos k with h | h
        · exact .inl h
        · by_cases h0 : r = 0
          · exact .inr (.inr ⟨k - 1, by omega, h0⟩)
          · exact .inr (.inl ⟨h, h0⟩)) with rfl | ⟨hk1, hr0⟩ | ⟨k', rfl, rfl⟩
      · have t1 : decide ((0 : Int) < ((0 : Nat) : Int)) = false := by decide
        go_wp2_with fail
        refine (k_ModE p _ _ (by omega) h2).mono ?_
        rintro e w' ⟨y, y0, y1, rfl, rfl⟩
        go_wp2_with (at_builtin; refine wpList_append_own _ rfl _ _ 24 rfl w.heap.size 3 i0 (.int .i64 0) 1 8 Tryz.underlying24 hi hz0 hz1 hz2 rfl (by decide) _ _ _ rfl (HO1.out.alloc _) ⟨w1.heap.size, 0, none⟩ 1 1 [.int .i64 y] rfl rfl (fun j u hj => by have := cell_one_new w1 (.int .i64 y) 3 j u hj; simpa using this) (ints_oneCell .i64 [_]) (by unfold maxLen; omega) (by omega) (by simp; omega) ?_)
        intro v' w2 hown' hgrow _
        have hg0 := grown_past hgrow
        have hown2 := hown'
        rw [← STEP.out y y0 y1] at hown2
        have hdc2 := HD1.out.keep (w' := w2) fun i hi => hg0.block i (by omega) (fun e => by have := (HO1.out.lt i e.symm).1; omega)
        have hgr2 : w.grownBy w2 (some b) := ⟨hg0.os.trans HG1.out.os, hg0.tape.trans HG1.out.tape, hg0.output.trans HG1.out.output, Nat.le_trans HG1.out.size hg0.size, fun i hi hne => (hg0.block i (by omega) (fun e => by have := (HO1.out.lt i e.symm).1; omega)).trans (HG1.out.block i hi hne)⟩
        have hin := HX.out.snoc y0 y1
        have HO2 := Lib.hid hown2
        have HD2 := Lib.hid hdc2
        have HG2 := Lib.hid hgr2
        have HI2 := Lib.hid hin
        clear hown' hgrow hg0 hown2 hdc2 hgr2 hin
        go_wp2_with fail
        go_roundw
        case measure => simp [intOf]; omega
        case rel => exact ⟨_, xs ++ [y], by omega, by go_num, by rw [List.length_append, HXL.out]; rfl, HI2.out, HO2.out, HD2.out, HG2.out⟩
      · have t1 : decide ((0 : Int) < (k : Int)) = true := decide_eq_true (by omega)
        have t2 : ((r : Int) == 0) = false := by simp; omega
        go_wp2_with fail
        refine (k_ModE p _ _ (by omega) h2).mono ?_
        rintro e w' ⟨y, y0, y1, rfl, rfl⟩
        go_wp2_with (at_builtin; refine wpList_append_own _ rfl _ _ 24 rfl w.heap.size 3 i0 (.int .i64 0) 1 8 Tryz.underlying24 hi hz0 hz1 hz2 rfl (by decide) _ _ _ rfl (HO1.out.alloc _) ⟨w1.heap.size, 0, none⟩ 1 1 [.int .i64 y] rfl rfl (fun j u hj => by have := cell_one_new w1 (.int .i64 y) 3 j u hj; simpa using this) (ints_oneCell .i64 [_]) (by unfold maxLen; omega) (by omega) (by simp; omega) ?_)
        intro v' w2 hown' hgrow _
        have hg0 := grown_past hgrow
        have hown2 := hown'
        rw [← STEP.out y y0 y1] at hown2
        have hdc2 := HD1.out.keep (w' := w2) fun i hi => hg0.block i (by omega) (fun e => by have := (HO1.out.lt i e.symm).1; omega)
        have hgr2 : w.grownBy w2 (some b) := ⟨hg0.os.trans HG1.out.os, hg0.tape.trans HG1.out.tape, hg0.output.trans HG1.out.output, Nat.le_trans HG1.out.size hg0.size, fun i hi hne => (hg0.block i (by omega) (fun e => by have := (HO1.out.lt i e.symm).1; omega)).trans (HG1.out.block i hi hne)⟩
        have hin := HX.out.snoc y0 y1
        have HO2 := Lib.hid hown2
        have HD2 := Lib.hid hdc2
        have HG2 := Lib.hid hgr2
        have HI2 := Lib.hid hin
        clear hown' hgrow hg0 hown2 hdc2 hgr2 hin
        go_wp2_with fail
        go_roundw
        case measure => simp [intOf]; omega
        case rel => exact ⟨_, xs ++ [y], by omega, by go_num, by rw [List.length_append, HXL.out]; rfl, HI2.out, HO2.out, HD2.out, HG2.out⟩
      · obtain ⟨g, cap, hu7, hBg, hlg⟩ := HO1.out.form (by omega)
        subst hu7
        have hlk : k' < xs.length := by have := HXL.out; omega
        have ck := HO1.out.cells (g := g) rfl k' (.int .i64 (xs.getD k' 0)) (by rw [List.getElem?_map, List.getElem?_eq_getElem hlk, List.getD_eq_getElem?_getD, List.getElem?_eq_getElem hlk]; rfl)
        have ha : (⟨g, 0, none⟩ : Addr).add k' = ⟨g, k', none⟩ := by unfold Addr.add; split <;> simp_all
        rw [ha] at ck
        have fb := HX.out k' hlk
        obtain ⟨z, hz⟩ : ∃ z, xs.getD k' 0 = z := ⟨_, rfl⟩
        rw [hz] at ck fb
        clear hz
        have t1 : decide ((0 : Int) < ((k' : Int) + 1)) = true := decide_eq_true (by omega)
        have t3 : decide (((k' : Int)) < ((k' : Int) + 1)) = true := decide_eq_true (by omega)
        go_wp2_with fail
        refine (k_ModE p _ _ (by omega) h2).mono ?_
        rintro e w' ⟨y, y0, y1, rfl, rfl⟩
        go_wp2_with (at_builtin; refine wpList_append_own _ rfl _ _ 24 rfl w.heap.size 3 i0 (.int .i64 0) 1 8 Tryz.underlying24 hi hz0 hz1 hz2 rfl (by decide) _ _ _ rfl (HO1.out.alloc _) ⟨w1.heap.size, 0, none⟩ 1 1 [.int .i64 y] rfl rfl (fun j u hj => by have := cell_one_new w1 (.int .i64 y) 3 j u hj; simpa using this) (ints_oneCell .i64 [_]) (by unfold maxLen; omega) (by omega) (by simp; omega) ?_)
        intro v' w2 hown' hgrow _
        have hg0 := grown_past hgrow
        have hown2 := hown'
        rw [← STEP.out y y0 y1] at hown2
        have hdc2 := HD1.out.keep (w' := w2) fun i hi => hg0.block i (by omega) (fun e => by have := (HO1.out.lt i e.symm).1; omega)
        have hgr2 : w.grownBy w2 (some b) := ⟨hg0.os.trans HG1.out.os, hg0.tape.trans HG1.out.tape, hg0.output.trans HG1.out.output, Nat.le_trans HG1.out.size hg0.size, fun i hi hne => (hg0.block i (by omega) (fun e => by have := (HO1.out.lt i e.symm).1; omega)).trans (HG1.out.block i hi hne)⟩
        have hin := HX.out.snoc y0 y1
        have HO2 := Lib.hid hown2
        have HD2 := Lib.hid hdc2
        have HG2 := Lib.hid hgr2
        have HI2 := Lib.hid hin
        clear hown' hgrow hg0 hown2 hdc2 hgr2 hin
        go_wp2_with fail
        go_roundw
        case measure => simp [intOf]; omega
        case rel => exact ⟨_, xs ++ [y], by omega, by go_num, by rw [List.length_append, HXL.out]; rfl, HI2.out, HO2.out, HD2.out, HG2.out⟩
    · have hkn : k = n := by omega
      subst hkn
      go_wp2_with fail
      go_ret
      exact ⟨_, xs, rfl, IntsAt.of_own (n := k) HOWN.out, HXL.out, HX.out, HDR.out, HGR.out⟩
end Go.Proofs.YtjfphobfikadlaaGreatDoor
namespace Go.Proofs.YtjfphobfikadlaaGreatDoor
open Go.RowKit Num

def WordPost (b n : Nat) (ss : Nat → ByteArray) (w : World) (e : Ending) (w' : World) : Prop := ∃ r : Nat, r < n ∧ e = .returned (.string (ss r)) ∧ Dc w' b ∧ w.grownBy w' (some b)
set_option maxHeartbeats 1000000 in
theorem k_Word (b g off n c : Nat) (ss : Nat → ByteArray) (w : World) (hd : Dc w b) (hg : g < w.heap.size) (hne : g ≠ b) (h1 : 1 ≤ n) (h2 : n ≤ 1000000) (hc : ∀ i, i < n → w.cell? ⟨g, off + i, none⟩ = some (.string (ss i))) :
    Calls Tryz.prog 65 #[.pointer (some ⟨b, 0, none⟩), .slice (some ⟨g, off, none⟩) n c] w (WordPost b n ss w) := by
  have HC := Lib.hid hc
  have HD := Lib.hid hd
  clear hc hd
  go_enter Tryz.func65, Tryz.ntmps65
  go_wp2_with fail
  refine (k_Next b n _ HD.out h1 (by omega)).mono ?_
  rintro e w1 ⟨r, hr, rfl, hd1, hg1⟩
  have hcell : w1.cell? ⟨g, off + r, none⟩ = some (.string (ss r)) := (World.cell?_of_block (hg1.block g hg (by intro e; injection e with e; exact hne e))).trans (HC.out r hr)
  have HD1 := Lib.hid hd1
  have HG1 := Lib.hid hg1
  have qr : (r : Int) < (n : Int) := by omega
  have q0 : (0 : Int) ≤ (r : Int) := by omega
  clear hd1 hg1
  go_wp2_with fail
  go_ret
  exact ⟨r, hr, rfl, HD1.out, HG1.out⟩
theorem getD_eq_of {xs ys : List Int} (hl : xs.length = ys.length) (h : ∀ q, q < xs.length → xs.getD q 0 = ys.getD q 0) : xs = ys := by
  apply List.ext_getElem hl
  intro i h1 h2
  have := h i h1
  rwa [List.getD_eq_getElem?_getD, List.getD_eq_getElem?_getD, List.getElem?_eq_getElem h1, List.getElem?_eq_getElem h2] at this
set_option maxRecDepth 100000 in
set_option maxHeartbeats 1000000 in
theorem r_Same (v u : Value) (xs ys : List Int) (S T : Nat → Prop) (w : World) (hv : IntsAt w S v xs) (hu : IntsAt w T u ys) (hl : xs.length ≤ 1000000) (hl2 : ys.length ≤ 1000000) :
    Calls Tryz.prog 52 #[v, u] w fun e w' => e = .returned (.bool (decide (xs = ys))) ∧ w = w' := by
  obtain ⟨A, n, c, rfl, hn, hnc, hx⟩ := hv
  obtain ⟨B, m, k, rfl, hm, hmk, hy⟩ := hu
  have n1 : n ≤ 1000000 := by omega
  have m1 : m ≤ 1000000 := by omega
  have HN := Lib.hid hn
  have HM := Lib.hid hm
  have HX := Lib.hid hx
  have HY := Lib.hid hy
  clear hn hm hx hy hl hl2
  by_cases hnm : n = m
  · have t0 : ((n : Int) != (m : Int)) = false := by simp; omega
    have HNM := Lib.hid hnm
    clear hnm
    go_enter Tryz.func52, Tryz.ntmps52
    go_wp2_with fail
    go_loopw [14] (fun t wr => ∃ k : Nat, k ≤ n ∧ t = .int .i64 k ∧ w = wr ∧ ∀ q, q < k → xs.getD q 0 = ys.getD q 0) (fun t _ => n - (intOf t).toNat)
    case atStart => exact ⟨0, by omega, rfl, rfl, fun q hq => absurd hq (by omega)⟩
    case round =>
      obtain ⟨k, hk, rfl, rfl, hq⟩ := hrel
      have HQ := Lib.hid hq
      clear hq
      by_cases hlt : k < n
      · obtain ⟨b, off, rfl, -, hc⟩ := HX.out (by omega)
        obtain ⟨b', off', rfl, -, hc'⟩ := HY.out (by have := HNM.out; omega)
        have c0 := hc k hlt
        have c1 := hc' k (by have := HNM.out; omega)
        have qk : (k : Int) < (n : Int) := by omega
        have qm : (k : Int) < (m : Int) := by have := HNM.out; omega
        clear hc hc'
        obtain ⟨x, hx⟩ : ∃ x, xs.getD k 0 = x := ⟨_, rfl⟩
        obtain ⟨y, hy⟩ : ∃ y, ys.getD k 0 = y := ⟨_, rfl⟩
        rw [hx] at c0
        rw [hy] at c1
        have HXX := Lib.hid hx
        have HYY := Lib.hid hy
        clear hx hy
        by_cases hxy : x = y
        · have t1 : ((y : Int) != x) = false := by simp [hxy]
          have HXY := Lib.hid hxy
          clear hxy
          go_wp2_with fail
          go_roundw
          case measure => simp [intOf]; omega
          case rel => exact ⟨k + 1, by omega, by go_num, (by first | rfl | trivial), fun q hq => by
            rcases Nat.lt_or_ge q k with h | h
            · exact HQ.out q h
            · have : q = k := by omega
              subst this; rw [HXX.out, HYY.out]; exact HXY.out⟩
        · have t1 : ((y : Int) != x) = true := by rw [bne_iff_ne]; exact fun h => hxy h.symm
          go_wp2_with fail
          go_ret
          refine ⟨?_, rfl⟩
          rw [decide_eq_false (fun h => hxy (by rw [← HXX.out, ← HYY.out, h]))]
          rfl
      · have hkn : k = n := by omega
        have hj0 : ¬ (k : Int) < (n : Int) := by omega
        go_wp2_with fail
        go_ret
        refine ⟨?_, rfl⟩
        rw [decide_eq_true (getD_eq_of (by rw [← HN.out, ← HM.out]; exact HNM.out) (fun q hq => HQ.out q (by rw [← HN.out] at hq; omega)))]
        rfl
  · have t0 : ((n : Int) != (m : Int)) = true := by rw [bne_iff_ne]; omega
    go_enter Tryz.func52, Tryz.ntmps52
    go_wp2_with fail
    go_ret
    refine ⟨?_, rfl⟩
    rw [decide_eq_false (fun h => hnm (by rw [HN.out, HM.out, h]))]
    rfl
end Go.Proofs.YtjfphobfikadlaaGreatDoor
namespace Go.Proofs.YtjfphobfikadlaaGreatDoor
open Go.RowKit Num

/-- The constants of the rounds, and the state at the beginning. -/
def shaK : List Int := [0x428a2f98, 0x71374491, 0xb5c0fbcf, 0xe9b5dba5, 0x3956c25b, 0x59f111f1, 0x923f82a4, 0xab1c5ed5, 0xd807aa98, 0x12835b01, 0x243185be, 0x550c7dc3, 0x72be5d74, 0x80deb1fe, 0x9bdc06a7, 0xc19bf174, 0xe49b69c1, 0xefbe4786, 0x0fc19dc6, 0x240ca1cc, 0x2de92c6f, 0x4a7484aa, 0x5cb0a9dc, 0x76f988da, 0x983e5152, 0xa831c66d, 0xb00327c8, 0xbf597fc7, 0xc6e00bf3, 0xd5a79147, 0x06ca6351, 0x14292967, 0x27b70a85, 0x2e1b2138, 0x4d2c6dfc, 0x53380d13, 0x650a7354, 0x766a0abb, 0x81c2c92e, 0x92722c85, 0xa2bfe8a1, 0xa81a664b, 0xc24b8b70, 0xc76c51a3, 0xd192e819, 0xd6990624, 0xf40e3585, 0x106aa070, 0x19a4c116, 0x1e376c08, 0x2748774c, 0x34b0bcb5, 0x391c0cb3, 0x4ed8aa4a, 0x5b9cca4f, 0x682e6ff3, 0x748f82ee, 0x78a5636f, 0x84c87814, 0x8cc70208, 0x90befffa, 0xa4506ceb, 0xbef9a3f7, 0xc67178f2]
def kOf (i : Nat) : Int := shaK.getD i 0
def shaB : List Int := [0x6a09e667, 0xbb67ae85, 0x3c6ef372, 0xa54ff53a, 0x510e527f, 0x9b05688c, 0x1f83d9ab, 0x5be0cd19]
def bOf (i : Nat) : Int := shaB.getD i 0

theorem map_get (l : List Int) (i : Nat) (h : i < l.length) : (l.map (Value.int .u32)).toArray[i]? = some (.int .u32 (l.getD i 0)) := by
  simp [List.getD, h]
theorem d_begin (w : World) :
    Calls Tryz.prog 112 #[] w fun r w' => r = .returned (.agg (shaB.map (Value.int .u32)).toArray) ∧ Below w.heap.size w w' := by
  go_enter Tryz.func112, Tryz.ntmps112
  go_wp2_with fail
  exact bodyPost_ret (v := .agg (shaB.map (Value.int .u32)).toArray) (by simp [results, Tryz.results112, go_sem, shaB]) rfl ⟨rfl, (Below.refl _ _).alloc (Nat.le_refl _) _⟩
set_option maxRecDepth 100000 in
set_option maxHeartbeats 2000000 in
theorem d_constants (w : World) :
    Calls Tryz.prog 113 #[] w fun r w' => r = .returned (.pointer (some ⟨w.heap.size, 0, none⟩)) ∧ Below w.heap.size w w' ∧ w.heap.size < w'.heap.size ∧ Arr w' w.heap.size 64 kOf := by
  go_enter Tryz.func113, Tryz.ntmps113
  go_wp2_with fail
  go_ret
  refine ⟨rfl, (Below.refl _ _).alloc (Nat.le_refl _) _, by simp, ⟨fun i hi => ?_, fun i hi => World.frozen?_alloc_new _ _ _ _⟩⟩
  rw [World.cell?_alloc_new]
  exact map_get shaK i hi
end Go.Proofs.YtjfphobfikadlaaGreatDoor
namespace Go.Proofs.YtjfphobfikadlaaGreatDoor
open Go.RowKit Num
set_option maxRecDepth 100000 in
set_option maxHeartbeats 1000000 in
theorem b_copyCheck_used (b : Nat) (w : World) (h0 : w.cell? ⟨b, 0, none⟩ = some (.pointer (some ⟨b, 0, none⟩))) :
    Calls Tryz.prog 186 #[.pointer (some ⟨b, 0, none⟩)] w fun e w' => e = .returned (.tuple #[]) ∧ w' = w := by
  have sz : (Tryz.prog.info? 167).map (·.size) = some 2 := by kernel_rfl
  obtain ⟨j, hj, _⟩ := Option.map_eq_some_iff.1 sz
  go_enter Tryz.func186, Tryz.ntmps186
  go_wp2
  rw [Lib.run_neq_ptr_same w _ Tryz.underlying165 hj]
  go_wp2
  go_end0
  exact ⟨rfl, rfl⟩
set_option maxRecDepth 100000 in
set_option maxHeartbeats 1000000 in
theorem b_copyCheck_fresh (b : Nat) (w : World) (h0 : w.cell? ⟨b, 0, none⟩ = some (.pointer none)) (hsh : w.shape? b = some (167, 2)) (hf : w.frozen? ⟨b, 0, none⟩ = false) :
    Calls Tryz.prog 186 #[.pointer (some ⟨b, 0, none⟩)] w fun e w' => e = .returned (.tuple #[]) ∧ w' = w.setCell ⟨b, 0, none⟩ (.pointer (some ⟨b, 0, none⟩)) := by
  have sz : (Tryz.prog.info? 167).map (·.size) = some 2 := by kernel_rfl
  have li : liesAt Tryz.prog Tryz.prog.depth 167 (2 / Tryz.prog.cellsOf 167) 0 167 1 = true := by kernel_rfl
  obtain ⟨j, hj, hjs⟩ := Option.map_eq_some_iff.1 sz
  go_enter Tryz.func186, Tryz.ntmps186
  go_wp2
  rw [Lib.run_to_unsafe w ⟨b, 0, none⟩ Tryz.underlying165 Tryz.underlying211 hj (by rw [hjs]; decide) hsh (Nat.zero_lt_succ 1)]
  simp only [Result.andThen]
  rw [Oper.upon_value]
  go_wp2
  rw [run_callFunc_extern Tryz.func206 (by kernel_rfl) (by kernel_rfl) (by kernel_rfl) (e := Extern.AbiNoEscape.same) (by kernel_rfl)]
  rw [Lib.run_noEscape]
  simp only [Result.andThen]
  rw [Oper.upon_value]
  go_wp2
  rw [Lib.run_from_unsafe w ⟨b, 0, none⟩ Tryz.underlying211 Tryz.underlying165 hj hsh li]
  simp only [Result.andThen]
  rw [Oper.upon_value]
  go_wp2
  go_end0
  exact ⟨rfl, rfl⟩

abbrev BldF (B b : Nat) (bs : List Value) (w : World) : Prop := Lib.IsBuilderF 167 5 B b bs w
abbrev BldU (B b : Nat) (bs : List Value) (w : World) : Prop := Lib.BuilderAtF 167 5 B b (.pointer (some ⟨b, 0, none⟩)) bs w

theorem b_copyCheck (B b : Nat) (bs : List Value) (w : World) (h : BldF B b bs w) :
    Calls Tryz.prog 186 #[.pointer (some ⟨b, 0, none⟩)] w fun e w' => e = .returned (.tuple #[]) ∧ BldU B b bs w' ∧ Below B w w' := by
  rcases h with h | h
  · refine (b_copyCheck_fresh b w h.cell0 h.shape h.frozen0).mono ?_
    rintro e w' ⟨rfl, rfl⟩
    exact ⟨rfl, h.used _, (Below.refl B w).setCell (p := ⟨b, 0, none⟩) h.1 _⟩
  · refine (b_copyCheck_used b w h.cell0).mono ?_
    rintro e w' ⟨rfl, rfl⟩
    exact ⟨rfl, h, Below.refl B _⟩

theorem infoB : (Tryz.prog.info? 5).map (fun i => (i.zero, i.size, i.bytes)) = some (some (.int .u8 0), 1, 1) := by kernel_rfl

set_option maxRecDepth 100000 in
set_option maxHeartbeats 1000000 in
theorem b_WriteString (B b : Nat) (bs : List Value) (s : ByteArray) (w : World) (h : BldF B b bs w) (hlen : bs.length + s.size ≤ 140737488355328) (hBw : B ≤ w.heap.size) :
    Calls Tryz.prog 151 #[.pointer (some ⟨b, 0, none⟩), .string s] w fun e w' => e = .returned (.tuple #[.int .i64 s.size, .nilIface]) ∧ BldU B b (bs ++ Lib.strCells s) w' ∧ Below B w w' := by
  obtain ⟨i0, hi, hz0, hz1, hz2⟩ := info_parts infoB
  go_enter Tryz.func151, Tryz.ntmps151
  go_wp2_with (go_at_call 186; refine (b_copyCheck B b bs _ h).mono ?_)
  rintro e w1 ⟨rfl, h1, hb1⟩
  obtain ⟨hB, v, hbk, hown, hne⟩ := h1
  have c0 : w1.cell? ⟨b, 0, none⟩ = some (.pointer (some ⟨b, 0, none⟩)) := by rw [Lib.cell_of_heap hbk]; rfl
  have c1 : w1.cell? ⟨b, 1, none⟩ = some v := by rw [Lib.cell_of_heap hbk]; rfl
  go_wp2_with (at_builtin; refine Lib.wpList_append_own_stringF _ rfl _ _ 91 9 rfl B 5 i0 Tryz.underlying91 Tryz.underlying9 hi hz0 hz1 hz2 _ _ _ rfl hown s rfl ?c3 ?c4 ?c5 ?_)
  case c3 => unfold maxLen; omega
  case c4 => omega
  case c5 => have := hb1.size; omega
  intro v' w2 hown' hgrow _
  have hlt : b < w1.heap.size := by
    rcases Nat.lt_or_ge b w1.heap.size with h' | h'
    · exact h'
    · simp [Array.getElem?_eq_none h'] at hbk
  have hb2 : w2.heap[b]? = some (.cells #[.pointer (some ⟨b, 0, none⟩), v] 167 (0, 0)) := by
    rw [hgrow.block b hlt (fun e => hne e.symm)]
    exact hbk
  have d0 : w2.cell? ⟨b, 0, none⟩ = some (.pointer (some ⟨b, 0, none⟩)) := by rw [Lib.cell_of_heap hb2]; rfl
  have d1 : w2.cell? ⟨b, 1, none⟩ = some v := by rw [Lib.cell_of_heap hb2]; rfl
  have f1 : w2.frozen? ⟨b, 1, none⟩ = false := Lib.frozen_of_heap hb2 1
  obtain ⟨ao, n', cap, rfl⟩ : ∃ ao n' cap, v' = .slice ao n' cap := by
    rcases hown'.2 with ⟨hv, _⟩ | ⟨g, cap, cur, fz, hv, _⟩
    · exact ⟨_, _, _, hv⟩
    · exact ⟨_, _, _, hv⟩
  go_wp2
  go_ret2
  refine ⟨rfl, ?_, ?_⟩
  · exact Lib.BuilderAtF.put (T := 167) (e := 5) hB hb2 (bs' := bs ++ Lib.strCells s) (by simpa [Lib.strCells_length] using hown') (by decide)
  · exact (hb1.grown hgrow (by have := hb1.size; omega) (fun k hk => (hown.lt k hk).1)).setCell (p := ⟨b, 1, none⟩) hB _

set_option maxRecDepth 100000 in
set_option maxHeartbeats 1000000 in
theorem b_WriteByte (B b : Nat) (bs : List Value) (c : Int) (w : World) (h : BldF B b bs w) (hlen : bs.length + 1 ≤ 140737488355328) (hBw : B ≤ w.heap.size) :
    Calls Tryz.prog 152 #[.pointer (some ⟨b, 0, none⟩), .int .u8 c] w fun e w' => e = .returned .nilIface ∧ BldU B b (bs ++ [.int .u8 c]) w' ∧ Below B w w' := by
  obtain ⟨i0, hi, hz0, hz1, hz2⟩ := info_parts infoB
  go_enter Tryz.func152, Tryz.ntmps152
  go_wp2_with (go_at_call 186; refine (b_copyCheck B b bs _ h).mono ?_)
  rintro e w1 ⟨rfl, h1, hb1⟩
  obtain ⟨hB, v, hbk, hown, hne⟩ := h1
  have c0 : w1.cell? ⟨b, 0, none⟩ = some (.pointer (some ⟨b, 0, none⟩)) := by rw [Lib.cell_of_heap hbk]; rfl
  have c1 : w1.cell? ⟨b, 1, none⟩ = some v := by rw [Lib.cell_of_heap hbk]; rfl
  go_wp2_with (at_builtin; refine wpList_append_ownF _ rfl _ _ 91 rfl B 5 i0 (.int .u8 0) 1 1 Tryz.underlying91 hi hz0 hz1 hz2 rfl (by decide) _ _ _ rfl (hown.alloc _) ⟨w1.heap.size, 0, none⟩ 1 1 [.int .u8 c] rfl rfl ?c1 ?c2 ?c3 ?c4 ?c5 ?_)
  case c1 =>
    intro j u hj
    match j, hj with
    | 0, hj => simp at hj; subst hj; simp [Addr.add]
  case c2 => intro u hu; simp at hu; subst hu; rfl
  case c3 => unfold maxLen; omega
  case c4 => omega
  case c5 => have := hb1.size; simp; omega
  intro v' w2 hown' hgrow _
  have hlt : b < w1.heap.size := by
    rcases Nat.lt_or_ge b w1.heap.size with h' | h'
    · exact h'
    · simp [Array.getElem?_eq_none h'] at hbk
  have hb2 : w2.heap[b]? = some (.cells #[.pointer (some ⟨b, 0, none⟩), v] 167 (0, 0)) := by
    rw [hgrow.block b (by simp; omega) (fun e => hne e.symm), Lib.alloc_old w1 _ b hlt]
    exact hbk
  have d0 : w2.cell? ⟨b, 0, none⟩ = some (.pointer (some ⟨b, 0, none⟩)) := by rw [Lib.cell_of_heap hb2]; rfl
  have d1 : w2.cell? ⟨b, 1, none⟩ = some v := by rw [Lib.cell_of_heap hb2]; rfl
  have f1 : w2.frozen? ⟨b, 1, none⟩ = false := Lib.frozen_of_heap hb2 1
  obtain ⟨g, cap, rfl⟩ : ∃ g cap, v' = .slice (some ⟨g, 0, none⟩) (bs.length + 1) cap := by
    rcases hown'.2 with ⟨_, h0⟩ | ⟨g, cap, cur, fz, hv, _⟩
    · omega
    · exact ⟨g, cap, hv⟩
  go_wp2
  go_ret
  refine ⟨rfl, ?_, ?_⟩
  · exact Lib.BuilderAtF.put (T := 167) (e := 5) hB hb2 (bs' := bs ++ [.int .u8 c]) (by simpa using hown') (by decide)
  · exact ((hb1.alloc (by have := hb1.size; omega) _).grown hgrow (by have := hb1.size; simp; omega) (fun k hk => (hown.lt k hk).1)).setCell (p := ⟨b, 1, none⟩) hB _
end Go.Proofs.YtjfphobfikadlaaGreatDoor
