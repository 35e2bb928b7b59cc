/- The contract of the reference's Points. -/
import Derived.Test.YtjfphobfikadlaaGreatDoorY26
import Derived.Test.YtjfphobfikadlaaGreatDoorY18
import Derived.BigRegion
set_option linter.unusedVariables false
set_option linter.unusedSimpArgs false
namespace Go.Proofs.YtjfphobfikadlaaGreatDoor
open Go.RowKit Num

/-- Two rows of one's own that are made side by side. -/
structure PtS (w W : World) (x y : Value) (k : Nat) (Lx Ly : List Int) : Prop where
  own : W.ownsRow w.heap.size 3 1 x k (Lx.map (Value.int .i64))
  own2 : W.ownsRow w.heap.size 3 1 y Ly.length (Ly.map (Value.int .i64))
  apart : ∀ g, x.ownBlock = some g → y.ownBlock ≠ some g
  old : Below w.heap.size w W
section
variable {w W W' : World} {x y : Value} {k : Nat} {Lx Ly : List Int}
theorem PtS.le (h : PtS w W x y k Lx Ly) : w.heap.size ≤ W.heap.size := h.old.size
theorem PtS.lenx (h : PtS w W x y k Lx Ly) : k = Lx.length := by have := h.own.1; simpa using this.symm
theorem PtS.swap {j : Nat} (h : PtS w W x y k Lx Ly) (e : j = Ly.length) : PtS w W y x j Ly Lx :=
  ⟨by rw [e]; exact h.own2, by rw [← h.lenx]; exact h.own, fun g h1 h2 => h.apart g h2 h1, h.old⟩
theorem PtS.alloc (h : PtS w W x y k Lx Ly) (o : Obj) : PtS w (W.alloc o) x y k Lx Ly := ⟨h.own.alloc _, h.own2.alloc _, h.apart, h.old.alloc h.le _⟩
theorem PtS.drew (h : PtS w W x y k Lx Ly) : PtS w W.drew x y k Lx Ly := ⟨h.own, h.own2, h.apart, h.old.drew⟩
theorem PtS.app (h : PtS w W x y k Lx Ly) {v : Int} {g cap : Nat} (hown : W'.ownsRow w.heap.size 3 1 (.slice (some ⟨g, 0, none⟩) (k + 1) cap) (k + 1) (Lx.map (Value.int .i64) ++ [.int .i64 v])) (hg : W.grownBy W' x.ownBlock) (hat : x.ownBlock = some g ∨ g = W.heap.size) :
    PtS w W' (.slice (some ⟨g, 0, none⟩) (k + 1) cap) y (k + 1) (Lx ++ [v]) Ly := by
  refine ⟨by rw [List.map_append]; exact hown, h.own2.kept hg ?_, fun g' e => ?_, h.old.grown hg h.le (fun g hg => (World.ownsRow.lt h.own g hg).1)⟩
  · cases hy : y.ownBlock with
    | none => exact .inl rfl
    | some q => exact .inr fun e => h.apart q e.symm hy
  · have e' : g = g' := by injection e
    subst e'
    rcases hat with hat | hat
    · exact h.apart g hat
    · intro e2
      have := World.ownsRow.lt h.own2 g e2
      omega
end
theorem news_of_cell {W : World} {b : Nat} {v : Value} (h : W.cell? ⟨b, 0, none⟩ = some v) : ∀ j u, [v][j]? = some u → W.cell? ((⟨b, 0, none⟩ : Addr).add j) = some u := fun j u hj => by
  cases j with
  | zero => simp at hj; subst hj; exact h
  | succ j => simp at hj
theorem cell_stays {W W' : World} {b : Nat} {r : Option Nat} {v : Value} (hg : W.grownBy W' r) (h : W.cell? ⟨b, 0, none⟩ = some v) (hl : b < W.heap.size) (hn : some b ≠ r) : W'.cell? ⟨b, 0, none⟩ = some v :=
  (World.cell?_of_block (a := ⟨b, 0, none⟩) (hg.block b hl hn)).trans h
theorem cell_new (W : World) (v : Value) (t : TypeId) : (W.alloc (.cells #[v] t)).cell? ⟨W.heap.size, 0, none⟩ = some v := by rw [World.cell?_alloc_new]; rfl
theorem cell_new2 (W : World) (o : Obj) (v : Value) (t : TypeId) : ((W.alloc o).alloc (.cells #[v] t)).cell? ⟨W.heap.size + 1, 0, none⟩ = some v := by
  have := cell_new (W.alloc o) v t
  rwa [show (W.alloc o).heap.size = W.heap.size + 1 by simp] at this
theorem cell_new1 (W : World) (o : Obj) (v : Value) (t : TypeId) : ((W.alloc (.cells #[v] t)).alloc o).cell? ⟨W.heap.size, 0, none⟩ = some v :=
  ((Below.refl _ (W.alloc (.cells #[v] t))).alloc (Nat.le_refl _) o).cell (p := ⟨W.heap.size, 0, none⟩) (by simp) |>.trans (cell_new W v t)
def CellsK (W : World) (lb bu q : Nat) (h yv : Int) (u : Value) : Prop := lb < W.heap.size ∧ bu < W.heap.size ∧ W.cell? ⟨lb, 0, none⟩ = some (.int .i64 h) ∧ W.cell? ⟨lb, 1, none⟩ = some u ∧ W.cell? ⟨bu, q, none⟩ = some (.int .i64 yv)
theorem CellsK.alloc {W : World} {lb bu q : Nat} {h yv : Int} {u : Value} (k : CellsK W lb bu q h yv u) (o : Obj) : CellsK (W.alloc o) lb bu q h yv u := by
  have hb := (Below.refl _ W).alloc (Nat.le_refl _) o
  have hs := hb.size
  obtain ⟨k1, k2, k3, k4, k5⟩ := k
  exact ⟨by omega, by omega, (hb.cell (p := ⟨lb, 0, none⟩) k1).trans k3, (hb.cell (p := ⟨lb, 1, none⟩) k1).trans k4, (hb.cell (p := ⟨bu, q, none⟩) k2).trans k5⟩
theorem CellsK.drew {W : World} {lb bu q : Nat} {h yv : Int} {u : Value} (k : CellsK W lb bu q h yv u) : CellsK W.drew lb bu q h yv u := k
theorem CellsK.grown {W W' : World} {lb bu q : Nat} {h yv : Int} {u : Value} {r : Option Nat} (k : CellsK W lb bu q h yv u) (hg : W.grownBy W' r) (n : some lb ≠ r ∧ some bu ≠ r) : CellsK W' lb bu q h yv u := by
  have hs := hg.size
  obtain ⟨k1, k2, k3, k4, k5⟩ := k
  exact ⟨by omega, by omega, (World.cell?_of_block (a := ⟨lb, 0, none⟩) (hg.block lb k1 n.1)).trans k3, (World.cell?_of_block (a := ⟨lb, 1, none⟩) (hg.block lb k1 n.1)).trans k4, (World.cell?_of_block (a := ⟨bu, q, none⟩) (hg.block bu k2 n.2)).trans k5⟩
def PointsPost (L : List Sh) (i : Nat) (w : World) (e : Ending) (w' : World) : Prop := ∃ vx vy, e = .returned (.tuple #[vx, vy]) ∧ OwnI w' w.heap.size vx (hsOf L) ∧ OwnI w' w.heap.size vy (colY L i) ∧ Below w.heap.size w w'
/-- The same, and the two rows lie in two arrays. -/
def PointsPost2 (L : List Sh) (i : Nat) (w : World) (e : Ending) (w' : World) : Prop := ∃ vx vy, e = .returned (.tuple #[vx, vy]) ∧ OwnI w' w.heap.size vx (hsOf L) ∧ OwnI w' w.heap.size vy (colY L i) ∧ Below w.heap.size w w' ∧ ∀ g, vx.ownBlock = some g → vy.ownBlock ≠ some g
set_option maxRecDepth 100000 in
set_option maxHeartbeats 16000000 in
theorem r_Points2 (v : Value) (L : List Sh) (i : Nat) (S : Nat → Prop) (w : World) (hv : ShAt w S v L) (hS : ∀ b, S b → b < w.heap.size) (hl : L.length ≤ 1000) (hi9 : ∀ k, k < L.length → i < (shAt L k).2.length) :
    Calls Tryz.prog 79 #[v, .int .i64 (i : Int)] w (PointsPost2 L i w) := by
  obtain ⟨A, n, c, rfl, hn, hnc, hc⟩ := hv
  obtain ⟨i0, hi, hz0, hz1, hz2⟩ := info_parts infoI
  have hn1 : n ≤ 1000 := by omega
  rw [← hn] at hi9
  have HN := Lib.hid hn
  have HI := Lib.hid hi9
  have HC := Lib.hid hc
  have q0 : (0 : Int) ≤ (i : Int) := by omega
  clear hn hl hi9 hc
  go_enter Tryz.func79, Tryz.ntmps79
  go_wp2_with fail
  go_loopw [6, 7, 12] (fun x y t wr => ∃ k : Nat, k ≤ n ∧ t = .int .i64 k ∧ PtS w wr x y k (hsOf (L.take k)) (colY (L.take k) i)) (fun _ _ t _ => n - (Go.RowKit.intOf t).toNat)
  case atStart => exact ⟨0, by omega, rfl, World.ownsRow_nil _ _ _ _, World.ownsRow_nil _ _ _ _, (fun g hg => by cases hg), Below.refl _ _⟩
  case round =>
    obtain ⟨k, hk, rfl, hp⟩ := hrel
    have hsz := hp.le
    by_cases hlt : k < n
    · obtain ⟨b, off, rfl, hSb, hcell⟩ := HC.out (by omega)
      obtain ⟨u, c0, c1, hu⟩ := hcell k hlt
      obtain ⟨Au, nu, cu, rfl, e1, e2, e3⟩ := hu
      have hiL := HI.out k hlt
      obtain ⟨bu, offu, rfl, hSu, hcu⟩ := e3 (by omega)
      have hbw := hS b hSb
      have hbu := hS bu hSu
      have d0 := (hp.old.cell (p := ⟨b, off + k * 2, none⟩) hbw).trans c0
      have d1 := (hp.old.cell (p := ⟨b, off + k * 2 + 1, none⟩) hbw).trans c1
      have qk : (k : Int) < (n : Int) := by omega
      have qi : (i : Int) < (nu : Int) := by omega
      obtain ⟨yv, hy⟩ : ∃ y, (shAt L k).2.getD i 0 = y := ⟨_, rfl⟩
      obtain ⟨h, hh⟩ : ∃ h, (shAt L k).1 = h := ⟨_, rfl⟩
      rw [hh] at d0
      have hkl : k < L.length := by rw [← HN.out]; exact hlt
      have hat : shAt L k = L[k] := by unfold shAt; rw [List.getD_eq_getElem?_getD, List.getElem?_eq_getElem hkl]; rfl
      have hs1 : hsOf (L.take (k + 1)) = hsOf (L.take k) ++ [h] := by
        unfold hsOf
        rw [List.take_succ_eq_append_getElem hkl, List.map_append, ← hh, hat]; rfl
      have hs2 : colY (L.take (k + 1)) i = colY (L.take k) i ++ [yv] := by
        unfold colY
        rw [List.take_succ_eq_append_getElem hkl, List.map_append, ← hy, hat]; rfl
      have hly : k = (colY (L.take k) i).length := by rw [colY_len, List.length_take]; omega
      have hlx := hp.lenx
      have hlx1 : k + 1 = (hsOf (L.take k) ++ [h]).length := by rw [List.length_append, ← hlx]; rfl
      have HLY := Lib.hid hly
      have HLX := Lib.hid hlx
      have HLX1 := Lib.hid hlx1
      have hpa := hp.alloc (.cells #[.int .i64 h, .slice (some ⟨bu, offu, none⟩) nu cu] 49)
      have d2 := (hpa.old.cell (p := ⟨bu, offu + i, none⟩) hbu).trans (hcu i (by omega))
      rw [hy] at d2
      have a0 : (wr.alloc (.cells #[.int .i64 h, .slice (some ⟨bu, offu, none⟩) nu cu] 49)).cell? ⟨wr.heap.size, 0, none⟩ = some (.int .i64 h) := by rw [World.cell?_alloc_new]; rfl
      have a1 : (wr.alloc (.cells #[.int .i64 h, .slice (some ⟨bu, offu, none⟩) nu cu] 49)).cell? ⟨wr.heap.size, 1, none⟩ = some (.slice (some ⟨bu, offu, none⟩) nu cu) := by rw [World.cell?_alloc_new]; rfl
      have nx : some wr.heap.size ≠ u6.ownBlock ∧ some bu ≠ u6.ownBlock := ⟨fun e => by have := World.ownsRow.lt hp.own _ e.symm; omega, fun e => by have := World.ownsRow.lt hp.own _ e.symm; omega⟩
      have ny : some wr.heap.size ≠ u7.ownBlock ∧ some bu ≠ u7.ownBlock := ⟨fun e => by have := World.ownsRow.lt hp.own2 _ e.symm; omega, fun e => by have := World.ownsRow.lt hp.own2 _ e.symm; omega⟩
      have hkk : CellsK (wr.alloc (.cells #[.int .i64 h, .slice (some ⟨bu, offu, none⟩) nu cu] 49)) wr.heap.size bu (offu + i) h yv (.slice (some ⟨bu, offu, none⟩) nu cu) := ⟨by simp, by simp; omega, a0, a1, d2⟩
      have NX := Lib.hid nx
      have NY := Lib.hid ny
      have HK := Lib.hid hkk
      clear nx ny hkk
      have HP := Lib.hid hpa
      have HS1 := Lib.hid hs1
      have HS2 := Lib.hid hs2
      clear hly hlx hlx1 hp hpa hcell c0 c1 hh hy hs1 hs2 e1 e2 e3 hcu hiL hat hkl
      go_wp2_with fail
      clear d0 d1
      generalize (wr.alloc (.cells #[.int .i64 h, .slice (some ⟨bu, offu, none⟩) nu cu] 49)) = wa at *
      generalize hsOf (L.take k) = Lx at *
      generalize colY (L.take k) i = Ly at *
      have j0 := fun o => (HK.out.alloc o).2.2.1
      have j1 := fun o => (HK.out.alloc o).2.2.2.1
      have j2 := fun o => (HK.out.alloc o).2.2.2.2
      have j3 := fun o o' => ((HK.out.alloc o).alloc o').2.2.1
      have j4 := fun o o' => ((HK.out.alloc o).alloc o').2.2.2.1
      have j5 := fun o o' => ((HK.out.alloc o).alloc o').2.2.2.2
      have CA1 := Lib.hid (cell_new wa (.int .i64 h) 3)
      have CB1 := Lib.hid (cell_new wa (.int .i64 yv) 3)
      have CAB := Lib.hid (And.intro (cell_new1 wa (.cells #[.int .i64 yv] 3) (.int .i64 h) 3) (cell_new2 wa (.cells #[.int .i64 h] 3) (.int .i64 yv) 3))
      have CBA := Lib.hid (And.intro (cell_new1 wa (.cells #[.int .i64 h] 3) (.int .i64 yv) 3) (cell_new2 wa (.cells #[.int .i64 yv] 3) (.int .i64 h) 3))
      have HNX := Lib.hid (show some (wa.heap.size + 1) ≠ u6.ownBlock ∧ some wa.heap.size ≠ u6.ownBlock from ⟨fun e => by have := World.ownsRow.lt HP.out.own _ e.symm; omega, fun e => by have := World.ownsRow.lt HP.out.own _ e.symm; omega⟩)
      have HNY := Lib.hid (show some (wa.heap.size + 1) ≠ u7.ownBlock ∧ some wa.heap.size ≠ u7.ownBlock from ⟨fun e => by have := World.ownsRow.lt HP.out.own2 _ e.symm; omega, fun e => by have := World.ownsRow.lt HP.out.own2 _ e.symm; omega⟩)
      go_region_law (first
          | (refine step_append_lies ((wa.alloc (.cells #[.int .i64 h] 3)).drew) (by rfl) _ _ _ (by rfl) w.heap.size 3 i0 _ 1 8 Tryz.underlying24 hi hz0 hz1 hz2 rfl (by omega) u6 k _ (by (try simp only [List.getElem_toArray, List.getElem_cons_succ, List.getElem_cons_zero, Act.put, List.setIfInBounds_toArray, List.set_cons_zero, List.set_cons_succ]); rfl) ((HP.out.alloc _).drew).own ⟨wa.heap.size, 0, none⟩ 1 1 [.int .i64 h] (by (try simp only [List.getElem_toArray, List.getElem_cons_succ, List.getElem_cons_zero, Act.put, List.setIfInBounds_toArray, List.set_cons_zero, List.set_cons_succ]); rfl) (by rfl) (news_of_cell CA1.out) (ints_oneCell .i64 [_]) (by omega) (by simp only [maxLen]; omega) (by omega) ((HP.out.alloc _).drew).le _ rfl ?_
             intro g1 cap1 w4 hown hgrow hat hlt
             have HPA := Lib.hid (((HP.out.alloc _).drew).app hown hgrow hat)
             have kk := CellsK.grown (show CellsK ((wa.alloc (.cells #[.int .i64 h] 3)).drew) _ _ _ h yv _ from (HK.out.alloc _).drew) hgrow NX.out
             obtain ⟨_, _, k0, k1, k2⟩ := id kk
             have k3 := fun o => (kk.alloc o).2.2.1
             have k4 := fun o => (kk.alloc o).2.2.2.1
             have k5 := fun o => (kk.alloc o).2.2.2.2
             clear kk
             clear hown hgrow hat hlt)
          | (refine step_append_lies (((wa.alloc (.cells #[.int .i64 h] 3)).alloc (.cells #[.int .i64 yv] 3)).drew) (by rfl) _ _ _ (by rfl) w.heap.size 3 i0 _ 1 8 Tryz.underlying24 hi hz0 hz1 hz2 rfl (by omega) u6 k _ (by (try simp only [List.getElem_toArray, List.getElem_cons_succ, List.getElem_cons_zero, Act.put, List.setIfInBounds_toArray, List.set_cons_zero, List.set_cons_succ]); rfl) (((HP.out.alloc _).alloc _).drew).own ⟨wa.heap.size, 0, none⟩ 1 1 [.int .i64 h] (by (try simp only [List.getElem_toArray, List.getElem_cons_succ, List.getElem_cons_zero, Act.put, List.setIfInBounds_toArray, List.set_cons_zero, List.set_cons_succ]); rfl) (by rfl) (news_of_cell CAB.out.1) (ints_oneCell .i64 [_]) (by omega) (by simp only [maxLen]; omega) (by omega) (((HP.out.alloc _).alloc _).drew).le _ rfl ?_
             intro g1 cap1 w4 hown hgrow hat hlt
             have HPA := Lib.hid ((((HP.out.alloc _).alloc _).drew).app hown hgrow hat)
             have HC := Lib.hid (cell_stays (b := wa.heap.size + 1) hgrow CAB.out.2 (by simp <;> omega) HNX.out.1)
             have kk := CellsK.grown (show CellsK (((wa.alloc (.cells #[.int .i64 h] 3)).alloc (.cells #[.int .i64 yv] 3)).drew) _ _ _ h yv _ from ((HK.out.alloc _).alloc _).drew) hgrow NX.out
             obtain ⟨_, _, k0, k1, k2⟩ := id kk
             have k3 := fun o => (kk.alloc o).2.2.1
             have k4 := fun o => (kk.alloc o).2.2.2.1
             have k5 := fun o => (kk.alloc o).2.2.2.2
             clear kk
             clear hown hgrow hat hlt)
          | (refine step_append_lies (((wa.alloc (.cells #[.int .i64 yv] 3)).alloc (.cells #[.int .i64 h] 3)).drew) (by rfl) _ _ _ (by rfl) w.heap.size 3 i0 _ 1 8 Tryz.underlying24 hi hz0 hz1 hz2 rfl (by omega) u6 k _ (by (try simp only [List.getElem_toArray, List.getElem_cons_succ, List.getElem_cons_zero, Act.put, List.setIfInBounds_toArray, List.set_cons_zero, List.set_cons_succ]); rfl) (((HP.out.alloc _).alloc _).drew).own ⟨wa.heap.size + 1, 0, none⟩ 1 1 [.int .i64 h] (by (try simp only [List.getElem_toArray, List.getElem_cons_succ, List.getElem_cons_zero, Act.put, List.setIfInBounds_toArray, List.set_cons_zero, List.set_cons_succ]); rfl) (by rfl) (news_of_cell CBA.out.2) (ints_oneCell .i64 [_]) (by omega) (by simp only [maxLen]; omega) (by omega) (((HP.out.alloc _).alloc _).drew).le _ rfl ?_
             intro g1 cap1 w4 hown hgrow hat hlt
             have HPA := Lib.hid ((((HP.out.alloc _).alloc _).drew).app hown hgrow hat)
             have HC := Lib.hid (cell_stays (b := wa.heap.size) hgrow CBA.out.1 (by simp <;> omega) HNX.out.2)
             have kk := CellsK.grown (show CellsK (((wa.alloc (.cells #[.int .i64 yv] 3)).alloc (.cells #[.int .i64 h] 3)).drew) _ _ _ h yv _ from ((HK.out.alloc _).alloc _).drew) hgrow NX.out
             obtain ⟨_, _, k0, k1, k2⟩ := id kk
             have k3 := fun o => (kk.alloc o).2.2.1
             have k4 := fun o => (kk.alloc o).2.2.2.1
             have k5 := fun o => (kk.alloc o).2.2.2.2
             clear kk
             clear hown hgrow hat hlt)
          | (refine step_append_lies ((wa.alloc (.cells #[.int .i64 yv] 3)).drew) (by rfl) _ _ _ (by rfl) w.heap.size 3 i0 _ 1 8 Tryz.underlying24 hi hz0 hz1 hz2 rfl (by omega) u7 k _ (by (try simp only [List.getElem_toArray, List.getElem_cons_succ, List.getElem_cons_zero, Act.put, List.setIfInBounds_toArray, List.set_cons_zero, List.set_cons_succ]); rfl) (((HP.out.alloc _).drew.swap HLY.out)).own ⟨wa.heap.size, 0, none⟩ 1 1 [.int .i64 yv] (by (try simp only [List.getElem_toArray, List.getElem_cons_succ, List.getElem_cons_zero, Act.put, List.setIfInBounds_toArray, List.set_cons_zero, List.set_cons_succ]); rfl) (by rfl) (news_of_cell CB1.out) (ints_oneCell .i64 [_]) (by omega) (by simp only [maxLen]; omega) (by omega) (((HP.out.alloc _).drew.swap HLY.out)).le _ rfl ?_
             intro g2 cap2 w5 hown hgrow hat hlt
             have HPB := Lib.hid ((((HP.out.alloc _).drew.swap HLY.out)).app hown hgrow hat)
             have kk := CellsK.grown (show CellsK ((wa.alloc (.cells #[.int .i64 yv] 3)).drew) _ _ _ h yv _ from (HK.out.alloc _).drew) hgrow NY.out
             obtain ⟨_, _, k0, k1, k2⟩ := id kk
             have k3 := fun o => (kk.alloc o).2.2.1
             have k4 := fun o => (kk.alloc o).2.2.2.1
             have k5 := fun o => (kk.alloc o).2.2.2.2
             clear kk
             clear hown hgrow hat hlt)
          | (refine step_append_lies (((wa.alloc (.cells #[.int .i64 h] 3)).alloc (.cells #[.int .i64 yv] 3)).drew) (by rfl) _ _ _ (by rfl) w.heap.size 3 i0 _ 1 8 Tryz.underlying24 hi hz0 hz1 hz2 rfl (by omega) u7 k _ (by (try simp only [List.getElem_toArray, List.getElem_cons_succ, List.getElem_cons_zero, Act.put, List.setIfInBounds_toArray, List.set_cons_zero, List.set_cons_succ]); rfl) ((((HP.out.alloc _).alloc _).drew.swap HLY.out)).own ⟨wa.heap.size + 1, 0, none⟩ 1 1 [.int .i64 yv] (by (try simp only [List.getElem_toArray, List.getElem_cons_succ, List.getElem_cons_zero, Act.put, List.setIfInBounds_toArray, List.set_cons_zero, List.set_cons_succ]); rfl) (by rfl) (news_of_cell CAB.out.2) (ints_oneCell .i64 [_]) (by omega) (by simp only [maxLen]; omega) (by omega) ((((HP.out.alloc _).alloc _).drew.swap HLY.out)).le _ rfl ?_
             intro g2 cap2 w5 hown hgrow hat hlt
             have HPB := Lib.hid (((((HP.out.alloc _).alloc _).drew.swap HLY.out)).app hown hgrow hat)
             have HC := Lib.hid (cell_stays (b := wa.heap.size) hgrow CAB.out.1 (by simp <;> omega) HNY.out.2)
             have kk := CellsK.grown (show CellsK (((wa.alloc (.cells #[.int .i64 h] 3)).alloc (.cells #[.int .i64 yv] 3)).drew) _ _ _ h yv _ from ((HK.out.alloc _).alloc _).drew) hgrow NY.out
             obtain ⟨_, _, k0, k1, k2⟩ := id kk
             have k3 := fun o => (kk.alloc o).2.2.1
             have k4 := fun o => (kk.alloc o).2.2.2.1
             have k5 := fun o => (kk.alloc o).2.2.2.2
             clear kk
             clear hown hgrow hat hlt)
          | (refine step_append_lies (((wa.alloc (.cells #[.int .i64 yv] 3)).alloc (.cells #[.int .i64 h] 3)).drew) (by rfl) _ _ _ (by rfl) w.heap.size 3 i0 _ 1 8 Tryz.underlying24 hi hz0 hz1 hz2 rfl (by omega) u7 k _ (by (try simp only [List.getElem_toArray, List.getElem_cons_succ, List.getElem_cons_zero, Act.put, List.setIfInBounds_toArray, List.set_cons_zero, List.set_cons_succ]); rfl) ((((HP.out.alloc _).alloc _).drew.swap HLY.out)).own ⟨wa.heap.size, 0, none⟩ 1 1 [.int .i64 yv] (by (try simp only [List.getElem_toArray, List.getElem_cons_succ, List.getElem_cons_zero, Act.put, List.setIfInBounds_toArray, List.set_cons_zero, List.set_cons_succ]); rfl) (by rfl) (news_of_cell CBA.out.1) (ints_oneCell .i64 [_]) (by omega) (by simp only [maxLen]; omega) (by omega) ((((HP.out.alloc _).alloc _).drew.swap HLY.out)).le _ rfl ?_
             intro g2 cap2 w5 hown hgrow hat hlt
             have HPB := Lib.hid (((((HP.out.alloc _).alloc _).drew.swap HLY.out)).app hown hgrow hat)
             have HC := Lib.hid (cell_stays (b := wa.heap.size + 1) hgrow CBA.out.2 (by simp <;> omega) HNY.out.1)
             have kk := CellsK.grown (show CellsK (((wa.alloc (.cells #[.int .i64 yv] 3)).alloc (.cells #[.int .i64 h] 3)).drew) _ _ _ h yv _ from ((HK.out.alloc _).alloc _).drew) hgrow NY.out
             obtain ⟨_, _, k0, k1, k2⟩ := id kk
             have k3 := fun o => (kk.alloc o).2.2.1
             have k4 := fun o => (kk.alloc o).2.2.2.1
             have k5 := fun o => (kk.alloc o).2.2.2.2
             clear kk
             clear hown hgrow hat hlt)
          | (refine step_append_lies (w4.alloc (.cells #[.int .i64 yv] 3)) (by rfl) _ _ _ (by rfl) w.heap.size 3 i0 _ 1 8 Tryz.underlying24 hi hz0 hz1 hz2 rfl (by omega) u7 k _ (by (try simp only [List.getElem_toArray, List.getElem_cons_succ, List.getElem_cons_zero, Act.put, List.setIfInBounds_toArray, List.set_cons_zero, List.set_cons_succ]); rfl) (((HPA.out.alloc _).swap HLY.out)).own ⟨w4.heap.size, 0, none⟩ 1 1 [.int .i64 yv] (by (try simp only [List.getElem_toArray, List.getElem_cons_succ, List.getElem_cons_zero, Act.put, List.setIfInBounds_toArray, List.set_cons_zero, List.set_cons_succ]); rfl) (by rfl) (news_of_cell (cell_new _ _ _)) (ints_oneCell .i64 [_]) (by omega) (by simp only [maxLen]; omega) (by omega) (((HPA.out.alloc _).swap HLY.out)).le _ rfl ?_
             intro g2 cap2 w5 hown hgrow hat hlt
             have HPB := Lib.hid ((((HPA.out.alloc _).swap HLY.out)).app hown hgrow hat)
             have HPF := Lib.hid (HPB.out.swap HLX1.out)
             clear hown hgrow hat hlt)
          | (refine step_append_lies (w4) (by rfl) _ _ _ (by rfl) w.heap.size 3 i0 _ 1 8 Tryz.underlying24 hi hz0 hz1 hz2 rfl (by omega) u7 k _ (by (try simp only [List.getElem_toArray, List.getElem_cons_succ, List.getElem_cons_zero, Act.put, List.setIfInBounds_toArray, List.set_cons_zero, List.set_cons_succ]); rfl) ((HPA.out.swap HLY.out)).own ⟨wa.heap.size + 1, 0, none⟩ 1 1 [.int .i64 yv] (by (try simp only [List.getElem_toArray, List.getElem_cons_succ, List.getElem_cons_zero, Act.put, List.setIfInBounds_toArray, List.set_cons_zero, List.set_cons_succ]); rfl) (by rfl) (news_of_cell HC.out) (ints_oneCell .i64 [_]) (by omega) (by simp only [maxLen]; omega) (by omega) ((HPA.out.swap HLY.out)).le _ rfl ?_
             intro g2 cap2 w5 hown hgrow hat hlt
             have HPB := Lib.hid (((HPA.out.swap HLY.out)).app hown hgrow hat)
             have HPF := Lib.hid (HPB.out.swap HLX1.out)
             clear hown hgrow hat hlt)
          | (refine step_append_lies (w4) (by rfl) _ _ _ (by rfl) w.heap.size 3 i0 _ 1 8 Tryz.underlying24 hi hz0 hz1 hz2 rfl (by omega) u7 k _ (by (try simp only [List.getElem_toArray, List.getElem_cons_succ, List.getElem_cons_zero, Act.put, List.setIfInBounds_toArray, List.set_cons_zero, List.set_cons_succ]); rfl) ((HPA.out.swap HLY.out)).own ⟨wa.heap.size, 0, none⟩ 1 1 [.int .i64 yv] (by (try simp only [List.getElem_toArray, List.getElem_cons_succ, List.getElem_cons_zero, Act.put, List.setIfInBounds_toArray, List.set_cons_zero, List.set_cons_succ]); rfl) (by rfl) (news_of_cell HC.out) (ints_oneCell .i64 [_]) (by omega) (by simp only [maxLen]; omega) (by omega) ((HPA.out.swap HLY.out)).le _ rfl ?_
             intro g2 cap2 w5 hown hgrow hat hlt
             have HPB := Lib.hid (((HPA.out.swap HLY.out)).app hown hgrow hat)
             have HPF := Lib.hid (HPB.out.swap HLX1.out)
             clear hown hgrow hat hlt)
          | (refine step_append_lies (w5.alloc (.cells #[.int .i64 h] 3)) (by rfl) _ _ _ (by rfl) w.heap.size 3 i0 _ 1 8 Tryz.underlying24 hi hz0 hz1 hz2 rfl (by omega) u6 k _ (by (try simp only [List.getElem_toArray, List.getElem_cons_succ, List.getElem_cons_zero, Act.put, List.setIfInBounds_toArray, List.set_cons_zero, List.set_cons_succ]); rfl) (((HPB.out.alloc _).swap HLX.out)).own ⟨w5.heap.size, 0, none⟩ 1 1 [.int .i64 h] (by (try simp only [List.getElem_toArray, List.getElem_cons_succ, List.getElem_cons_zero, Act.put, List.setIfInBounds_toArray, List.set_cons_zero, List.set_cons_succ]); rfl) (by rfl) (news_of_cell (cell_new _ _ _)) (ints_oneCell .i64 [_]) (by omega) (by simp only [maxLen]; omega) (by omega) (((HPB.out.alloc _).swap HLX.out)).le _ rfl ?_
             intro g1 cap1 w4 hown hgrow hat hlt
             have HPA := Lib.hid ((((HPB.out.alloc _).swap HLX.out)).app hown hgrow hat)
             have HPF := Lib.hid HPA.out
             clear hown hgrow hat hlt)
          | (refine step_append_lies (w5) (by rfl) _ _ _ (by rfl) w.heap.size 3 i0 _ 1 8 Tryz.underlying24 hi hz0 hz1 hz2 rfl (by omega) u6 k _ (by (try simp only [List.getElem_toArray, List.getElem_cons_succ, List.getElem_cons_zero, Act.put, List.setIfInBounds_toArray, List.set_cons_zero, List.set_cons_succ]); rfl) ((HPB.out.swap HLX.out)).own ⟨wa.heap.size, 0, none⟩ 1 1 [.int .i64 h] (by (try simp only [List.getElem_toArray, List.getElem_cons_succ, List.getElem_cons_zero, Act.put, List.setIfInBounds_toArray, List.set_cons_zero, List.set_cons_succ]); rfl) (by rfl) (news_of_cell HC.out) (ints_oneCell .i64 [_]) (by omega) (by simp only [maxLen]; omega) (by omega) ((HPB.out.swap HLX.out)).le _ rfl ?_
             intro g1 cap1 w4 hown hgrow hat hlt
             have HPA := Lib.hid (((HPB.out.swap HLX.out)).app hown hgrow hat)
             have HPF := Lib.hid HPA.out
             clear hown hgrow hat hlt)
          | (refine step_append_lies (w5) (by rfl) _ _ _ (by rfl) w.heap.size 3 i0 _ 1 8 Tryz.underlying24 hi hz0 hz1 hz2 rfl (by omega) u6 k _ (by (try simp only [List.getElem_toArray, List.getElem_cons_succ, List.getElem_cons_zero, Act.put, List.setIfInBounds_toArray, List.set_cons_zero, List.set_cons_succ]); rfl) ((HPB.out.swap HLX.out)).own ⟨wa.heap.size + 1, 0, none⟩ 1 1 [.int .i64 h] (by (try simp only [List.getElem_toArray, List.getElem_cons_succ, List.getElem_cons_zero, Act.put, List.setIfInBounds_toArray, List.set_cons_zero, List.set_cons_succ]); rfl) (by rfl) (news_of_cell HC.out) (ints_oneCell .i64 [_]) (by omega) (by simp only [maxLen]; omega) (by omega) ((HPB.out.swap HLX.out)).le _ rfl ?_
             intro g1 cap1 w4 hown hgrow hat hlt
             have HPA := Lib.hid (((HPB.out.swap HLX.out)).app hown hgrow hat)
             have HPF := Lib.hid HPA.out
             clear hown hgrow hat hlt))
      all_goals
        have hpf : PtS w _ _ _ (k + 1) (Lx ++ [h]) (Ly ++ [yv]) := HPF.out
        go_wp2_with fail
        go_roundw
        case measure => simp [Go.RowKit.intOf]; omega
        case rel => exact ⟨k + 1, by omega, by go_num, by rw [HS1.out, HS2.out]; exact hpf⟩
    · have hkn : k = n := by omega
      subst hkn
      have e1 : L.take k = L := List.take_of_length_le (by rw [← HN.out]; exact Nat.le_refl _)
      rw [e1] at hp
      have HP := Lib.hid hp
      clear hp e1
      go_wp2_with fail
      go_ret2
      have hll : k = (hsOf L).length := by rw [hsOf_len]; exact HN.out
      exact ⟨_, _, rfl, by have := HP.out.own; rw [hll] at this; exact this, HP.out.own2, HP.out.old, HP.out.apart⟩
theorem r_Points (v : Value) (L : List Sh) (i : Nat) (S : Nat → Prop) (w : World) (hv : ShAt w S v L) (hS : ∀ b, S b → b < w.heap.size) (hl : L.length ≤ 1000) (hi9 : ∀ k, k < L.length → i < (shAt L k).2.length) :
    Calls Tryz.prog 79 #[v, .int .i64 (i : Int)] w (PointsPost L i w) :=
  (r_Points2 v L i S w hv hS hl hi9).mono fun e w' ⟨vx, vy, h1, h2, h3, h4, _⟩ => ⟨vx, vy, h1, h2, h3, h4⟩
end Go.Proofs.YtjfphobfikadlaaGreatDoor
