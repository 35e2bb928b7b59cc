/- The sanity check of the chapter. -/
import Derived.Test.YtjfphobfikadlaaDoorCoRob
import Derived.Test.YtjfphobfikadlaaDoorShelf2
import Derived.Test.YtjfphobfikadlaaDoorCoRob2
import Derived.Test.YtjfphobfikadlaaDoorCoDeal
import Derived.BigRegion
set_option linter.unusedVariables false
set_option linter.unusedSimpArgs false
namespace Go.Proofs.YtjfphobfikadlaaDoor
open Go.RowKit Num Go.Sort

theorem s_Sort (B n : Nat) (v : Value) (xs : List Int) (w : World) (h : w.ownsRow B 3 1 v n (xs.map (Value.int .i64))) (hl : n ≤ 1000000) :
    Calls Tryd.prog 34 #[v] w (SortPost B n v xs w) := by
  have hlen : xs.length = n := by have := h.1; simpa using this
  rcases id h.2 with ⟨rfl, rfl⟩ | ⟨g, cap, cur, rfl, hB, hh, hnc, hm, hs, ht⟩
  · have hx : xs = [] := List.eq_nil_of_length_eq_zero hlen
    subst hx
    refine (Tryd.slices_Sort_int_none none 0 w).mono ?_
    rintro e w' ⟨rfl, rfl⟩
    exact ⟨rfl, by simpa [srt] using h, World.grownBy.refl _ _⟩
  · subst hlen
    refine (Tryd.slices_Sort_int g 0 cap xs w (holds_of_blockI hh (by rw [Nat.mul_one] at ht; exact ht)) (Array.getElem?_eq_some_iff.1 hh).1 (by omega)).mono ?_
    rintro e w' ⟨rfl, m, os, rfl⟩
    exact ⟨rfl, ownsRow_sortedI (ss := xs) (srt_len xs) hB hh hnc hm hs, grownBy_sortedI _⟩
end Go.Proofs.YtjfphobfikadlaaDoor
namespace Go.Proofs.YtjfphobfikadlaaDoor
open Go.RowKit Num

theorem prm11 : Prm 11 := by
  refine ⟨by decide, fun d h1 => ?_⟩
  have h2 : d ≤ 11 := Nat.le_of_dvd (by decide) h1
  have : ∀ d : Nat, d ≤ 11 → d ∣ 11 → d = 1 ∨ d = 11 := by decide
  exact this d h2 h1
def M11 : List Sh := [(1, [7]), (2, [4]), (3, [0]), (4, [6]), (5, [0]), (6, [4]), (7, [7])]
/-- The example's shares behind the two lies. -/
def N11 : List Sh := [(1, [7]), (2, [5]), (3, [0]), (4, [6]), (5, [0]), (6, [4]), (7, [1])]
theorem deal11 : dealL 11 2 [9] [4, 5] 7 = M11 := by decide
def bad11 (k : Nat) : Bool := k == 1 || k == 6
theorem seven {P : Nat → Prop} (h0 : P 0) (h1 : P 1) (h2 : P 2) (h3 : P 3) (h4 : P 4) (h5 : P 5) (h6 : P 6) : ∀ k, k < 7 → P k := by
  intro k hk
  rcases (show k = 0 ∨ k = 1 ∨ k = 2 ∨ k = 3 ∨ k = 4 ∨ k = 5 ∨ k = 6 by omega) with rfl | rfl | rfl | rfl | rfl | rfl | rfl <;> assumption
theorem good11 : GoodSh 11 7 1 N11 where
  holder := seven (P := fun k => 1 ≤ (shAt N11 k).1 ∧ (shAt N11 k).1 ≤ ((7 : Nat) : Int)) (by decide) (by decide) (by decide) (by decide) (by decide) (by decide) (by decide)
  once := fun i j hi hj hne => by
    have e : ∀ k, k < 7 → (shAt N11 k).1 = (k : Int) + 1 := seven (P := fun k => (shAt N11 k).1 = (k : Int) + 1) (by decide) (by decide) (by decide) (by decide) (by decide) (by decide) (by decide)
    rw [e i hi, e j hj]; omega
  len := seven (P := fun k => (shAt N11 k).2.length = 1) rfl rfl rfl rfl rfl rfl rfl
  inF := fun k hk => by
    have : ∀ k, k < 7 → ∀ j, j < 1 → 0 ≤ (shAt N11 k).2.getD j 0 ∧ (shAt N11 k).2.getD j 0 < ((11 : Nat) : Int) := seven (P := fun k => ∀ j, j < 1 → 0 ≤ (shAt N11 k).2.getD j 0 ∧ (shAt N11 k).2.getD j 0 < ((11 : Nat) : Int)) (by decide) (by decide) (by decide) (by decide) (by decide) (by decide) (by decide)
    intro j hj
    have hl : (shAt N11 k).2.length = 1 := seven (P := fun k => (shAt N11 k).2.length = 1) rfl rfl rfl rfl rfl rfl rfl k hk
    exact this k hk j (by omega)
theorem lied11 : LiedSh 11 3 1 bad11 (fun _ => [9, 4, 5]) N11 where
  can := fun i hi => ⟨⟨fun c hc => by simp at hc; rcases hc with rfl | rfl | rfl <;> decide, by decide⟩, by decide⟩
  val := fun i k hi hk => by
    have h0 : i = 0 := by omega
    subst h0
    exact seven (P := fun k => bad11 k = false → Num.ev [9, 4, 5] (shAt N11 k).1 % ((11 : Nat) : Int) = (shAt N11 k).2.getD 0 0) (by decide) (by decide) (by decide) (by decide) (by decide) (by decide) (by decide) k hk
  wrong := seven (P := fun k => bad11 k = true → Num.ev [9, 4, 5] (shAt N11 k).1 % ((11 : Nat) : Int) ≠ (shAt N11 k).2.getD 0 0) (by decide) (by decide) (by decide) (by decide) (by decide) (by decide) (by decide)
theorem mem11 (a : Int) : a ∈ [(2 : Int), 7] ↔ ∃ k, k < N11.length ∧ bad11 k = true ∧ (shAt N11 k).1 = a := by
  constructor
  · intro h
    simp at h
    rcases h with rfl | rfl
    · exact ⟨1, by decide, by decide, by decide⟩
    · exact ⟨6, by decide, by decide, by decide⟩
  · rintro ⟨k, hk, hb, rfl⟩
    exact seven (P := fun k => bad11 k = true → (shAt N11 k).1 ∈ [(2 : Int), 7]) (by decide) (by decide) (by decide) (by decide) (by decide) (by decide) (by decide) k hk hb
theorem inF_one {p : Nat} {x : Int} (h : 0 ≤ x) (h' : x < p) : InF p [x] := by
  intro k hk
  have hk0 : k = 0 := by simp at hk; omega
  subst hk0
  exact ⟨h, h'⟩
theorem inF_two {p : Nat} {x y : Int} (h : 0 ≤ x) (h' : x < p) (k : 0 ≤ y) (k' : y < p) : InF p [x, y] := by
  intro q hq
  rcases (show q = 0 ∨ q = 1 by simp at hq; omega) with rfl | rfl
  · exact ⟨h, h'⟩
  · exact ⟨k, k'⟩
theorem ints_one (w : World) (x : Int) : IntsAt (w.alloc (.cells #[.int .i64 x] 3)) (fun b => b = w.heap.size) (.slice (some ⟨w.heap.size, 0, none⟩) 1 1) [x] := by
  refine ⟨_, 1, 1, rfl, rfl, Nat.le_refl _, fun _ => ⟨_, 0, rfl, rfl, fun k hk => ?_⟩⟩
  have hk0 : k = 0 := by omega
  subst hk0
  rw [World.cell?_alloc_new]; rfl
theorem ints_two (w : World) (x y : Int) : IntsAt (w.alloc (.cells #[.int .i64 x, .int .i64 y] 3)) (fun b => b = w.heap.size) (.slice (some ⟨w.heap.size, 0, none⟩) 2 2) [x, y] := by
  refine ⟨_, 2, 2, rfl, rfl, Nat.le_refl _, fun _ => ⟨_, 0, rfl, rfl, fun k hk => ?_⟩⟩
  rcases (show k = 0 ∨ k = 1 by omega) with rfl | rfl <;> (rw [World.cell?_alloc_new]; rfl)
theorem put11 : (M11.set 1 ((shAt M11 1).1, (shAt M11 1).2.set 0 5)).set 6 ((shAt (M11.set 1 ((shAt M11 1).1, (shAt M11 1).2.set 0 5)) 6).1, (shAt (M11.set 1 ((shAt M11 1).1, (shAt M11 1).2.set 0 5)) 6).2.set 0 1) = N11 := by decide

set_option maxRecDepth 100000 in
set_option maxHeartbeats 2000000 in
theorem l_awake (w : World) (hw : BasesOk w) : Calls Tryd.prog 8 #[] w (BoolBelow true w) := by
  have HW := Lib.hid hw
  clear hw
  have hb2 : Below w.heap.size w (((w.alloc (.cells #[.int .i64 11, .int .i64 3, .int .i64 7] 28)).alloc (.cells #[.int .i64 9] 3)).alloc (.cells #[.int .i64 4, .int .i64 5] 3)) := (((Below.refl _ _).alloc (Nat.le_refl _) _).alloc (by simp) _).alloc (by first | (simp; done) | (simp; omega)) _
  have kp : Blk (((w.alloc (.cells #[.int .i64 11, .int .i64 3, .int .i64 7] 28)).alloc (.cells #[.int .i64 9] 3)).alloc (.cells #[.int .i64 4, .int .i64 5] 3)) w.heap.size 28 #[.int .i64 11, .int .i64 3, .int .i64 7] := ((Blk.new w _ _).alloc _).alloc _
  have i9 : IntsAt (((w.alloc (.cells #[.int .i64 11, .int .i64 3, .int .i64 7] 28)).alloc (.cells #[.int .i64 9] 3)).alloc (.cells #[.int .i64 4, .int .i64 5] 3)) (Old (((w.alloc (.cells #[.int .i64 11, .int .i64 3, .int .i64 7] 28)).alloc (.cells #[.int .i64 9] 3)).alloc (.cells #[.int .i64 4, .int .i64 5] 3))) (.slice (some ⟨w.heap.size + 1, 0, none⟩) 1 1) [9] := by
    have := ((ints_one (w.alloc (.cells #[.int .i64 11, .int .i64 3, .int .i64 7] 28)) 9).keep fun b hb => Below.heap_alloc _ (.cells #[.int .i64 4, .int .i64 5] 3) _ (by subst hb; simp)).mono (T := Old (((w.alloc (.cells #[.int .i64 11, .int .i64 3, .int .i64 7] 28)).alloc (.cells #[.int .i64 9] 3)).alloc (.cells #[.int .i64 4, .int .i64 5] 3))) fun b hb => by subst hb; unfold Old; first | (simp; done) | (simp; omega)
    rwa [show (w.alloc (.cells #[.int .i64 11, .int .i64 3, .int .i64 7] 28)).heap.size = w.heap.size + 1 by simp] at this
  have i45 : IntsAt (((w.alloc (.cells #[.int .i64 11, .int .i64 3, .int .i64 7] 28)).alloc (.cells #[.int .i64 9] 3)).alloc (.cells #[.int .i64 4, .int .i64 5] 3)) (Old (((w.alloc (.cells #[.int .i64 11, .int .i64 3, .int .i64 7] 28)).alloc (.cells #[.int .i64 9] 3)).alloc (.cells #[.int .i64 4, .int .i64 5] 3))) (.slice (some ⟨w.heap.size + 2, 0, none⟩) 2 2) [4, 5] := by
    have := (ints_two ((w.alloc (.cells #[.int .i64 11, .int .i64 3, .int .i64 7] 28)).alloc (.cells #[.int .i64 9] 3)) 4 5).mono (T := Old (((w.alloc (.cells #[.int .i64 11, .int .i64 3, .int .i64 7] 28)).alloc (.cells #[.int .i64 9] 3)).alloc (.cells #[.int .i64 4, .int .i64 5] 3))) fun b hb => by subst hb; unfold Old; simp
    rwa [show ((w.alloc (.cells #[.int .i64 11, .int .i64 3, .int .i64 7] 28)).alloc (.cells #[.int .i64 9] 3)).heap.size = w.heap.size + 2 by simp] at this
  have hdl := r_DealA 11 2 7 [9] [4, 5] _ _ _ prm11 (by decide) (by decide) (by decide) (by decide) i9 i45 (inF_one (by decide) (by decide)) (inF_two (by decide) (by decide) (by decide) (by decide)) (by decide) (by decide) rfl
  have HDL := Lib.hid hdl
  have HB2 := Lib.hid hb2
  have KP := Lib.hid kp
  clear hdl i9 i45 hb2 kp
  go_enter Tryd.func8, Tryd.ntmps8
  go_wp2_with fail
  refine (HDL.out).mono ?_
  rintro e w1 ⟨v, rfl, hv, hb1⟩
  rw [deal11] at hv
  obtain ⟨cells, gs, cs, hv⟩ := hv
  change OwnShG w1 _ v M11 cells gs cs at hv
  have kp1 := KP.out.below hb1 KP.out.lt
  have hbw := HB2.out.trans (hb1.mono HB2.out.size)
  obtain ⟨g, cap, hveq, hcap, hBg, hgl, hcell⟩ := hv.form (by decide)
  replace hveq : v = .slice (some ⟨g, 0, none⟩) 7 cap := hveq
  subst hveq
  have hn16 := hv.ne (i := 1) (k := 6) (by decide) (by decide) (by decide)
  have c3 : w1.cell? ⟨g, 3, none⟩ = some (.slice (some ⟨gs 1, 0, none⟩) 1 (cs 1)) := (hcell 1 (by decide)).2
  have c13 : w1.cell? ⟨g, 13, none⟩ = some (.slice (some ⟨gs 6, 0, none⟩) 1 (cs 6)) := (hcell 6 (by decide)).2
  have o1 := (hv.2 1 (by decide)).2.2.1
  have o6 := (hv.2 6 (by decide)).2.2.1
  have v1 : w1.cell? ⟨gs 1, 0, none⟩ = some (.int .i64 4) := o1.cell 0 (by decide)
  have v6 : w1.cell? ⟨gs 6, 0, none⟩ = some (.int .i64 7) := o6.cell 0 (by decide)
  have f1 : w1.frozen? ⟨gs 1, 0, none⟩ = false := o1.frozen 0
  have f6 : w1.frozen? ⟨gs 6, 0, none⟩ = false := o6.frozen 0
  have e1 := (hv.far (i := 1) (by decide)).resolve_left (by simp [Value.ownBlock])
  have e6 := (hv.far (i := 6) (by decide)).resolve_left (by simp [Value.ownBlock])
  have ne1 : gs 1 ≠ g := fun e => e1 (by simp [Value.ownBlock, e])
  have ne6 : gs 6 ≠ g := fun e => e6 (by simp [Value.ownBlock, e])
  obtain ⟨p1, hg1⟩ := hv.put (i := 1) (by decide) 0 5
  obtain ⟨p2, hg2⟩ := p1.put (i := 6) (by decide) 0 1
  rw [put11] at p2
  have l1 := o1.lt
  have l6 := o6.lt
  have k1 : (w1.setCell ⟨gs 1, 0, none⟩ (.int .i64 5)).frozen? ⟨gs 6, 0, none⟩ = false := (World.frozen?_of_block (a := ⟨gs 6, 0, none⟩) (hg1.block (gs 6) l6.2 (by simp; exact hn16))).trans f6
  have k2 : (w1.setCell ⟨gs 1, 0, none⟩ (.int .i64 5)).cell? ⟨gs 6, 0, none⟩ = some (.int .i64 7) := (World.cell?_of_block (a := ⟨gs 6, 0, none⟩) (hg1.block (gs 6) l6.2 (by simp; exact hn16))).trans v6
  have k3 : (w1.setCell ⟨gs 1, 0, none⟩ (.int .i64 5)).cell? ⟨g, 13, none⟩ = some (.slice (some ⟨gs 6, 0, none⟩) 1 (cs 6)) := (World.cell?_of_block (a := ⟨g, 13, none⟩) (hg1.block g hgl (by simp; exact Ne.symm ne1))).trans c13
  have kpl : w.heap.size < (((w.alloc (.cells #[.int .i64 11, .int .i64 3, .int .i64 7] 28)).alloc (.cells #[.int .i64 9] 3)).alloc (.cells #[.int .i64 4, .int .i64 5] 3)).heap.size := KP.out.lt
  have ll1 : w.heap.size < gs 1 := by omega
  have ll6 : w.heap.size < gs 6 := by omega
  have hbf : Below w.heap.size w ((w1.setCell ⟨gs 1, 0, none⟩ (.int .i64 5)).setCell ⟨gs 6, 0, none⟩ (.int .i64 1)) := (hbw.setCell (p := ⟨gs 1, 0, none⟩) (by show w.heap.size ≤ gs 1; omega) _).setCell (p := ⟨gs 6, 0, none⟩) (by show w.heap.size ≤ gs 6; omega) _
  have kpf : Blk ((w1.setCell ⟨gs 1, 0, none⟩ (.int .i64 5)).setCell ⟨gs 6, 0, none⟩ (.int .i64 1)) w.heap.size 28 #[.int .i64 11, .int .i64 3, .int .i64 7] := (kp1.far (by show w.heap.size ≠ gs 1; omega) _).far (by show w.heap.size ≠ gs 6; omega) _
  have PF := Lib.hid p2
  have BF := Lib.hid hbf
  have KF := Lib.hid kpf
  clear hv kp1 hbw hcell o1 o6 e1 e6 p1 hg1 p2 hg2 l1 l6 kpl hbf kpf hb1
  go_wp2_with fail
  go_region
  all_goals
    have hvs : ShAt (((w1.setCell ⟨gs 1, 0, none⟩ (.int .i64 5)).setCell ⟨gs 6, 0, none⟩ (.int .i64 1)).drew) (fun b => b < (((w1.setCell ⟨gs 1, 0, none⟩ (.int .i64 5)).setCell ⟨gs 6, 0, none⟩ (.int .i64 1)).drew).heap.size) (.slice (some ⟨g, 0, none⟩) 7 cap) N11 := (PF.out.a.sh.at_).mono fun b hb => hb.2
    have hrb := c_Robust 11 3 7 1 _ N11 _ _ (HW.out.below BF.out.drew) prm11 (by decide) (by decide) (by decide) (by decide) (by decide) hvs (fun b hb => hb) (by decide) (by decide) (by decide) good11 (fun B n v xs W => s_Sort B n v xs W)
    have hrm := fun W => c_Room 11 3 7 7 W (by decide) (by decide) (by decide)
    have HRB := Lib.hid hrb
    have HRM := Lib.hid hrm
    have kc0 := KF.out.drew.cell 0
    have kc1 := KF.out.drew.cell 1
    have kc2 := KF.out.drew.cell 2
    clear hvs hrb hrm c3 c13 v1 v6 f1 f6 k1 k2 k3
    go_wp2_with fail
    refine HRB.out.mono ?_
    rintro e w3 hpost
    have hb3 := hpost.2
    obtain ⟨vs, vl, rfl, hos, hol⟩ := lied11.found good11 prm11 (by decide) (by decide) (by decide) (by decide) hpost (W := [2, 7]) (by decide) mem11
    obtain ⟨g1, cp1, hv1, gc1⟩ := hos.form.resolve_left (fun h => by simp at h)
    obtain ⟨g2, cp2, hv2, gc2⟩ := hol.form.resolve_left (fun h => by simp at h)
    replace hv1 : vs = .slice (some ⟨g1, 0, none⟩) 1 cp1 := hv1
    replace hv2 : vl = .slice (some ⟨g2, 0, none⟩) 2 cp2 := hv2
    subst hv1 hv2
    have x0 : w3.cell? ⟨g1, 0, none⟩ = some (.int .i64 9) := hos.cell 0 (by decide)
    have y0 : w3.cell? ⟨g2, 0, none⟩ = some (.int .i64 2) := hol.cell 0 (by decide)
    have y1 : w3.cell? ⟨g2, 1, none⟩ = some (.int .i64 7) := hol.cell 1 (by decide)
    have z1 := hos.lt
    have z2 := hol.lt
    have kp3 := KF.out.drew.below hb3 KF.out.drew.lt
    have kd0 := kp3.cell 0
    have kd1 := kp3.cell 1
    have kd2 := kp3.cell 2
    have hbw3 := BF.out.drew.trans (hb3.mono BF.out.drew.size)
    have HBW3 := Lib.hid hbw3
    clear hpost hb3 hos hol kp3 hbw3 kc0 kc1 kc2 HRB
    go_wp2_with fail
    refine (HRM.out _).mono ?_
    rintro e w4 ⟨rfl, hb4⟩
    have hbw4 := HBW3.out.trans (hb4.mono HBW3.out.size)
    have x0' := (hb4.cell (p := ⟨g1, 0, none⟩) z1.2).trans x0
    have y0' := (hb4.cell (p := ⟨g2, 0, none⟩) z2.2).trans y0
    have y1' := (hb4.cell (p := ⟨g2, 1, none⟩) z2.2).trans y1
    have HBW4 := Lib.hid hbw4
    clear hb4 hbw4 x0 y0 y1 kd0 kd1 kd2
    go_wp2_with fail
    go_ret
    exact ⟨rfl, HBW4.out⟩
end Go.Proofs.YtjfphobfikadlaaDoor
