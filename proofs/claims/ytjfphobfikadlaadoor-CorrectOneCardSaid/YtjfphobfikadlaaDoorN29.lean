/- The sanity check of the chapter. Contracts: the kit's Word; two lists of numbers, whether they are equal. Plain law: shares that were dealt, turned and lied about; what the laws keep. -/
import Derived.Test.YtjfphobfikadlaaDoorN27
import Derived.Test.YtjfphobfikadlaaDoorShelf2
import Derived.Test.YtjfphobfikadlaaDoorN28
import Derived.Test.YtjfphobfikadlaaDoorN18
import Derived.BigRegion
import Derived.Test.YtjfphobfikadlaaDoorN04
import Derived.Test.YtjfphobfikadlaaDoorN03
import Derived.Test.YtjfphobfikadlaaDoorN20
set_option linter.unusedVariables false
set_option linter.unusedSimpArgs false
namespace Go.Proofs.YtjfphobfikadlaaDoor
open Go.RowKit Num Go.Sort

theorem s_Sort (B n : Nat) (v : Value) (xs : List Int) (w : World) (h : w.ownsRow B 3 1 v n (xs.map (Value.int .i64))) (hl : n ≤ 1000000) :
    Calls Tryd.prog 34 #[v] w (SortPost B n v xs w) := by
  have hlen : xs.length = n := by have := h.1; simpa using this
  rcases id h.2 with ⟨rfl, rfl⟩ | ⟨g, cap, cur, rfl, hB, hh, hnc, hm, hs, ht⟩
  · have hx : xs = [] := List.eq_nil_of_length_eq_zero hlen
    subst hx
    refine (Tryd.slices_Sort_int_none none 0 w).mono ?_
    rintro e w' ⟨rfl, rfl⟩
    exact ⟨rfl, by simpa [srt] using h, World.grownBy.refl _ _⟩
  · subst hlen
    refine (Tryd.slices_Sort_int g 0 cap xs w (holds_of_blockI hh (by rw [Nat.mul_one] at ht; exact ht)) (Array.getElem?_eq_some_iff.1 hh).1 (by omega)).mono ?_
    rintro e w' ⟨rfl, m, os, rfl⟩
    exact ⟨rfl, ownsRow_sortedI (ss := xs) (srt_len xs) hB hh hnc hm hs, grownBy_sortedI _⟩
end Go.Proofs.YtjfphobfikadlaaDoor
namespace Go.Proofs.YtjfphobfikadlaaDoor
open Go.RowKit Num

theorem prm11 : Prm 11 := by
  refine ⟨by decide, fun d h1 => ?_⟩
  have h2 : d ≤ 11 := Nat.le_of_dvd (by decide) h1
  have : ∀ d : Nat, d ≤ 11 → d ∣ 11 → d = 1 ∨ d = 11 := by decide
  exact this d h2 h1
def M11 : List Sh := [(1, [7]), (2, [4]), (3, [0]), (4, [6]), (5, [0]), (6, [4]), (7, [7])]
/-- The example's shares behind the two lies. -/
def N11 : List Sh := [(1, [7]), (2, [5]), (3, [0]), (4, [6]), (5, [0]), (6, [4]), (7, [1])]
theorem deal11 : dealL 11 2 [9] [4, 5] 7 = M11 := by decide
def bad11 (k : Nat) : Bool := k == 1 || k == 6
theorem seven {P : Nat → Prop} (h0 : P 0) (h1 : P 1) (h2 : P 2) (h3 : P 3) (h4 : P 4) (h5 : P 5) (h6 : P 6) : ∀ k, k < 7 → P k := by
  intro k hk
  rcases (show k = 0 ∨ k = 1 ∨ k = 2 ∨ k = 3 ∨ k = 4 ∨ k = 5 ∨ k = 6 by omega) with rfl | rfl | rfl | rfl | rfl | rfl | rfl <;> assumption
theorem good11 : GoodSh 11 7 1 N11 where
  holder := seven (P := fun k => 1 ≤ (shAt N11 k).1 ∧ (shAt N11 k).1 ≤ ((7 : Nat) : Int)) (by decide) (by decide) (by decide) (by decide) (by decide) (by decide) (by decide)
  once := fun i j hi hj hne => by
    have e : ∀ k, k < 7 → (shAt N11 k).1 = (k : Int) + 1 := seven (P := fun k => (shAt N11 k).1 = (k : Int) + 1) (by decide) (by decide) (by decide) (by decide) (by decide) (by decide) (by decide)
    rw [e i hi, e j hj]; omega
  len := seven (P := fun k => (shAt N11 k).2.length = 1) rfl rfl rfl rfl rfl rfl rfl
  inF := fun k hk => by
    have : ∀ k, k < 7 → ∀ j, j < 1 → 0 ≤ (shAt N11 k).2.getD j 0 ∧ (shAt N11 k).2.getD j 0 < ((11 : Nat) : Int) := seven (P := fun k => ∀ j, j < 1 → 0 ≤ (shAt N11 k).2.getD j 0 ∧ (shAt N11 k).2.getD j 0 < ((11 : Nat) : Int)) (by decide) (by decide) (by decide) (by decide) (by decide) (by decide) (by decide)
    intro j hj
    have hl : (shAt N11 k).2.length = 1 := seven (P := fun k => (shAt N11 k).2.length = 1) rfl rfl rfl rfl rfl rfl rfl k hk
    exact this k hk j (by omega)
theorem lied11 : LiedSh 11 3 1 bad11 (fun _ => [9, 4, 5]) N11 where
  can := fun i hi => ⟨⟨fun c hc => by simp at hc; rcases hc with rfl | rfl | rfl <;> decide, by decide⟩, by decide⟩
  val := fun i k hi hk => by
    have h0 : i = 0 := by omega
    subst h0
    exact seven (P := fun k => bad11 k = false → Num.ev [9, 4, 5] (shAt N11 k).1 % ((11 : Nat) : Int) = (shAt N11 k).2.getD 0 0) (by decide) (by decide) (by decide) (by decide) (by decide) (by decide) (by decide) k hk
  wrong := seven (P := fun k => bad11 k = true → Num.ev [9, 4, 5] (shAt N11 k).1 % ((11 : Nat) : Int) ≠ (shAt N11 k).2.getD 0 0) (by decide) (by decide) (by decide) (by decide) (by decide) (by decide) (by decide)
theorem mem11 (a : Int) : a ∈ [(2 : Int), 7] ↔ ∃ k, k < N11.length ∧ bad11 k = true ∧ (shAt N11 k).1 = a := by
  constructor
  · intro h
    simp at h
    rcases h with rfl | rfl
    · exact ⟨1, by decide, by decide, by decide⟩
    · exact ⟨6, by decide, by decide, by decide⟩
  · rintro ⟨k, hk, hb, rfl⟩
    exact seven (P := fun k => bad11 k = true → (shAt N11 k).1 ∈ [(2 : Int), 7]) (by decide) (by decide) (by decide) (by decide) (by decide) (by decide) (by decide) k hk hb
theorem inF_one {p : Nat} {x : Int} (h : 0 ≤ x) (h' : x < p) : InF p [x] := by
  intro k hk
  have hk0 : k = 0 := by simp at hk; omega
  subst hk0
  exact ⟨h, h'⟩
theorem inF_two {p : Nat} {x y : Int} (h : 0 ≤ x) (h' : x < p) (k : 0 ≤ y) (k' : y < p) : InF p [x, y] := by
  intro q hq
  rcases (show q = 0 ∨ q = 1 by simp at hq; omega) with rfl | rfl
  · exact ⟨h, h'⟩
  · exact ⟨k, k'⟩
theorem ints_one (w : World) (x : Int) : IntsAt (w.alloc (.cells #[.int .i64 x] 3)) (fun b => b = w.heap.size) (.slice (some ⟨w.heap.size, 0, none⟩) 1 1) [x] := by
  refine ⟨_, 1, 1, rfl, rfl, Nat.le_refl _, fun _ => ⟨_, 0, rfl, rfl, fun k hk => ?_⟩⟩
  have hk0 : k = 0 := by omega
  subst hk0
  rw [World.cell?_alloc_new]; rfl
theorem ints_two (w : World) (x y : Int) : IntsAt (w.alloc (.cells #[.int .i64 x, .int .i64 y] 3)) (fun b => b = w.heap.size) (.slice (some ⟨w.heap.size, 0, none⟩) 2 2) [x, y] := by
  refine ⟨_, 2, 2, rfl, rfl, Nat.le_refl _, fun _ => ⟨_, 0, rfl, rfl, fun k hk => ?_⟩⟩
  rcases (show k = 0 ∨ k = 1 by omega) with rfl | rfl <;> (rw [World.cell?_alloc_new]; rfl)
theorem put11 : (M11.set 1 ((shAt M11 1).1, (shAt M11 1).2.set 0 5)).set 6 ((shAt (M11.set 1 ((shAt M11 1).1, (shAt M11 1).2.set 0 5)) 6).1, (shAt (M11.set 1 ((shAt M11 1).1, (shAt M11 1).2.set 0 5)) 6).2.set 0 1) = N11 := by decide

set_option maxRecDepth 100000 in
set_option maxHeartbeats 2000000 in
theorem l_awake (w : World) (hw : BasesOk w) : Calls Tryd.prog 8 #[] w (BoolBelow true w) := by
  have HW := Lib.hid hw
  clear hw
  have hb2 : Below w.heap.size w (((w.alloc (.cells #[.int .i64 11, .int .i64 3, .int .i64 7] 28)).alloc (.cells #[.int .i64 9] 3)).alloc (.cells #[.int .i64 4, .int .i64 5] 3)) := (((Below.refl _ _).alloc (Nat.le_refl _) _).alloc (by simp) _).alloc (by first | (simp; done) | (simp; omega)) _
  have kp : Blk (((w.alloc (.cells #[.int .i64 11, .int .i64 3, .int .i64 7] 28)).alloc (.cells #[.int .i64 9] 3)).alloc (.cells #[.int .i64 4, .int .i64 5] 3)) w.heap.size 28 #[.int .i64 11, .int .i64 3, .int .i64 7] := ((Blk.new w _ _).alloc _).alloc _
  have i9 : IntsAt (((w.alloc (.cells #[.int .i64 11, .int .i64 3, .int .i64 7] 28)).alloc (.cells #[.int .i64 9] 3)).alloc (.cells #[.int .i64 4, .int .i64 5] 3)) (Old (((w.alloc (.cells #[.int .i64 11, .int .i64 3, .int .i64 7] 28)).alloc (.cells #[.int .i64 9] 3)).alloc (.cells #[.int .i64 4, .int .i64 5] 3))) (.slice (some ⟨w.heap.size + 1, 0, none⟩) 1 1) [9] := by
    have := ((ints_one (w.alloc (.cells #[.int .i64 11, .int .i64 3, .int .i64 7] 28)) 9).keep fun b hb => Below.heap_alloc _ (.cells #[.int .i64 4, .int .i64 5] 3) _ (by subst hb; simp)).mono (T := Old (((w.alloc (.cells #[.int .i64 11, .int .i64 3, .int .i64 7] 28)).alloc (.cells #[.int .i64 9] 3)).alloc (.cells #[.int .i64 4, .int .i64 5] 3))) fun b hb => by subst hb; unfold Old; first | (simp; done) | (simp; omega)
    rwa [show (w.alloc (.cells #[.int .i64 11, .int .i64 3, .int .i64 7] 28)).heap.size = w.heap.size + 1 by simp] at this
  have i45 : IntsAt (((w.alloc (.cells #[.int .i64 11, .int .i64 3, .int .i64 7] 28)).alloc (.cells #[.int .i64 9] 3)).alloc (.cells #[.int .i64 4, .int .i64 5] 3)) (Old (((w.alloc (.cells #[.int .i64 11, .int .i64 3, .int .i64 7] 28)).alloc (.cells #[.int .i64 9] 3)).alloc (.cells #[.int .i64 4, .int .i64 5] 3))) (.slice (some ⟨w.heap.size + 2, 0, none⟩) 2 2) [4, 5] := by
    have := (ints_two ((w.alloc (.cells #[.int .i64 11, .int .i64 3, .int .i64 7] 28)).alloc (.cells #[.int .i64 9] 3)) 4 5).mono (T := Old (((w.alloc (.cells #[.int .i64 11, .int .i64 3, .int .i64 7] 28)).alloc (.cells #[.int .i64 9] 3)).alloc (.cells #[.int .i64 4, .int .i64 5] 3))) fun b hb => by subst hb; unfold Old; simp
    rwa [show ((w.alloc (.cells #[.int .i64 11, .int .i64 3, .int .i64 7] 28)).alloc (.cells #[.int .i64 9] 3)).heap.size = w.heap.size + 2 by simp] at this
  have hdl := r_DealA 11 2 7 [9] [4, 5] _ _ _ prm11 (by decide) (by decide) (by decide) (by decide) i9 i45 (inF_one (by decide) (by decide)) (inF_two (by decide) (by decide) (by decide) (by decide)) (by decide) (by decide) rfl
  have HDL := Lib.hid hdl
  have HB2 := Lib.hid hb2
  have KP := Lib.hid kp
  clear hdl i9 i45 hb2 kp
  go_enter Tryd.func8, Tryd.ntmps8
  go_wp2_with fail
  refine (HDL.out).mono ?_
  rintro e w1 ⟨v, rfl, hv, hb1⟩
  rw [deal11] at hv
  obtain ⟨cells, gs, cs, hv⟩ := hv
  change OwnShG w1 _ v M11 cells gs cs at hv
  have kp1 := KP.out.below hb1 KP.out.lt
  have hbw := HB2.out.trans (hb1.mono HB2.out.size)
  obtain ⟨g, cap, hveq, hcap, hBg, hgl, hcell⟩ := hv.form (by decide)
  replace hveq : v = .slice (some ⟨g, 0, none⟩) 7 cap := hveq
  subst hveq
  have hn16 := hv.ne (i := 1) (k := 6) (by decide) (by decide) (by decide)
  have c3 : w1.cell? ⟨g, 3, none⟩ = some (.slice (some ⟨gs 1, 0, none⟩) 1 (cs 1)) := (hcell 1 (by decide)).2
  have c13 : w1.cell? ⟨g, 13, none⟩ = some (.slice (some ⟨gs 6, 0, none⟩) 1 (cs 6)) := (hcell 6 (by decide)).2
  have o1 := (hv.2 1 (by decide)).2.2.1
  have o6 := (hv.2 6 (by decide)).2.2.1
  have v1 : w1.cell? ⟨gs 1, 0, none⟩ = some (.int .i64 4) := o1.cell 0 (by decide)
  have v6 : w1.cell? ⟨gs 6, 0, none⟩ = some (.int .i64 7) := o6.cell 0 (by decide)
  have f1 : w1.frozen? ⟨gs 1, 0, none⟩ = false := o1.frozen 0
  have f6 : w1.frozen? ⟨gs 6, 0, none⟩ = false := o6.frozen 0
  have e1 := (hv.far (i := 1) (by decide)).resolve_left (by simp [Value.ownBlock])
  have e6 := (hv.far (i := 6) (by decide)).resolve_left (by simp [Value.ownBlock])
  have ne1 : gs 1 ≠ g := fun e => e1 (by simp [Value.ownBlock, e])
  have ne6 : gs 6 ≠ g := fun e => e6 (by simp [Value.ownBlock, e])
  obtain ⟨p1, hg1⟩ := hv.put (i := 1) (by decide) 0 5
  obtain ⟨p2, hg2⟩ := p1.put (i := 6) (by decide) 0 1
  rw [put11] at p2
  have l1 := o1.lt
  have l6 := o6.lt
  have k1 : (w1.setCell ⟨gs 1, 0, none⟩ (.int .i64 5)).frozen? ⟨gs 6, 0, none⟩ = false := (World.frozen?_of_block (a := ⟨gs 6, 0, none⟩) (hg1.block (gs 6) l6.2 (by simp; exact hn16))).trans f6
  have k2 : (w1.setCell ⟨gs 1, 0, none⟩ (.int .i64 5)).cell? ⟨gs 6, 0, none⟩ = some (.int .i64 7) := (World.cell?_of_block (a := ⟨gs 6, 0, none⟩) (hg1.block (gs 6) l6.2 (by simp; exact hn16))).trans v6
  have k3 : (w1.setCell ⟨gs 1, 0, none⟩ (.int .i64 5)).cell? ⟨g, 13, none⟩ = some (.slice (some ⟨gs 6, 0, none⟩) 1 (cs 6)) := (World.cell?_of_block (a := ⟨g, 13, none⟩) (hg1.block g hgl (by simp; exact Ne.symm ne1))).trans c13
  have kpl : w.heap.size < (((w.alloc (.cells #[.int .i64 11, .int .i64 3, .int .i64 7] 28)).alloc (.cells #[.int .i64 9] 3)).alloc (.cells #[.int .i64 4, .int .i64 5] 3)).heap.size := KP.out.lt
  have ll1 : w.heap.size < gs 1 := by omega
  have ll6 : w.heap.size < gs 6 := by omega
  have hbf : Below w.heap.size w ((w1.setCell ⟨gs 1, 0, none⟩ (.int .i64 5)).setCell ⟨gs 6, 0, none⟩ (.int .i64 1)) := (hbw.setCell (p := ⟨gs 1, 0, none⟩) (by show w.heap.size ≤ gs 1; omega) _).setCell (p := ⟨gs 6, 0, none⟩) (by show w.heap.size ≤ gs 6; omega) _
  have kpf : Blk ((w1.setCell ⟨gs 1, 0, none⟩ (.int .i64 5)).setCell ⟨gs 6, 0, none⟩ (.int .i64 1)) w.heap.size 28 #[.int .i64 11, .int .i64 3, .int .i64 7] := (kp1.far (by show w.heap.size ≠ gs 1; omega) _).far (by show w.heap.size ≠ gs 6; omega) _
  have PF := Lib.hid p2
  have BF := Lib.hid hbf
  have KF := Lib.hid kpf
  clear hv kp1 hbw hcell o1 o6 e1 e6 p1 hg1 p2 hg2 l1 l6 kpl hbf kpf hb1
  go_wp2_with fail
  go_region
  all_goals
    have hvs : ShAt (((w1.setCell ⟨gs 1, 0, none⟩ (.int .i64 5)).setCell ⟨gs 6, 0, none⟩ (.int .i64 1)).drew) (fun b => b < (((w1.setCell ⟨gs 1, 0, none⟩ (.int .i64 5)).setCell ⟨gs 6, 0, none⟩ (.int .i64 1)).drew).heap.size) (.slice (some ⟨g, 0, none⟩) 7 cap) N11 := (PF.out.a.sh.at_).mono fun b hb => hb.2
    have hrb := c_Robust 11 3 7 1 _ N11 _ _ (HW.out.below BF.out.drew) prm11 (by decide) (by decide) (by decide) (by decide) (by decide) hvs (fun b hb => hb) (by decide) (by decide) (by decide) good11 (fun B n v xs W => s_Sort B n v xs W)
    have hrm := fun W => c_Room 11 3 7 7 W (by decide) (by decide) (by decide)
    have HRB := Lib.hid hrb
    have HRM := Lib.hid hrm
    have kc0 := KF.out.drew.cell 0
    have kc1 := KF.out.drew.cell 1
    have kc2 := KF.out.drew.cell 2
    clear hvs hrb hrm c3 c13 v1 v6 f1 f6 k1 k2 k3
    go_wp2_with fail
    refine HRB.out.mono ?_
    rintro e w3 hpost
    have hb3 := hpost.2
    obtain ⟨vs, vl, rfl, hos, hol⟩ := lied11.found good11 prm11 (by decide) (by decide) (by decide) (by decide) hpost (W := [2, 7]) (by decide) mem11
    obtain ⟨g1, cp1, hv1, gc1⟩ := hos.form.resolve_left (fun h => by simp at h)
    obtain ⟨g2, cp2, hv2, gc2⟩ := hol.form.resolve_left (fun h => by simp at h)
    replace hv1 : vs = .slice (some ⟨g1, 0, none⟩) 1 cp1 := hv1
    replace hv2 : vl = .slice (some ⟨g2, 0, none⟩) 2 cp2 := hv2
    subst hv1 hv2
    have x0 : w3.cell? ⟨g1, 0, none⟩ = some (.int .i64 9) := hos.cell 0 (by decide)
    have y0 : w3.cell? ⟨g2, 0, none⟩ = some (.int .i64 2) := hol.cell 0 (by decide)
    have y1 : w3.cell? ⟨g2, 1, none⟩ = some (.int .i64 7) := hol.cell 1 (by decide)
    have z1 := hos.lt
    have z2 := hol.lt
    have kp3 := KF.out.drew.below hb3 KF.out.drew.lt
    have kd0 := kp3.cell 0
    have kd1 := kp3.cell 1
    have kd2 := kp3.cell 2
    have hbw3 := BF.out.drew.trans (hb3.mono BF.out.drew.size)
    have HBW3 := Lib.hid hbw3
    clear hpost hb3 hos hol kp3 hbw3 kc0 kc1 kc2 HRB
    go_wp2_with fail
    refine (HRM.out _).mono ?_
    rintro e w4 ⟨rfl, hb4⟩
    have hbw4 := HBW3.out.trans (hb4.mono HBW3.out.size)
    have x0' := (hb4.cell (p := ⟨g1, 0, none⟩) z1.2).trans x0
    have y0' := (hb4.cell (p := ⟨g2, 0, none⟩) z2.2).trans y0
    have y1' := (hb4.cell (p := ⟨g2, 1, none⟩) z2.2).trans y1
    have HBW4 := Lib.hid hbw4
    clear hb4 hbw4 x0 y0 y1 kd0 kd1 kd2
    go_wp2_with fail
    go_ret
    exact ⟨rfl, HBW4.out⟩
end Go.Proofs.YtjfphobfikadlaaDoor
namespace Go.Proofs.YtjfphobfikadlaaDoor
open Go.RowKit Num

def WordPost (b n : Nat) (ss : Nat → ByteArray) (w : World) (e : Ending) (w' : World) : Prop := ∃ r : Nat, r < n ∧ e = .returned (.string (ss r)) ∧ Dc w' b ∧ w.grownBy w' (some b)
theorem getD_eq_of {xs ys : List Int} (hl : xs.length = ys.length) (h : ∀ q, q < xs.length → xs.getD q 0 = ys.getD q 0) : xs = ys := by
  apply List.ext_getElem hl
  intro i h1 h2
  have := h i h1
  rwa [List.getD_eq_getElem?_getD, List.getD_eq_getElem?_getD, List.getElem?_eq_getElem h1, List.getElem?_eq_getElem h2] at this
set_option maxRecDepth 100000 in
set_option maxHeartbeats 1000000 in
theorem r_Same (v u : Value) (xs ys : List Int) (S T : Nat → Prop) (w : World) (hv : IntsAt w S v xs) (hu : IntsAt w T u ys) (hl : xs.length ≤ 1000000) (hl2 : ys.length ≤ 1000000) :
    Calls Tryd.prog 18 #[v, u] w fun e w' => e = .returned (.bool (decide (xs = ys))) ∧ w = w' := by
  obtain ⟨A, n, c, rfl, hn, hnc, hx⟩ := hv
  obtain ⟨B, m, k, rfl, hm, hmk, hy⟩ := hu
  have n1 : n ≤ 1000000 := by omega
  have m1 : m ≤ 1000000 := by omega
  have HN := Lib.hid hn
  have HM := Lib.hid hm
  have HX := Lib.hid hx
  have HY := Lib.hid hy
  clear hn hm hx hy hl hl2
  by_cases hnm : n = m
  · have t0 : ((n : Int) != (m : Int)) = false := by simp; omega
    have HNM := Lib.hid hnm
    clear hnm
    go_enter Tryd.func18, Tryd.ntmps18
    go_wp2_with fail
    go_loopw [14] (fun t wr => ∃ k : Nat, k ≤ n ∧ t = .int .i64 k ∧ w = wr ∧ ∀ q, q < k → xs.getD q 0 = ys.getD q 0) (fun t _ => n - (intOf t).toNat)
    case atStart => exact ⟨0, by omega, rfl, rfl, fun q hq => absurd hq (by omega)⟩
    case round =>
      obtain ⟨k, hk, rfl, rfl, hq⟩ := hrel
      have HQ := Lib.hid hq
      clear hq
      by_cases hlt : k < n
      · obtain ⟨b, off, rfl, -, hc⟩ := HX.out (by omega)
        obtain ⟨b', off', rfl, -, hc'⟩ := HY.out (by have := HNM.out; omega)
        have c0 := hc k hlt
        have c1 := hc' k (by have := HNM.out; omega)
        have qk : (k : Int) < (n : Int) := by omega
        have qm : (k : Int) < (m : Int) := by have := HNM.out; omega
        clear hc hc'
        obtain ⟨x, hx⟩ : ∃ x, xs.getD k 0 = x := ⟨_, rfl⟩
        obtain ⟨y, hy⟩ : ∃ y, ys.getD k 0 = y := ⟨_, rfl⟩
        rw [hx] at c0
        rw [hy] at c1
        have HXX := Lib.hid hx
        have HYY := Lib.hid hy
        clear hx hy
        by_cases hxy : x = y
        · have t1 : ((y : Int) != x) = false := by simp [hxy]
          have HXY := Lib.hid hxy
          clear hxy
          go_wp2_with fail
          go_roundw
          case measure => simp [intOf]; omega
          case rel => exact ⟨k + 1, by omega, by go_num, (by first | rfl | trivial), fun q hq => by
            rcases Nat.lt_or_ge q k with h | h
            · exact HQ.out q h
            · have : q = k := by omega
              subst this; rw [HXX.out, HYY.out]; exact HXY.out⟩
        · have t1 : ((y : Int) != x) = true := by rw [bne_iff_ne]; exact fun h => hxy h.symm
          go_wp2_with fail
          go_ret
          refine ⟨?_, rfl⟩
          rw [decide_eq_false (fun h => hxy (by rw [← HXX.out, ← HYY.out, h]))]
          rfl
      · have hkn : k = n := by omega
        have hj0 : ¬ (k : Int) < (n : Int) := by omega
        go_wp2_with fail
        go_ret
        refine ⟨?_, rfl⟩
        rw [decide_eq_true (getD_eq_of (by rw [← HN.out, ← HM.out]; exact HNM.out) (fun q hq => HQ.out q (by rw [← HN.out] at hq; omega)))]
        rfl
  · have t0 : ((n : Int) != (m : Int)) = true := by rw [bne_iff_ne]; omega
    go_enter Tryd.func18, Tryd.ntmps18
    go_wp2_with fail
    go_ret
    refine ⟨?_, rfl⟩
    rw [decide_eq_false (fun h => hnm (by rw [HN.out, HM.out, h]))]
    rfl
end Go.Proofs.YtjfphobfikadlaaDoor
namespace Go.Proofs.YtjfphobfikadlaaDoor
open Go.RowKit Num

theorem deal_at (p k : Nat) (sec rnd : List Int) (n j : Nat) (h : j < n) : shAt (dealL p k sec rnd n) j = (((j + 1 : Nat) : Int), (List.range sec.length).map (dealV p k (j + 1) sec rnd)) := by
  unfold dealL shAt
  rw [List.getD_eq_getElem?_getD, List.getElem?_map, List.getElem?_range h]; rfl
theorem dealt_len (p k : Nat) (sec rnd : List Int) (n : Nat) : (dealL p k sec rnd n).length = n := by simp [dealL]
/-- The polynomial of an element. -/
def polD (k : Nat) (sec rnd : List Int) (i : Nat) : List Int := sec.getD i 0 :: (rnd.drop (i * k)).take k
/-- Shares that are values of polynomials. -/
structure FromDeal (p hold m : Nat) (P : Nat → List Int) (L : List Sh) : Prop where
  good : GoodSh p hold m L
  val : ∀ i k, i < m → k < L.length → (shAt L k).2.getD i 0 = evH p (shAt L k).1 (P i)
theorem FromDeal.deal {p k hold : Nat} {sec rnd : List Int} (hp : 1 ≤ p) : FromDeal p hold sec.length (polD k sec rnd) (dealL p k sec rnd hold) where
  good := {
    holder := fun j hj => by rw [dealt_len] at hj; rw [deal_at _ _ _ _ _ _ hj]; show (1 : Int) ≤ ((j + 1 : Nat) : Int) ∧ _; constructor <;> omega
    once := fun i j hi hj hne => by rw [dealt_len] at hi hj; rw [deal_at _ _ _ _ _ _ hi, deal_at _ _ _ _ _ _ hj]; show ((i + 1 : Nat) : Int) ≠ ((j + 1 : Nat) : Int); omega
    len := fun j hj => by rw [dealt_len] at hj; rw [deal_at _ _ _ _ _ _ hj]; simp
    inF := fun j hj => by
      rw [dealt_len] at hj
      rw [deal_at _ _ _ _ _ _ hj]
      intro i hi
      have hi' : i < sec.length := by simpa using hi
      have e : ((List.range sec.length).map (dealV p k (j + 1) sec rnd)).getD i 0 = dealV p k (j + 1) sec rnd i := by rw [List.getD_eq_getElem?_getD, List.getElem?_map, List.getElem?_range hi']; rfl
      rw [e]
      exact evH_bd p _ hp _ }
  val := fun i j hi hj => by
    rw [dealt_len] at hj
    rw [deal_at _ _ _ _ _ _ hj]
    show ((List.range sec.length).map (dealV p k (j + 1) sec rnd)).getD i 0 = _
    rw [List.getD_eq_getElem?_getD, List.getElem?_map, List.getElem?_range hi]; rfl
theorem FromDeal.some {p hold m : Nat} {P : Nat → List Int} {L L' : List Sh} (h : FromDeal p hold m P L) (hs : Some_ L L') : FromDeal p hold m P L' := by
  obtain ⟨σ, h1, h2⟩ := hs
  refine ⟨⟨fun k hk => ?_, fun i j hi hj hne => ?_, fun k hk => ?_, fun k hk => ?_⟩, fun i k hi hk => ?_⟩
  · rw [(h1 k hk).2]; exact h.good.holder _ (h1 k hk).1
  · rw [(h1 i hi).2, (h1 j hj).2]; exact h.good.once _ _ (h1 i hi).1 (h1 j hj).1 (h2 i j hi hj hne)
  · rw [(h1 k hk).2]; exact h.good.len _ (h1 k hk).1
  · rw [(h1 k hk).2]; exact h.good.inF _ (h1 k hk).1
  · rw [(h1 k hk).2]; exact h.val i _ hi (h1 k hk).1
section
variable {p hold need m many : Nat} {P : Nat → List Int} {L L' : List Sh}
theorem ev_trimD {p : Nat} (hp : 1 ≤ p) (h : Int) (l : List Int) : ev (trim l) h % p = evH p h l := by
  rw [trim_ev]
  have e := evH_cg (p : Int) h l
  have b := evH_bd p h hp l
  have := e.symm
  unfold Cg at this
  rw [this, Int.emod_eq_of_lt b.1 b.2]
theorem FromDeal.good' (h : FromDeal p hold m P L) (hl : LieI p m L L' many) : GoodSh p hold m L' where
  holder := fun k hk => by rw [hl.len] at hk; rw [hl.holder k hk]; exact h.good.holder k hk
  once := fun i j hi hj hne => by rw [hl.len] at hi hj; rw [hl.holder i hi, hl.holder j hj]; exact h.good.once i j hi hj hne
  len := fun k hk => by rw [hl.len] at hk; exact hl.vlen k hk
  inF := fun k hk => by rw [hl.len] at hk; exact hl.inF k hk
theorem FromDeal.lied (h : FromDeal p hold m P L) (hp : 1 ≤ p) (hm : 0 < m) (hl : LieI p m L L' many) (hP : ∀ i, i < m → (∀ c ∈ P i, 0 ≤ c ∧ c < (p : Int)) ∧ (P i).length ≤ need) :
    LiedSh p need m (fun k => decide (k < many)) (fun i => trim (P i)) L' where
  can := fun i hi => ⟨can_trim (hP i hi).1, by rw [trim_len]; exact Nat.le_trans (degN_le _) (hP i hi).2⟩
  val := fun i k hi hk hb => by
    rw [hl.len] at hk
    have hge : many ≤ k := by simpa using hb
    show ev (trim (P i)) _ % _ = _
    rw [hl.same k hge hk, ev_trimD hp, ← h.val i k hi hk]
  wrong := fun k hk hb => by
    rw [hl.len] at hk
    have hlt : k < many := by simpa using hb
    show ev (trim (P 0)) _ % _ ≠ _
    rw [hl.holder k hk, ev_trimD hp, ← h.val 0 k hm hk]
    exact fun e => hl.wrong k hlt hk e.symm
theorem many_filter (n : Nat) : ((List.range n).filter fun k => decide (k < many)).length ≤ many := by
  have : ∀ n, ((List.range n).filter fun k => decide (k < many)).length ≤ many ∧ ((List.range n).filter fun k => decide (k < many)).length ≤ n := by
    intro n
    induction n with
    | zero => simp
    | succ n ih =>
      rw [List.range_succ, List.filter_append, List.length_append]
      by_cases h : n < many
      · simp [h]; omega
      · simp [h]; omega
  exact (this n).1
theorem liars_asc (L : List Sh) (many : Nat) : (liarsL L many).Pairwise (· < ·) := by
  unfold liarsL
  rw [List.pairwise_map]
  refine (List.Pairwise.sublist List.filter_sublist List.pairwise_lt_range).imp fun h => ?_
  simpa using h
theorem liars_mem (hg : GoodSh p hold m L) (hh : hold ≤ 16) (hm : many ≤ L.length) (a : Int) : a ∈ liarsL L many ↔ ∃ k, k < many ∧ (shAt L k).1 = a := by
  unfold liarsL
  rw [List.mem_map]
  constructor
  · rintro ⟨h, hh', rfl⟩
    have := (List.mem_filter.1 hh').2
    obtain ⟨i, hi, e⟩ := of_decide_eq_true this
    exact ⟨i, hi, e⟩
  · rintro ⟨i, hi, rfl⟩
    have hb := hg.holder i (by omega)
    refine ⟨(shAt L i).1.toNat, List.mem_filter.2 ⟨List.mem_range.2 (by omega), decide_eq_true ⟨i, hi, by omega⟩⟩, ?_⟩
    show ((shAt L i).1.toNat : Int) = _
    omega
theorem liars_mem' (hg : GoodSh p hold m L) (hh : hold ≤ 16) (hm : many ≤ L.length) (hl : LieI p m L L' many) (a : Int) : a ∈ liarsL L many ↔ ∃ k, k < L'.length ∧ decide (k < many) = true ∧ (shAt L' k).1 = a := by
  rw [liars_mem hg hh hm, hl.len]
  constructor
  · rintro ⟨k, hk, rfl⟩; exact ⟨k, by omega, decide_eq_true hk, hl.holder k (by omega)⟩
  · rintro ⟨k, hk, hd, rfl⟩; exact ⟨k, of_decide_eq_true hd, (hl.holder k hk).symm⟩
/-- As many holders are named as have lied. -/
theorem liars_many (hg : GoodSh p hold m L) (hh : hold ≤ 16) (hm : many ≤ L.length) : many ≤ (liarsL L many).length := by
  have := nodup_len ((List.range many).map fun k => (shAt L k).1) (liarsL L many) (by
    refine List.pairwise_map.2 ((List.nodup_range (n := many)).imp_of_mem fun {a b} ha hb hne => ?_)
    have := List.mem_range.1 ha
    have := List.mem_range.1 hb
    exact hg.once a b (by omega) (by omega) hne) (fun a ha => by
    obtain ⟨k, hk, rfl⟩ := List.mem_map.1 ha
    exact (liars_mem hg hh hm _).2 ⟨k, List.mem_range.1 hk, rfl⟩)
  simpa using this
end
theorem polD_ok {p k m : Nat} {sec rnd : List Int} (hp : 1 ≤ p) (hs : InF p sec) (hr : InF p rnd) (hl : rnd.length = sec.length * k) (hm : sec.length = m) (i : Nat) (hi : i < m) : (∀ c ∈ polD k sec rnd i, 0 ≤ c ∧ c < (p : Int)) ∧ (polD k sec rnd i).length ≤ k + 1 := by
  refine ⟨fun c hc => ?_, ?_⟩
  · unfold polD at hc
    rcases List.mem_cons.1 hc with rfl | hc
    · exact hs i (by omega)
    · exact hr.mem c (List.mem_of_mem_drop (List.mem_of_mem_take hc))
  · unfold polD
    simp [List.length_take]; omega
/-- What the polynomials give at 0 is the secret. -/
theorem sec_back {p k m : Nat} {sec rnd : List Int} (hp : 1 ≤ p) (hs : InF p sec) (hm : sec.length = m) : ((List.range m).map fun i => ev (trim (polD k sec rnd i)) 0 % (p : Int)) = sec := by
  refine getD_eq_of (by simpa using hm.symm) fun i hi => ?_
  have hi' : i < m := by simpa using hi
  rw [List.getD_eq_getElem?_getD, List.getElem?_map, List.getElem?_range hi']
  show ev (trim (polD k sec rnd i)) 0 % (p : Int) = _
  rw [trim_ev]
  show (sec.getD i 0 + 0 * _) % (p : Int) = _
  have := hs i (by omega)
  rw [Int.zero_mul, Int.add_zero, Int.emod_eq_of_lt this.1 this.2]

/-! ### What is kept while only the dice turn. -/
section
variable {d : Nat} {W W' : World}
theorem IntsAt.gd {v : Value} {xs : List Int} (h : IntsAt W (fun b => d < b ∧ b < W.heap.size) v xs) (hg : W.grownBy W' (some d)) : IntsAt W' (fun b => d < b ∧ b < W'.heap.size) v xs :=
  (h.keep fun b hb => hg.block b hb.2 (by intro e; injection e; omega)).mono fun b hb => ⟨hb.1, Nat.lt_of_lt_of_le hb.2 hg.size⟩
theorem ShAt.gd {v : Value} {L : List Sh} (h : ShAt W (fun b => d < b ∧ b < W.heap.size) v L) (hg : W.grownBy W' (some d)) : ShAt W' (fun b => d < b ∧ b < W'.heap.size) v L :=
  (h.keep fun b hb => hg.block b hb.2 (by intro e; injection e; omega)).mono fun b hb => ⟨hb.1, Nat.lt_of_lt_of_le hb.2 hg.size⟩
/-- The dice, the plan, and what lay there before. -/
structure St (d pb p need hold : Nat) (w W : World) : Prop where
  dice : Dc W d
  plan : Blk W pb 28 #[.int .i64 (p : Int), .int .i64 (need : Int), .int .i64 (hold : Int)]
  old : Below d w W
  lt : d < pb
theorem St.step {pb p need hold : Nat} {w : World} (h : St d pb p need hold w W) (hg : W.grownBy W' (some d)) (hd : Dc W' d) : St d pb p need hold w W' :=
  ⟨hd, h.plan.grown hg (by intro e; injection e; have := h.lt; omega), h.old.grown hg (by have := h.dice.lt; omega) (fun g hg => by injection hg; omega), h.lt⟩
theorem St.below {pb p need hold : Nat} {w : World} (h : St d pb p need hold w W) (hb : Below W.heap.size W W') : St d pb p need hold w W' := h.step (only_of_below hb _) (h.dice.below hb h.dice.lt)
end
end Go.Proofs.YtjfphobfikadlaaDoor
