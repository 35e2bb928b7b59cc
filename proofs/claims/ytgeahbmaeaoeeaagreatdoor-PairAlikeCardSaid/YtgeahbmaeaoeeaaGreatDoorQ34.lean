/- The contract of the reference's dealing. Contracts of the program's weights of places. -/
import Derived.Test.YtgeahbmaeaoeeaaGreatDoorQ27
import Derived.Deep.RegionLaw
import Derived.Maps.OwnSet
set_option linter.unusedVariables false
set_option linter.unusedSimpArgs false
namespace Go.Proofs.YtgeahbmaeaoeeaaGreatDoor
open Go.RowKit Num

theorem own_blk_ne {w : World} {base : Nat} {e t : TypeId} {size n g : Nat} {v : Value} {xs : List Value} {cs : Array Value} (h : w.ownsRow base e size v n xs) (hg : Blk w g t cs) (hne : e ≠ t) : v.ownBlock ≠ some g := by
  rcases h.2 with ⟨rfl, _⟩ | ⟨g', cap, cur, rfl, _, hh, _⟩
  · simp [Value.ownBlock]
  · intro he
    have : g' = g := by simpa [Value.ownBlock] using he
    subst this
    unfold Blk at hg
    rw [hg] at hh
    injection hh with hh
    injection hh with _ ht
    exact hne ht.symm
theorem own_built (w : World) (B : Nat) (e : TypeId) (x : Value) (hB : B ≤ w.heap.size) : (w.alloc (.cells #[x] e)).ownsRow B e 1 (.slice (some ⟨w.heap.size, 0, none⟩) 1 1) 1 [x] :=
  ⟨rfl, .inr ⟨w.heap.size, 1, #[x], rfl, hB, heap_alloc_new w _, Nat.le_refl _, by decide, rfl, rfl⟩⟩
theorem one2 {a b : Value} (ha : a.oneCell' = true) (hb : b.oneCell' = true) : ∀ u ∈ [a, b], u.oneCell' = true := by
  intro u hu
  rcases List.mem_cons.1 hu with rfl | hu
  · exact ha
  · rcases List.mem_cons.1 hu with rfl | hu
    · exact hb
    · cases hu
theorem own_mono {w : World} {B B' : Nat} {e : TypeId} {s n : Nat} {v : Value} {xs : List Value} (h : w.ownsRow B e s v n xs) (hB : B' ≤ B) : w.ownsRow B' e s v n xs :=
  ⟨h.1, h.2.imp id fun ⟨g, cap, cur, h1, h2, h3⟩ => ⟨g, cap, cur, h1, Nat.le_trans hB h2, h3⟩⟩
theorem Blk.grown {w w' : World} {g : Nat} {t : TypeId} {cs : Array Value} {row : Option Nat} (h : Blk w g t cs) (hb : w.grownBy w' row) (hg : some g ≠ row) : Blk w' g t cs := (hb.block g h.lt hg).trans h
theorem Blk.below {w w' : World} {g : Nat} {t : TypeId} {cs : Array Value} {B : Nat} (h : Blk w g t cs) (hb : Below B w w') (hg : g < B) : Blk w' g t cs := (hb.block g hg).trans h

/-- One value of a share. -/
def dealV (p k h : Nat) (sec rnd : List Int) (i : Nat) : Int := evH p h (sec.getD i 0 :: (rnd.drop (i * k)).take k)
/-- The first shares that are dealt. -/
def dealL (p k : Nat) (sec rnd : List Int) (n : Nat) : List Sh := (List.range n).map fun j => (((j + 1 : Nat) : Int), (List.range sec.length).map (dealV p k (j + 1) sec rnd))
theorem infoI : (Tryz.prog.info? 3).map (fun i => (i.zero, i.size, i.bytes)) = some (some (.int .i64 0), 1, 8) := by kernel_rfl
theorem infoS : (Tryz.prog.info? 36).map (fun i => (i.zero, i.size, i.bytes)) = some (some (.agg #[.int .i64 0, .slice none 0 0]), 2, 32) := by kernel_rfl
theorem r_EvalI (p : Nat) (x : Int) (v : Value) (xs : List Int) (S : Nat → Prop) (w : World) (hp1 : 1 ≤ p) (h2 : p ≤ 1073741824) (hx0 : 0 ≤ x) (hx1 : x < 2147483648) (hv : IntsAt w S v xs) (hl : xs.length ≤ 1000000) (hx : InF p xs) :
    Calls Tryz.prog 25 #[.int .i64 (p : Int), v, .int .i64 x] w fun e w' => e = .returned (.int .i64 (evH p x xs)) ∧ w = w' := by
  obtain ⟨n, rfl⟩ := Int.eq_ofNat_of_zero_le hx0
  exact r_Eval p n v xs S w hp1 h2 (by omega) hv hl hx
def DealPost (p k hold : Nat) (sec rnd : List Int) (w : World) (e : Ending) (w' : World) : Prop :=
  ∃ v, e = .returned (.tuple #[v, .int .i64 0]) ∧ OwnSh w' w.heap.size v (dealL p k sec rnd hold) ∧ Below w.heap.size w w'

set_option maxRecDepth 100000 in
set_option maxHeartbeats 4000000 in
theorem r_Deal (p k hold : Nat) (sec rnd : List Int) (vs vr : Value) (w : World) (hp : Prm p) (h2 : p ≤ 1073741824) (n2 : k + 1 ≤ hold) (n3 : hold ≤ 16) (n4 : hold < p)
    (hs : IntsAt w (Old w) vs sec) (hr : IntsAt w (Old w) vr rnd) (fs : InF p sec) (fr : InF p rnd) (ls : sec.length ≤ 2048) (lr : rnd.length = sec.length * k) :
    Calls Tryz.prog 9 #[planV p (k + 1) hold, vs, vr] w (DealPost p k hold sec rnd w) := by
  obtain ⟨i0, hi, hz0, hz1, hz2⟩ := info_parts infoI
  obtain ⟨j0, hj, hy0, hy1, hy2⟩ := info_parts infoS
  have lr2 : rnd.length ≤ 1000000 := by
    have : sec.length * k ≤ 2048 * 16 := Nat.mul_le_mul ls (by omega)
    omega
  obtain ⟨As, ns, cs, rfl, hns, hcs, hcells⟩ := id hs
  obtain ⟨Ar, nr, cr, rfl, hnr, hcr, hcellr⟩ := id hr
  have hrr := hr.reads (B := w.heap.size) (fun b hb => hb)
  have HNS := Lib.hid hns
  have HNR := Lib.hid hnr
  have HS := Lib.hid hs
  have HR := Lib.hid hr
  have HRR := Lib.hid hrr
  have LR := Lib.hid lr
  have lns : ns ≤ 2048 := by omega
  have lnr : nr ≤ 1000000 := by omega
  clear hns hnr hs hr hrr lr
  have epl : planV p (k + 1) hold = .agg #[.int .i64 (p : Int), .int .i64 ((k : Int) + 1), .int .i64 (hold : Int)] := rfl
  rw [epl]
  go_enter Tryz.func9, Tryz.ntmps9
  go_wp2_with fail
  refine (r_PValid p (k + 1) hold _ hp h2 (by omega) (by omega) (by omega) (by omega)).mono ?_
  rintro e w1 ⟨rfl, hb1⟩
  have s1 := hb1.size
  have hbk1 : Blk w1 w.heap.size 29 #[.int .i64 (p : Int), .int .i64 ((k : Int) + 1), .int .i64 (hold : Int)] := (Blk.new w _ _).below hb1 (by simp)
  have hw1 : Below w.heap.size w w1 := ((Below.refl _ _).alloc (Nat.le_refl _) _).trans (hb1.mono (by simp))
  have p0 : w1.cell? ⟨w.heap.size, 0, none⟩ = some (.int .i64 (p : Int)) := hbk1.cell 0
  have p1 : w1.cell? ⟨w.heap.size, 1, none⟩ = some (.int .i64 ((k : Int) + 1)) := hbk1.cell 1
  have p2 : w1.cell? ⟨w.heap.size, 2, none⟩ = some (.int .i64 (hold : Int)) := hbk1.cell 2
  go_wp2_with fail
  refine (r_Elements p _ sec _ _ hp h2 (HS.out.below hw1) (by omega) fs).mono ?_
  rintro e w' ⟨rfl, rfl⟩
  go_wp2_with fail
  refine (r_Elements p _ rnd _ _ hp h2 (HR.out.below hw1) (by omega) fr).mono ?_
  rintro e w' ⟨rfl, rfl⟩
  go_wp2_with fail
  refine (r_Random p (k + 1) hold ns _ (by omega) (by omega) (by omega)).mono ?_
  rintro e w2 ⟨rfl, hb2⟩
  have hnn : nr = ns * k := by rw [HNR.out, LR.out, ← HNS.out]
  have hne : ((nr : Int) != (ns : Int) * (k : Int)) = false := by rw [hnn, ← Int.natCast_mul]; simp
  have hbk2 := hbk1.below hb2 hbk1.lt
  have hw2 := hw1.trans (hb2.mono hw1.size)
  have s2 := hb2.size
  have z1 := hbk1.lt
  have HNN := Lib.hid hnn
  have HB := Lib.hid hbk2
  have HW := Lib.hid hw2
  have q0 : w2.cell? ⟨w.heap.size, 0, none⟩ = some (.int .i64 (p : Int)) := hbk2.cell 0
  have q1 : w2.cell? ⟨w.heap.size, 1, none⟩ = some (.int .i64 ((k : Int) + 1)) := hbk2.cell 1
  have q2 : w2.cell? ⟨w.heap.size, 2, none⟩ = some (.int .i64 (hold : Int)) := hbk2.cell 2
  clear hnn hbk1 hbk2 hw1 hw2 hb1 hb2 p0 p1 p2 hcells hcellr epl s1
  go_wp2_with fail
  clear q0 q1 q2 hne
  go_loopw [8, 10] (fun v i wr => ∃ j : Nat, j ≤ hold ∧ i = .int .i64 ((j : Int) + 1) ∧ OwnSh wr w.heap.size v (dealL p k sec rnd j) ∧ Blk wr w.heap.size 29 #[.int .i64 (p : Int), .int .i64 ((k : Int) + 1), .int .i64 (hold : Int)] ∧ Below w.heap.size w wr) (fun _ i _ => (hold + 1) - (intOf i).toNat)
  case atStart => exact ⟨0, by omega, rfl, OwnSh.nil _ _, HB.out, HW.out⟩
  case round =>
    obtain ⟨j, hj', rfl, hown, hbk, hbl⟩ := hrel
    have q0 : wr.cell? ⟨w.heap.size, 0, none⟩ = some (.int .i64 (p : Int)) := hbk.cell 0
    have q2 : wr.cell? ⟨w.heap.size, 2, none⟩ = some (.int .i64 (hold : Int)) := hbk.cell 2
    have z2 := hbk.lt
    have HOWN := Lib.hid hown
    have HBK := Lib.hid hbk
    have HBL := Lib.hid hbl
    clear hown hbk hbl
    by_cases hlt : j < hold
    · have t0 : decide ((j : Int) + 1 ≤ (hold : Int)) = true := decide_eq_true (by omega)
      obtain ⟨wo, rfl⟩ : ∃ wo : World, wo = wr := ⟨_, rfl⟩
      have hx8 := own_lt (HOWN.out).choose_spec.1
      have HX8 := Lib.hid hx8
      clear hx8
      go_wp2_with fail
      go_loopw [58] (fun i wq => ∃ (t : Nat) (u : Value), t ≤ ns ∧ i = .int .i64 (t : Int) ∧ Blk wq wo.heap.size 36 #[.int .i64 ((j : Int) + 1), u] ∧ wq.ownsRow wo.heap.size 3 1 u t (((List.range t).map (dealV p k (j + 1) sec rnd)).map (Value.int .i64)) ∧ Below wo.heap.size wo wq) (fun i _ => ns - (intOf i).toNat)
      case atStart => exact ⟨0, .slice none 0 0, by omega, rfl, Blk.new _ _ _, World.ownsRow_nil _ _ _ _, (Below.refl _ _).alloc (Nat.le_refl _) _⟩
      case round =>
        obtain ⟨t, u, ht, rfl, hbs, hu, hbo⟩ := hrel
        have hbk := HBK.out.below hbo z2
        have hbl := HBL.out.trans (hbo.mono (by omega))
        have z3 := hbk.lt
        have z4 := hbs.lt
        by_cases htn : t < ns
        · have hsr := HS.out.below hbl
          obtain ⟨A', n', c', hv, e2, e3, hcs'⟩ := hsr
          injection hv with v1 v2 v3
          subst v1 v2 v3
          obtain ⟨b, off, rfl, hS, hcell⟩ := hcs' (by omega)
          have ck := hcell t htn
          have hle : (t + 1) * k ≤ ns * k := Nat.mul_le_mul_right k htn
          have hle2 : t * k ≤ (t + 1) * k := Nat.mul_le_mul_right k (by omega)
          have g1 : (t : Int) * (k : Int) = ((t * k : Nat) : Int) := (Int.natCast_mul t k).symm
          have g2 : ((t : Int) + 1) * (k : Int) = (((t + 1) * k : Nat) : Int) := by rw [Int.natCast_mul]; rfl
          have hnn := HNN.out
          have m0 : 0 ≤ (t : Int) * (k : Int) := by omega
          have m1 : (t : Int) * (k : Int) ≤ ((t : Int) + 1) * (k : Int) := by omega
          have m2 : ((t : Int) + 1) * (k : Int) ≤ (cr : Int) := by omega
          have m3 : ((t : Int) * (k : Int)).toNat = t * k := by omega
          have m4 : (((t : Int) + 1) * (k : Int)).toNat = (t + 1) * k := by omega
          have m5 : ((t : Int) + 1) * (k : Int) ≤ 1000000 := by omega
          have q1 : (t : Int) < (ns : Int) := by omega
          have HBS := Lib.hid hbs
          have HU := Lib.hid hu
          have HBO := Lib.hid hbo
          have HBK2 := Lib.hid hbk
          have HBL2 := Lib.hid hbl
          have HCS := Lib.hid hcell
          have hsl := fun (W : World) => run_slice_lohi (P := Tryz.prog) W 22 3 i0 1 Tryz.underlying22 hi hz1 Ar nr cr (t * k) ((t + 1) * k) hle2 (by omega) ((t : Int) * (k : Int)) (((t : Int) + 1) * (k : Int)) g1 g2
          have hdk : (t + 1) * k - t * k = k := by rw [Nat.add_mul, Nat.one_mul, Nat.add_sub_cancel_left]
          simp only [hdk] at hsl
          obtain ⟨x, hx⟩ : ∃ x, sec.getD t 0 = x := ⟨_, rfl⟩
          obtain ⟨R, hR⟩ : ∃ R, (rnd.drop (t * k)).take k = R := ⟨_, rfl⟩
          rw [hx] at ck
          have hrd : Reads wr w.heap.size 1 (subA Ar cr (t * k) 1) k (R.map (Value.int .i64)) := by
            have := (HRR.out.below HBL2.out).sub (lo := t * k) (hg := (t + 1) * k) (cap := cr) hle2 (by omega) hcr
            rw [hdk, Nat.mul_one, Nat.mul_one, ← List.map_drop, ← List.map_take, hR] at this
            exact this
          have hRl : R.length = k := by have := hrd.1; simpa using this
          have hval : dealV p k (j + 1) sec rnd t = evH p ((j : Int) + 1) (x :: R) := by unfold dealV; rw [hx, hR]; rfl
          have hin : InF p (x :: R) := by
            intro i hi
            cases i with
            | zero => have := fs t (by have := HNS.out; omega); rw [hx] at this; exact this
            | succ i =>
              have hi' : i < R.length := by simpa using hi
              have h3 := LR.out
              have h5 := HNS.out
              have h4 := HNN.out
              have h6 := HNR.out
              have := fr (t * k + i) (by omega)
              have e : (x :: R).getD (i + 1) 0 = rnd.getD (t * k + i) 0 := by
                rw [List.getD_eq_getElem?_getD, List.getElem?_cons_succ, ← hR, List.getElem?_take, if_pos (by omega), List.getElem?_drop, ← List.getD_eq_getElem?_getD]
              rwa [e]
          have HRD := Lib.hid hrd
          have HVAL := Lib.hid hval
          have HIN := Lib.hid hin
          have kl : k ≤ 16 := by omega
          clear hbs hu hbo hbk hbl hcell hcs' g1 g2 hnn e2 e3 hdk hrd hx hR hval hin
          go_wp2_with (at_builtin; refine wpList_append_any _ rfl (.tmp 64) (.tmp 73) _ rfl w.heap.size 3 i0 _ 1 8 Tryz.underlying22 hi hz0 hz1 hz2 rfl (by omega) (.slice (some ⟨wr.heap.size, 0, none⟩) 1 1) 1 [.int .i64 x] rfl (own_built wr w.heap.size 3 _ (by omega)) w.heap.size (subA Ar cr (t * k) 1) k (cr - t * k) (R.map (Value.int .i64)) rfl (HRD.out.alloc (by omega) _) (ints_oneCell .i64 _) (by simp only [maxLen]; omega) (by omega) (by simp; omega) ?_)
          intro v' w3 hown' hgrow hloc
          have hg0 : wr.grownBy w3 (some wr.heap.size) := ⟨hgrow.os, hgrow.tape, hgrow.output, Nat.le_trans (by simp) hgrow.size, fun i hi hn => (hgrow.block i (by simp; omega) (by simpa [Value.ownBlock] using hn)).trans (Below.heap_alloc wr _ i hi)⟩
          have hb3 : Below w.heap.size w w3 := HBL2.out.grown hg0 (by omega) (fun g hg => by injection hg with hg; omega)
          have hbs3 := HBS.out.grown hg0 (by simp; omega)
          have hbk3 := HBK2.out.grown hg0 (by simp; omega)
          have hu3 := HU.out.kept hg0 (own_lt HU.out)
          have hbo3 : Below wo.heap.size wo w3 := HBO.out.grown hg0 (by omega) (fun g hg => by injection hg with hg; omega)
          have hpo : IntsAt w3.drew (fun b => w.heap.size ≤ b ∧ b < w3.drew.heap.size) v' (x :: R) := IntsAt.of_own (w := w3.drew) (n := 1 + k) hown'
          have z5 : w.heap.size < w3.heap.size := hbk3.lt
          have z6 : wo.heap.size < w3.heap.size := hbs3.lt
          have c0 : w3.cell? ⟨wo.heap.size, 0, none⟩ = some (.int .i64 ((j : Int) + 1)) := hbs3.cell 0
          have c1 : w3.cell? ⟨wo.heap.size, 1, none⟩ = some u := hbs3.cell 1
          have f1 : w3.frozen? ⟨wo.heap.size, 1, none⟩ = false := hbs3.frozen 1
          have d0 : w3.cell? ⟨w.heap.size, 0, none⟩ = some (.int .i64 (p : Int)) := hbk3.cell 0
          have hux : u.ownBlock ≠ some wo.heap.size := own_blk_ne hu3 hbs3 (by decide)
          have hup : u.ownBlock ≠ some w.heap.size := own_blk_ne hu3 hbk3 (by decide)
          have ka : ∀ o : Obj, Below w3.heap.size w3 (w3.alloc o).drew := fun o => ((Below.refl _ _).alloc (Nat.le_refl _) o).drew
          have k0 : ∀ o : Obj, (w3.alloc o).drew.cell? ⟨wo.heap.size, 1, none⟩ = some u := fun o => ((ka o).cell (p := ⟨wo.heap.size, 1, none⟩) z6).trans c1
          have k1 : ∀ o : Obj, (w3.alloc o).drew.frozen? ⟨wo.heap.size, 1, none⟩ = false := fun o => ((ka o).frozen (p := ⟨wo.heap.size, 1, none⟩) z6).trans f1
          have k2 : ∀ o : Obj, (w3.alloc o).drew.cell? ⟨w.heap.size, 0, none⟩ = some (.int .i64 (p : Int)) := fun o => ((ka o).cell (p := ⟨w.heap.size, 0, none⟩) z5).trans d0
          have K0 := Lib.hid k0
          have K1 := Lib.hid k1
          have K2 := Lib.hid k2
          clear ka k0 k1 k2
          have HPO := Lib.hid hpo
          have HB3 := Lib.hid hb3
          have HBS3 := Lib.hid hbs3
          have HBK3 := Lib.hid hbk3
          have HU3 := Lib.hid hu3
          have HBO3 := Lib.hid hbo3
          have lR : (x :: R).length ≤ 17 := by simp; omega
          clear hown' hgrow hloc hg0 hb3 hbs3 hbk3 hu3 hbo3 hpo hsl
          go_wp2_with fail
          go_region_law (first
            | (refine step_append_lies _ (by rfl) _ _ _ (by rfl) wo.heap.size 3 i0 _ 1 8 Tryz.underlying22 hi hz0 hz1 hz2 rfl (by omega) u t _ (by rfl) ((HU3.out.alloc _).drew) ⟨w3.heap.size, 0, none⟩ 1 1 [.int .i64 (evH p ((j : Int) + 1) (x :: R))] (by rfl) (by rfl) (cell_one_new _ _ _) (ints_oneCell .i64 [_]) (by omega) (by simp only [maxLen]; omega) (by omega) (by simp; omega) (w3.heap.size + 1) (by simp) ?_; intro gg cap w4 hown4 hgrow4 hat4 hlt4; have c4 : w4.cell? ⟨wo.heap.size, 1, none⟩ = some u := (hgrow4.cell_far _ (by simp; omega) (Ne.symm hux)).trans (K0.out _); have f4 : w4.frozen? ⟨wo.heap.size, 1, none⟩ = false := (hgrow4.frozen_far _ (by simp; omega) (Ne.symm hux)).trans (K1.out _))
            | (go_simp; go_at_call 25; ((with_reducible refine (r_EvalI p ((j : Int) + 1) v' (x :: R) _ _ (by omega) h2 (by omega) (by omega) HPO.out (by omega) HIN.out).mono ?_); rintro e wk ⟨rfl, rfl⟩)))
          all_goals
            have hgT : w3.grownBy w4 u.ownBlock := ⟨hgrow4.os, hgrow4.tape, hgrow4.output, Nat.le_trans (by simp) hgrow4.size, fun i hi hn => (hgrow4.block i (by simp; omega) hn).trans (Below.heap_alloc w3 _ i hi)⟩
            have hul : ∀ g, u.ownBlock = some g → wo.heap.size ≤ g := fun g hg => (HU3.out.lt g hg).1
            have hb4 : Below wo.heap.size wo w4 := HBO3.out.grown hgT (by omega) hul
            have hbs4 := HBS3.out.grown hgT (Ne.symm hux)
            have hne4 := own_blk_ne hown4 hbs4 (by decide)
            have HB4 := Lib.hid hb4
            have HBS4 := Lib.hid hbs4
            have HO4 := Lib.hid hown4
            clear hgrow4 hown4 hgT hul hb4 hbs4 hat4
            go_wp2_with fail
            go_roundw
            case measure => simp [intOf]; omega
            case rel =>
              refine ⟨t + 1, .slice (some ⟨gg, 0, none⟩) (t + 1) cap, by omega, by go_num, HBS4.out.set_ 1 _, ?_, HB4.out.setCell (p := ⟨wo.heap.size, 1, none⟩) (Nat.le_refl _) _⟩
              rw [List.range_succ, List.map_append, List.map_append]
              have := HO4.out.kept (only_setCell (World.grownBy.refl w4 _) (p := ⟨wo.heap.size, 1, none⟩) (.inl rfl) (.slice (some ⟨gg, 0, none⟩) (t + 1) cap)) (.inr hne4)
              rw [← HVAL.out] at this
              exact this
        · have htn' : t = ns := by omega
          subst htn'
          have c0 : wr.cell? ⟨wo.heap.size, 0, none⟩ = some (.int .i64 ((j : Int) + 1)) := hbs.cell 0
          have c1 : wr.cell? ⟨wo.heap.size, 1, none⟩ = some u := hbs.cell 1
          have how := HOWN.out.below hbo
          have HBS := Lib.hid hbs
          have HU := Lib.hid hu
          have HBO := Lib.hid hbo
          have HBL2 := Lib.hid hbl
          have HBK2 := Lib.hid hbk
          obtain ⟨cells, hr, hkk⟩ := how
          have hx : wr.ownsRow w.heap.size 3 1 u ((List.range t).map (dealV p k (j + 1) sec rnd)).length (((List.range t).map (dealV p k (j + 1) sec rnd)).map (Value.int .i64)) := by
            have := own_mono hu (show w.heap.size ≤ wo.heap.size by omega); simpa using this
          have h1c := own_one hu
          have hdl : (dealL p k sec rnd j).length = j := by simp [dealL]
          rw [hdl] at hr
          have HKK := Lib.hid hkk
          have HXX := Lib.hid hx
          clear hbs hu hbo hbl hbk hkk hx
          go_wp2_with (at_builtin; refine wpList_append_own _ rfl _ _ 30 rfl w.heap.size 36 j0 _ 2 32 Tryz.underlying30 hj hy0 hy1 hy2 rfl (by decide) _ _ _ rfl (hr.alloc _) ⟨wr.heap.size, 0, none⟩ 1 1 [.int .i64 ((j : Int) + 1), u] rfl rfl (World.news_of_block (cs := #[.int .i64 ((j : Int) + 1), u]) (t := 36) (fr := (0, 0)) (heap_alloc_new wr _)) (one2 rfl h1c) (by simp only [maxLen]; omega) (by omega) (by simp; omega) ?_)
          intro v5 w5 hown5 hgrow5 _
          have hg5 := grown_past hgrow5
          have hul : ∀ g, u8.ownBlock = some g → w.heap.size ≤ g := fun g hg => (hr.lt g hg).1
          have hne5 := own_blk_ne hr HBK2.out (by decide)
          have hsn := OwnSh.snoc (L := dealL p k sec rnd j) (x := ((j : Int) + 1, (List.range t).map (dealV p k (j + 1) sec rnd))) (by rw [hdl]; exact hr) HKK.out hg5 (by rw [hdl]; exact hown5) HXX.out
          have hb5 := HBL2.out.grown hg5 (by omega) hul
          have hbk5 := HBK2.out.grown hg5 (Ne.symm hne5)
          have HSN := Lib.hid hsn
          have HB5 := Lib.hid hb5
          have HBK5 := Lib.hid hbk5
          clear hown5 hgrow5 hg5 hul hne5 hsn hb5 hbk5 hr
          go_wp2_with fail
          go_roundw
          case measure => simp [intOf]; omega
          case rel =>
            refine ⟨j + 1, by omega, by go_num, ?_, HBK5.out, HB5.out⟩
            have e : dealL p k sec rnd (j + 1) = dealL p k sec rnd j ++ [((j : Int) + 1, (List.range t).map (dealV p k (j + 1) sec rnd))] := by
              unfold dealL; rw [List.range_succ, List.map_append, ← HNS.out]; rfl
            rw [e]
            exact HSN.out
    · have hjh : j = hold := by omega
      subst hjh
      have t0 : decide ((j : Int) + 1 ≤ (j : Int)) = false := decide_eq_false (by omega)
      go_wp2_with fail
      go_ret2
      exact ⟨_, rfl, HOWN.out, HBL.out⟩
end Go.Proofs.YtgeahbmaeaoeeaaGreatDoor
namespace Go.Proofs.YtgeahbmaeaoeeaaGreatDoor
open Go.RowKit Num Go.Maps

set_option maxHeartbeats 400000 in
theorem f_Sub (p : Nat) (a b : Int) (w : World) (h1 : 1 ≤ p) (h2 : p ≤ 2147483648) (ha0 : -2305843009213693952 < a) (ha : a < 2305843009213693952) (hb0 : -2305843009213693952 < b) (hb : b < 2305843009213693952) :
    Calls Tryz.prog 95 #[.int .i64 (p : Int), .int .i64 a, .int .i64 b] w fun e w' => e = .returned (.int .i64 ((a - b) % p)) ∧ w = w' := by
  go_enter Tryz.func95, Tryz.ntmps95
  go_wp2_with (go_at_call 110; refine (f_modulo _ _ _ (by omega) (by omega)).mono ?_; rintro e w' ⟨rfl, rfl⟩)
  go_ret
  exact ⟨rfl, rfl⟩
theorem f_MulZ (p : Nat) (a b : Int) (w : World) (h1 : 1 ≤ p) (h2 : p ≤ 2147483648) (ha0 : 0 ≤ a) (ha : a < 2147483648) (hb0 : 0 ≤ b) (hb : b < 2147483648) :
    Calls Tryz.prog 94 #[.int .i64 (p : Int), .int .i64 a, .int .i64 b] w fun e w' => e = .returned (.int .i64 (a * b % p)) ∧ w = w' := by
  obtain ⟨x, rfl⟩ := Int.eq_ofNat_of_zero_le ha0
  obtain ⟨y, rfl⟩ := Int.eq_ofNat_of_zero_le hb0
  refine (f_Mul p x y w h1 h2 (by omega) (by omega)).mono ?_
  rintro e w' ⟨rfl, rfl⟩
  exact ⟨ret_int (by rw [Int.natCast_emod, Int.natCast_mul]), rfl⟩
/-- The inverse: a power. -/
def invP (p : Nat) (a : Int) : Int := pw p a.toNat (p - 2)
theorem invP_bd (p : Nat) (a : Int) (hp : 2 ≤ p) : 0 ≤ invP p a ∧ invP p a < p := by
  have := pw_lt (m := p) (by omega) a.toNat (p - 2)
  unfold invP; omega
theorem invP_cg {p : Nat} (hp : Prm p) {a : Int} (h0 : 0 ≤ a) (ha : ¬ (p : Int) ∣ a) : Cg p (a * invP p a) 1 := by
  obtain ⟨n, rfl⟩ := Int.eq_ofNat_of_zero_le h0
  have hn : ¬ p ∣ n := fun h => ha (Int.natCast_dvd_natCast.2 h)
  have := inv_pow hp hn
  unfold invP pw
  rw [Int.toNat_natCast]
  exact this
set_option maxHeartbeats 400000 in
theorem f_Inverse (p : Nat) (a : Int) (w : World) (hp : 2 ≤ p) (h2 : p ≤ 2147483648) (ha0 : 0 < a) (ha : a < 2147483648) :
    Calls Tryz.prog 91 #[.int .i64 (p : Int), .int .i64 a] w fun e w' => e = .returned (.tuple #[.int .i64 (invP p a), .int .i64 0]) ∧ w = w' := by
  have t0 : ((a == 0) = false) := by simp only [beq_eq_false_iff_ne]; omega
  go_enter Tryz.func91, Tryz.ntmps91
  go_wp2_with fail
  refine (f_powerII p a _ _ (by omega) (by omega) (by omega) (by omega) (by omega) (by omega)).mono ?_
  rintro e w' ⟨rfl, rfl⟩
  go_wp2_with fail
  go_ret2
  refine ⟨?_, rfl⟩
  unfold invP
  rw [show ((p : Int) - 2).toNat = p - 2 by omega]
  rfl

/-- The product of the differences of x to the first k places, but number i, modulo p at each step. -/
def wA (p : Int) (xs : Nat → Int) (i : Nat) (x : Int) : Nat → Int
  | 0 => 1 % p
  | k + 1 => if k = i then wA p xs i x k else wA p xs i x k * ((x - xs k) % p) % p
theorem wA_cg (p : Int) (xs : Nat → Int) (i : Nat) (x : Int) : ∀ k, Cg p (wA p xs i x k) (pbut xs i x k) := by
  intro k
  induction k with
  | zero => exact Cg.emod p 1
  | succ k ih =>
    unfold wA pbut
    by_cases h : k = i
    · rw [if_pos h, if_pos h]; exact ih
    · rw [if_neg h, if_neg h]
      exact Cg.of_emod (ih.mul (Cg.emod p _))
theorem wA_bd (p : Nat) (xs : Nat → Int) (i : Nat) (x : Int) (hp : 1 ≤ p) : ∀ k, 0 ≤ wA p xs i x k ∧ wA p xs i x k < p := by
  intro k
  induction k with
  | zero => exact ⟨Int.emod_nonneg _ (by omega), Int.emod_lt_of_pos _ (by omega)⟩
  | succ k ih =>
    unfold wA
    by_cases h : k = i
    · rw [if_pos h]; exact ih
    · rw [if_neg h]; exact ⟨Int.emod_nonneg _ (by omega), Int.emod_lt_of_pos _ (by omega)⟩
/-- The weight of place i at x. -/
def wt (p : Nat) (xs : Nat → Int) (n i : Nat) (x : Int) : Int := wA p xs i x n * invP p (wA p xs i (xs i) n) % p
def fOf (xs : List Int) (k : Nat) : Int := xs.getD k 0

end Go.Proofs.YtgeahbmaeaoeeaaGreatDoor
