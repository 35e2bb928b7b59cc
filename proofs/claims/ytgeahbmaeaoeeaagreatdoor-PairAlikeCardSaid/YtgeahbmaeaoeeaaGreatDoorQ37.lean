/- Contracts: how many shares may be wrong; the values of shares at a place; whether shares are good in a plan. Contracts: whether shares are those of a coalition, with so many values each. -/
import Derived.Test.YtgeahbmaeaoeeaaGreatDoorQ08
import Derived.Test.YtgeahbmaeaoeeaaGreatDoorQ36
import Derived.Test.YtgeahbmaeaoeeaaGreatDoorQ34
import Derived.Test.YtgeahbmaeaoeeaaGreatDoorQ02
import Derived.RangeFuncNested
import Derived.RangeFuncBound
import Derived.RangeFuncCalls
import Derived.RangeFuncLeaves
import Derived.RangeFuncWrites
import Derived.RangeFuncBox
import Derived.Shelf.Abstract
import Derived.Shelf.RegionOpen
import Derived.WalkKit
import Derived.OwnWalkIn
import Derived.TacticsInMore
import Derived.LoopNIn
import Derived.LoopIn
import Derived.Test.YtgeahbmaeaoeeaaGreatDoorQ01
import Derived.Deep.RegionHeld3
import Derived.OrdersIn
import Derived.TacticsIn
import Derived.Test.YtgeahbmaeaoeeaaGreatDoorQ35
import Derived.Lib.SliceRun
set_option linter.unusedVariables false
set_option linter.unusedSimpArgs false
namespace Go.Proofs.YtgeahbmaeaoeeaaGreatDoor
open Go.RowKit Num

/-- The values of shares at a place. -/
def colY (l : List Sh) (i : Nat) : List Int := l.map fun s => s.2.getD i 0
theorem colY_len (l : List Sh) (i : Nat) : (colY l i).length = l.length := by simp [colY]
theorem colY_get (l : List Sh) (i k : Nat) (h : k < l.length) : (colY l i).getD k 0 = (shAt l k).2.getD i 0 := by
  unfold colY shAt
  rw [List.getD_eq_getElem?_getD, List.getElem?_map, List.getD_eq_getElem?_getD (l := l), List.getElem?_eq_getElem h]; rfl
theorem hsOf_len (l : List Sh) : (hsOf l).length = l.length := by simp [hsOf]
/-- Shares that are good in a plan: holders of the plan, each once, equally many values, each an element. -/
structure GoodSh (p hold m : Nat) (l : List Sh) : Prop where
  holder : ∀ k, k < l.length → 1 ≤ (shAt l k).1 ∧ (shAt l k).1 ≤ hold
  once : ∀ i j, i < l.length → j < l.length → i ≠ j → (shAt l i).1 ≠ (shAt l j).1
  len : ∀ k, k < l.length → (shAt l k).2.length = m
  inF : ∀ k, k < l.length → InF p (shAt l k).2
theorem GoodSh.apart {p hold m : Nat} {l : List Sh} (h : GoodSh p hold m l) (hp : hold < p) : ApartN p (fOf (hsOf l)) (hsOf l).length := by
  intro i j hi hj hne hd
  rw [hsOf_len] at hi hj
  rw [hsOf_get l i hi, hsOf_get l j hj] at hd
  have h1 := h.holder i hi
  have h2 := h.holder j hj
  have := h.once i j hi hj hne
  have := Int.eq_zero_of_dvd_of_natAbs_lt_natAbs hd (by omega)
  omega
theorem GoodSh.dist {p hold m : Nat} {l : List Sh} (h : GoodSh p hold m l) : ∀ i j, i < (hsOf l).length → j < (hsOf l).length → i ≠ j → (hsOf l).getD i 0 ≠ (hsOf l).getD j 0 := by
  intro i j hi hj hne
  rw [hsOf_len] at hi hj
  have e1 := hsOf_get l i hi
  have e2 := hsOf_get l j hj
  unfold fOf at e1 e2
  rw [e1, e2]
  exact h.once i j hi hj hne
theorem GoodSh.hsF {p hold m : Nat} {l : List Sh} (h : GoodSh p hold m l) (hp : hold < p) : InF p (hsOf l) := by
  intro k hk
  rw [hsOf_len] at hk
  have e := hsOf_get l k hk
  unfold fOf at e
  have := h.holder k hk
  rw [e]; omega
theorem GoodSh.colF {p hold m : Nat} {l : List Sh} (h : GoodSh p hold m l) (i : Nat) (hi : i < m) : InF p (colY l i) := by
  intro k hk
  rw [colY_len] at hk
  rw [colY_get l i k hk]
  exact h.inF k hk i (by rw [h.len k hk]; exact hi)
def BoolBelow (b : Bool) (w : World) (e : Ending) (w' : World) : Prop := e = .returned (.bool b) ∧ Below w.heap.size w w'
set_option maxHeartbeats 400000 in
theorem s_Valid (p need hold : Nat) (w : World) (hw : BasesOk w) (hp : Prm p) (h2 : p ≤ 1073741824) (n1 : 1 ≤ need) (n2 : need ≤ hold) (n3 : hold ≤ 16) (n4 : hold < p) :
    Calls Tryz.prog 64 #[.agg #[.int .i64 (p : Int), .int .i64 (need : Int), .int .i64 (hold : Int)]] w (BoolBelow true w) := by
  have hw1 := fun o => hw.alloc o
  have t1 : decide ((1 : Int) ≤ (need : Int)) = true := decide_eq_true (by omega)
  have t2 : decide ((need : Int) ≤ (hold : Int)) = true := decide_eq_true (by omega)
  have t3 : decide ((hold : Int) ≤ 16) = true := decide_eq_true (by omega)
  have t4 : decide ((hold : Int) < (p : Int)) = true := decide_eq_true (by omega)
  go_enter Tryz.func64, Tryz.ntmps64
  go_wp2_with fail
  refine (f_Valid p _ (hw1 _) hp h2).mono ?_
  rintro e w' ⟨rfl, rfl⟩
  go_wp2_with fail
  go_ret
  exact ⟨rfl, (Below.refl _ _).alloc (Nat.le_refl _) _⟩

/-- Which holders have been seen among the first k shares. -/
def seenV (L : List Sh) (k : Nat) (j : Nat) : Value := .bool (decide (∃ i, i < k ∧ (shAt L i).1 = (j : Int)))
end Go.Proofs.YtgeahbmaeaoeeaaGreatDoor
namespace Go.Proofs.YtgeahbmaeaoeeaaGreatDoor
open Go.RowKit Num

set_option maxRecDepth 100000 in
set_option maxHeartbeats 1000000 in
theorem c_Values (v : Value) (L : List Sh) (i : Nat) (S : Nat → Prop) (w : World) (hv : ShAt w S v L) (hS : ∀ b, S b → b < w.heap.size) (hl : L.length ≤ 1000) (hi : ∀ k, k < L.length → i < (shAt L k).2.length) :
    Calls Tryz.prog 70 #[v, .int .i64 (i : Int)] w (IntsPost (colY L i) w) := by
  obtain ⟨A, n, c, rfl, hn, hnc, hc⟩ := hv
  obtain ⟨i0, hin, hz0, hz1, hz2⟩ := info_parts infoI
  have hn1 : n ≤ 1000 := by omega
  rw [← hn] at hi
  have HN := Lib.hid hn
  have HI := Lib.hid hi
  have HC := Lib.hid hc
  have q0 : (0 : Int) ≤ (i : Int) := by omega
  clear hn hl hi hc
  go_enter Tryz.func70, Tryz.ntmps70
  go_wp2_with fail
  go_loopw [5, 10] (fun o t wr => ∃ k : Nat, k ≤ n ∧ t = .int .i64 k ∧ wr.ownsRow w.heap.size 3 1 o k ((colY (L.take k) i).map (Value.int .i64)) ∧ Below w.heap.size w wr) (fun _ t _ => n - (intOf t).toNat)
  case atStart => exact ⟨0, by omega, rfl, World.ownsRow_nil _ _ _ _, Below.refl _ _⟩
  case round =>
    obtain ⟨k, hk, rfl, hown, hbl⟩ := hrel
    have hsz := hbl.size
    by_cases hlt : k < n
    · obtain ⟨b, off, rfl, hSb, hcell⟩ := HC.out (by omega)
      obtain ⟨u, c0, c1, hu⟩ := hcell k hlt
      obtain ⟨Au, nu, cu, rfl, e1, e2, e3⟩ := hu
      have hiL := HI.out k hlt
      obtain ⟨bu, offu, rfl, hSu, hcu⟩ := e3 (by omega)
      have hbw := hS b hSb
      have hbu := hS bu hSu
      have d0 := (hbl.cell (p := ⟨b, off + k * 2, none⟩) hbw).trans c0
      have d1 := (hbl.cell (p := ⟨b, off + k * 2 + 1, none⟩) hbw).trans c1
      have d2 := (hbl.cell (p := ⟨bu, offu + i, none⟩) hbu).trans (hcu i (by omega))
      have qk : (k : Int) < (n : Int) := by omega
      have qi : (i : Int) < (nu : Int) := by omega
      have HBL := Lib.hid hbl
      obtain ⟨y, hy⟩ : ∃ y, (shAt L k).2.getD i 0 = y := ⟨_, rfl⟩
      rw [hy] at d2
      obtain ⟨h, hh⟩ : ∃ h, (shAt L k).1 = h := ⟨_, rfl⟩
      rw [hh] at d0
      have hstep : (colY (L.take (k + 1)) i).map (Value.int .i64) = (colY (L.take k) i).map (Value.int .i64) ++ [.int .i64 y] := by
        have hkl : k < L.length := by rw [← HN.out]; exact hlt
        unfold colY
        rw [List.take_succ_eq_append_getElem hkl, List.map_append, List.map_append]
        have : shAt L k = L[k] := by unfold shAt; rw [List.getD_eq_getElem?_getD, List.getElem?_eq_getElem hkl]; rfl
        rw [← hy, this]; rfl
      have HST := Lib.hid hstep
      have bz : bu < wr.heap.size := by omega
      clear hbl hcell c0 c1 hh hstep hy e1 e2 e3 hcu hiL
      go_wp2_with (at_builtin; refine wpList_append_own _ rfl _ _ 22 rfl w.heap.size 3 i0 (.int .i64 0) 1 8 Tryz.underlying22 hin hz0 hz1 hz2 rfl (by decide) _ _ _ rfl ((hown.alloc _).alloc _) ⟨wr.heap.size + 1, 0, none⟩ 1 1 [.int .i64 y] rfl rfl (fun j u hj => by have := cell_one_new (wr.alloc (.cells #[.int .i64 h, .slice (some ⟨bu, offu, none⟩) nu cu] 36)) (.int .i64 y) 3 j u hj; simpa using this) (ints_oneCell .i64 [_]) (by unfold maxLen; omega) (by omega) (by simp; omega) ?_)
      intro v' w2 hown' hgrow _
      have hg := grown_past (grown_past hgrow)
      have hown2 : w2.ownsRow w.heap.size 3 1 v' (k + 1) ((colY (L.take (k + 1)) i).map (Value.int .i64)) := by rw [HST.out]; simpa using hown'
      have hul : ∀ g, u5.ownBlock = some g → w.heap.size ≤ g := fun g hg => (hown.lt g hg).1
      have hb2 := HBL.out.grown hg hsz hul
      have HO2 := Lib.hid hown2
      have HB2 := Lib.hid hb2
      clear hown' hgrow hg hown2 hul hb2 hown
      go_wp2_with fail
      go_roundw
      case measure => simp [intOf]; omega
      case rel => exact ⟨k + 1, by omega, by go_num, HO2.out, HB2.out⟩
    · have hkn : k = n := by omega
      subst hkn
      go_wp2_with fail
      go_ret
      refine ⟨_, rfl, IntsAt.of_own (n := k) ?_, hbl⟩
      rwa [List.take_of_length_le (by rw [← HN.out]; exact Nat.le_refl _)] at hown

set_option maxHeartbeats 400000 in
theorem s_elem1 (pb p : Nat) (x : Int) (w : World) (hc : w.cell? ⟨pb, 0, none⟩ = some (.int .i64 (p : Int))) (h0 : 0 ≤ x) (h1 : x < p) :
    Calls Tryz.prog 87 #[.int .i64 x, .pointer (some ⟨pb, 0, none⟩)] w fun e w' => e = .returned (.bool false) ∧ w = w' := by
  have t1 : decide (x < 0) = false := decide_eq_false (by omega)
  have t2 : decide ((p : Int) ≤ x) = false := decide_eq_false (by omega)
  clear h0 h1
  go_enter Tryz.func87, Tryz.ntmps87
  go_wp2_with fail
  go_ret
  exact ⟨rfl, rfl⟩
set_option maxRecDepth 100000 in
set_option maxHeartbeats 1000000 in
theorem s_IndexFunc (pb p : Nat) (v : Value) (xs : List Int) (S : Nat → Prop) (w : World) (hv : IntsAt w S v xs) (hl : xs.length ≤ 1000000) (hc : w.cell? ⟨pb, 0, none⟩ = some (.int .i64 (p : Int))) (hx : InF p xs) :
    Calls Tryz.prog 108 #[v, .func (.func 87) #[] #[.pointer (some ⟨pb, 0, none⟩)]] w fun e w' => e = .returned (.int .i64 (-1)) ∧ w = w' := by
  obtain ⟨A, n, ca, rfl, hn, hnc, hcc⟩ := hv
  rw [← hn] at hl
  have hx' : ∀ k, k < n → 0 ≤ xs.getD k 0 ∧ xs.getD k 0 < p := fun k hk => hx k (by omega)
  have HX := Lib.hid hx'
  have HCC := Lib.hid hcc
  clear hn hcc hx hx'
  go_enter Tryz.func108, Tryz.ntmps108
  go_wp2_with fail
  go_loopw [8] (fun t wr => ∃ i : Nat, i ≤ n ∧ t = .int .i64 i ∧ w = wr) (fun t _ => n - (intOf t).toNat)
  case atStart => exact ⟨0, by omega, rfl, rfl⟩
  case round =>
    obtain ⟨i, hin, rfl, rfl⟩ := hrel
    by_cases hlt : i < n
    · obtain ⟨b, off, rfl, _, hcell⟩ := HCC.out (by omega)
      have cx := hcell i hlt
      have bx := HX.out i hlt
      obtain ⟨x, hx⟩ : ∃ x, xs.getD i 0 = x := ⟨_, rfl⟩
      rw [hx] at cx bx
      have qi : (i : Int) < (n : Int) := by omega
      have qi0 : (0 : Int) ≤ (i : Int) := by omega
      have he := s_elem1 pb p x w hc bx.1 bx.2
      have HE := Lib.hid he
      clear hx hcell bx he
      go_wp2_with fail
      refine HE.out.mono ?_
      rintro e w' ⟨rfl, rfl⟩
      go_wp2_with fail
      go_roundw
      case measure => simp [intOf]; omega
      case rel => exact ⟨i + 1, by omega, by go_num, by first | rfl | trivial⟩
    · have hi' : i = n := by omega
      subst hi'
      go_wp2_with fail
      go_ret
      exact ⟨rfl, rfl⟩
set_option maxHeartbeats 400000 in
theorem s_ContainsFunc (pb p : Nat) (v : Value) (xs : List Int) (S : Nat → Prop) (w : World) (hv : IntsAt w S v xs) (hl : xs.length ≤ 1000000) (hc : w.cell? ⟨pb, 0, none⟩ = some (.int .i64 (p : Int))) (hx : InF p xs) :
    Calls Tryz.prog 86 #[v, .func (.func 87) #[] #[.pointer (some ⟨pb, 0, none⟩)]] w fun e w' => e = .returned (.bool false) ∧ w = w' := by
  have h := s_IndexFunc pb p v xs S w hv hl hc hx
  have H := Lib.hid h
  clear h hv hx hc
  go_enter Tryz.func86, Tryz.ntmps86
  go_wp2_with fail
  refine H.out.mono ?_
  rintro e w' ⟨rfl, rfl⟩
  go_wp2_with fail
  go_ret
  exact ⟨rfl, rfl⟩
set_option maxHeartbeats 400000 in
theorem s_elements (p need hold : Nat) (v : Value) (xs : List Int) (S : Nat → Prop) (w : World) (hv : IntsAt w S v xs) (hS : ∀ b, S b → b < w.heap.size) (hl : xs.length ≤ 1000000) (hx : InF p xs) :
    Calls Tryz.prog 66 #[.agg #[.int .i64 (p : Int), .int .i64 (need : Int), .int .i64 (hold : Int)], v] w (BoolBelow true w) := by
  obtain ⟨A, n, c, rfl, hn, hnc, hcc⟩ := id hv
  have h := s_ContainsFunc w.heap.size p _ xs S (w.alloc (.cells #[.int .i64 (p : Int), .int .i64 (need : Int), .int .i64 (hold : Int)] 29)) (hv.keep fun b hb => Below.heap_alloc _ _ _ (hS b hb)) hl (by rw [World.cell?_alloc_new]; rfl) hx
  have H := Lib.hid h
  clear h hv hx hn hcc
  go_enter Tryz.func66, Tryz.ntmps66
  go_wp2_with fail
  refine H.out.mono ?_
  rintro e w' ⟨rfl, rfl⟩
  go_wp2_with fail
  go_ret
  exact ⟨rfl, (Below.refl _ _).alloc (Nat.le_refl _) _⟩
set_option maxHeartbeats 400000 in
theorem s_Stands (p need hold h : Nat) (v : Value) (xs : List Int) (S : Nat → Prop) (w : World) (hv : IntsAt w S v xs) (hS : ∀ b, S b → b < w.heap.size) (hl : xs.length ≤ 1000000) (hx : InF p xs) (h1 : 1 ≤ h) (h2 : h ≤ hold) :
    Calls Tryz.prog 85 #[.agg #[.int .i64 (p : Int), .int .i64 (need : Int), .int .i64 (hold : Int)], .agg #[.int .i64 (h : Int), v]] w (BoolBelow true w) := by
  obtain ⟨A, n, c, rfl, hn, hnc, hcc⟩ := id hv
  have t1 : decide ((1 : Int) ≤ (h : Int)) = true := decide_eq_true (by omega)
  have t2 : decide ((h : Int) ≤ (hold : Int)) = true := decide_eq_true (by omega)
  have t3 : decide (h ≤ hold) = true := decide_eq_true h2
  have e := fun (o o' : Obj) => s_elements p need hold (.slice A n c) xs S ((w.alloc o).alloc o') ((hv.keep fun b hb => Below.heap_alloc _ _ _ (hS b hb)).keep fun b hb => Below.heap_alloc _ _ _ (by have := hS b hb; simp; omega)) (fun b hb => by have := hS b hb; simp; omega) hl hx
  have E := Lib.hid e
  clear e hv hx hn hcc h1 h2
  go_enter Tryz.func85, Tryz.ntmps85
  go_wp2_with fail
  refine (E.out _ _).mono ?_
  rintro e w' ⟨rfl, hb⟩
  have HB := Lib.hid hb
  clear hb
  go_wp2_with fail
  go_ret
  exact ⟨rfl, (((Below.refl _ _).alloc (Nat.le_refl _) _).alloc (by simp) _).trans (HB.out.mono (by simp; omega))⟩
end Go.Proofs.YtgeahbmaeaoeeaaGreatDoor
namespace Go.Proofs.YtgeahbmaeaoeeaaGreatDoor
open Go.RowKit Num

/-- A share is a holder's, with so many values. -/
def StandO (p : Nat) (vals h : Int) (s : Sh) : Prop := s.1 = h ∧ (s.2.length : Int) = vals ∧ InF p s.2
def BoolIff (P : Prop) (w : World) (e : Ending) (w' : World) : Prop := (∃ b : Bool, e = .returned (.bool b) ∧ (b = true ↔ P)) ∧ Below w.heap.size w w'
theorem BoolIff.no {P : Prop} {w w' : World} (h : ¬ P) (hb : Below w.heap.size w w') : BoolIff P w (.returned (.bool false)) w' := ⟨⟨false, rfl, ⟨fun h0 => (by cases h0), fun h1 => absurd h1 h⟩⟩, hb⟩
theorem BoolIff.yes {P : Prop} {w w' : World} (h : P) (hb : Below w.heap.size w w') : BoolIff P w (.returned (.bool true)) w' := ⟨⟨true, rfl, ⟨fun _ => h, fun _ => rfl⟩⟩, hb⟩
set_option maxRecDepth 100000 in
set_option maxHeartbeats 1000000 in
theorem v_stand1 (p : Nat) (need hold vals hN : Int) (x1 : Int) (xs : List Int) (u : Value) (vb pb : Nat) (w : World) (hw : BasesOk w) (hp : Prm p) (h2 : p ≤ 1073741824) (hu : IntsAt w (· < w.heap.size) u xs) (hl : xs.length ≤ 1000000)
    (hvb : Blk w vb 3 #[.int .i64 vals]) (hpb : Blk w pb 29 #[.int .i64 (p : Int), .int .i64 need, .int .i64 hold]) :
    Calls Tryz.prog 117 #[.agg #[.int .i64 x1, u], .int .i64 hN, .pointer (some ⟨vb, 0, none⟩), .pointer (some ⟨pb, 0, none⟩)] w (BoolIff (StandO p vals hN (x1, xs)) w) := by
  obtain ⟨A, n, c, rfl, hn, -⟩ := id hu
  have hb0 : Below w.heap.size w (w.alloc (.cells #[.int .i64 x1, .slice A n c] 36)) := (Below.refl _ w).alloc (Nat.le_refl _) _
  have cv : (w.alloc (.cells #[.int .i64 x1, .slice A n c] 36)).cell? ⟨vb, 0, none⟩ = some (.int .i64 vals) := ((hvb.alloc _).cell 0).trans rfl
  have cp : (w.alloc (.cells #[.int .i64 x1, .slice A n c] 36)).cell? ⟨pb, 0, none⟩ = some (.int .i64 (p : Int)) := ((hpb.alloc _).cell 0).trans rfl
  have hel := c_Elements (p : Int) true (.slice A n c) xs _ _ (hu.up hb0) hl (f_Valid p _ (hw.alloc _) hp h2)
  have HEL := Lib.hid hel
  have HB := Lib.hid hb0
  have HN := Lib.hid hn
  clear hel hb0 hu hn hvb hpb
  by_cases h1 : x1 = hN
  · have H1 := Lib.hid h1
    have t1 : (x1 == hN) = true := by simpa using h1
    clear h1
    by_cases h3 : (n : Int) = vals
    · have H3 := Lib.hid h3
      have t3 : ((n : Int) == vals) = true := by simpa using h3
      clear h3
      go_enter Tryz.func117, Tryz.ntmps117
      go_wp2_with fail
      refine HEL.out.mono ?_
      rintro e w' ⟨b, rfl, hb, rfl⟩
      have HBB := Lib.hid hb
      clear hb
      go_wp2_with fail
      go_ret
      refine ⟨⟨b, by cases b <;> rfl, ⟨fun h => ⟨H1.out, by show (xs.length : Int) = vals; rw [← HN.out]; exact H3.out, (HBB.out.1 h).1⟩, fun h => HBB.out.2 ⟨h.2.2, trivial⟩⟩⟩, HB.out⟩
    · have H3 := Lib.hid h3
      have t3 : ((n : Int) == vals) = false := by simpa using h3
      clear h3
      go_enter Tryz.func117, Tryz.ntmps117
      go_wp2_with fail
      go_ret
      exact BoolIff.no (fun h => H3.out (by rw [HN.out]; exact h.2.1)) HB.out
  · have H1 := Lib.hid h1
    have t1 : (x1 == hN) = false := by simpa using h1
    clear h1
    go_enter Tryz.func117, Tryz.ntmps117
    go_wp2_with fail
    go_ret
    exact BoolIff.no (fun h => H1.out h.1) HB.out
/-- Shares are those of a coalition. -/
def StandP (p : Nat) (vals : Int) (L : List Sh) (H : List Int) : Prop := L.length = H.length ∧ ∀ i, i < L.length → StandO p vals (H.getD i 0) (shAt L i)
set_option maxRecDepth 100000 in
set_option maxHeartbeats 2000000 in
theorem v_EqStand (p : Nat) (need hold vals : Int) (v uh : Value) (L : List Sh) (H : List Int) (vb pb : Nat) (w : World) (hw : BasesOk w) (hp : Prm p) (h2 : p ≤ 1073741824) (hv : ShAt w (· < w.heap.size) v L) (hh : IntsAt w (· < w.heap.size) uh H) (hl : L.length ≤ 1000000) (hlh : H.length ≤ 1000000) (hll : ∀ k, k < L.length → (shAt L k).2.length ≤ 1000000)
    (hvb : Blk w vb 3 #[.int .i64 vals]) (hpb : Blk w pb 29 #[.int .i64 (p : Int), .int .i64 need, .int .i64 hold]) :
    Calls Tryz.prog 116 #[v, uh, .func (.func 117) #[] #[.pointer (some ⟨vb, 0, none⟩), .pointer (some ⟨pb, 0, none⟩)]] w (BoolIff (StandP p vals L H) w) := by
  obtain ⟨A, n, c, rfl, hn, hnc, hA⟩ := id hv
  obtain ⟨B, m, k, rfl, hm, hmk, hB⟩ := id hh
  have n1 : n ≤ 1000000 := by omega
  have m1 : m ≤ 1000000 := by omega
  have HV := Lib.hid hv
  have HA := Lib.hid hA
  have HB := Lib.hid hB
  have HN := Lib.hid hn
  have HM := Lib.hid hm
  have HLL := Lib.hid hll
  have HW := Lib.hid hw
  have HVB := Lib.hid hvb
  have HPB := Lib.hid hpb
  have s1 := hvb.lt
  have s2 := hpb.lt
  clear hA hB hn hm hl hlh hv hh hll hw hvb hpb
  by_cases hnm : n = m
  · subst hnm
    go_enter Tryz.func116, Tryz.ntmps116
    go_wp2_with fail
    go_loopw [7, 8, 9, 17] (fun v7 v8 v9 v17 wr => ∃ i : Nat, i ≤ n ∧ v17 = .int .i64 (i : Int) ∧ (∀ q, q < i → StandO p vals (H.getD q 0) (shAt L q)) ∧ Below w.heap.size w wr) (fun _ _ _ v17 _ => n - (intOf v17).toNat)
    case atStart => exact ⟨0, by omega, rfl, fun q hq => absurd hq (Nat.not_lt_zero _), Below.refl _ _⟩
    case round =>
      obtain ⟨i, hi, rfl, heq, hbr⟩ := hrel
      rename World => wr
      have HE := Lib.hid heq
      have HBR := Lib.hid hbr
      have hsz := hbr.size
      clear heq hbr
      by_cases hlt : i < n
      · obtain ⟨b1, o1, rfl, hS1, hc1⟩ := HA.out (by omega)
        obtain ⟨b2, o2, rfl, hS2, hc2⟩ := HB.out (by omega)
        obtain ⟨u, c0, c1, hu⟩ := hc1 i hlt
        have d0 := hc2 i hlt
        have c0 := (HBR.out.cell (p := ⟨b1, o1 + i * 2, none⟩) hS1).trans c0
        have c1 := (HBR.out.cell (p := ⟨b1, o1 + i * 2 + 1, none⟩) hS1).trans c1
        have d0 := (HBR.out.cell (p := ⟨b2, o2 + i, none⟩) hS2).trans d0
        have hla : (shAt L i).2.length ≤ 1000000 := HLL.out _ (by have := HN.out; omega)
        have hur := hu.up HBR.out
        obtain ⟨x1, hx1⟩ : ∃ x, (shAt L i).1 = x := ⟨_, rfl⟩
        obtain ⟨xs, hxs⟩ : ∃ x, (shAt L i).2 = x := ⟨_, rfl⟩
        obtain ⟨hN, hhN⟩ : ∃ x, H.getD i 0 = x := ⟨_, rfl⟩
        rw [hx1] at c0
        rw [hxs] at hla hur
        rw [hhN] at d0
        obtain ⟨A1, q1, e1, rfl, -⟩ := id hur
        have zi : (i : Int) < (n : Int) := by omega
        have z0 : (0 : Int) ≤ (i : Int) := by omega
        have hbx : Below wr.heap.size wr (wr.alloc (.cells #[.int .i64 x1, .slice A1 q1 e1] 36)) := (Below.refl _ _).alloc (Nat.le_refl _) _
        have D0 : ∀ o : Obj, (wr.alloc o).cell? ⟨b2, o2 + i, none⟩ = some (.int .i64 hN) := fun o => (World.cell?_alloc_lt wr o ⟨b2, o2 + i, none⟩ (by show b2 < _; omega)).trans d0
        have hcl := v_stand1 p need hold vals hN x1 xs (.slice A1 q1 e1) vb pb _ (HW.out.below (HBR.out.trans (hbx.mono hsz))) hp h2 (hur.up hbx) hla ((HVB.out.below HBR.out s1).alloc _) ((HPB.out.below HBR.out s2).alloc _)
        have HCL := Lib.hid hcl
        have HX := Lib.hid (HBR.out.trans (hbx.mono hsz))
        have HX1 := Lib.hid hx1
        have HXS := Lib.hid hxs
        have HHN := Lib.hid hhN
        clear hcl hbx hc1 hc2 hu hur hx1 hxs hhN
        go_wp2_with fail
        refine HCL.out.mono ?_
        rintro e w5 ⟨⟨b, rfl, hbb⟩, hB5⟩
        have HB5 := Lib.hid (HX.out.trans (hB5.mono HX.out.size))
        have HBB := Lib.hid hbb
        clear hbb hB5 HCL HX D0 c0 c1 d0
        cases b with
        | false =>
          go_wp2_with fail
          go_ret
          refine BoolIff.no (fun h => ?_) HB5.out
          have h2 := h.2 i (by rw [← HN.out]; exact hlt)
          unfold StandO at h2
          rw [HX1.out, HXS.out, HHN.out] at h2
          exact absurd (HBB.out.2 h2) (by simp)
        | true =>
          go_wp2_with fail
          go_roundw
          case measure => simp [intOf]; omega
          case rel => exact ⟨i + 1, by omega, by go_num, (fun q hq => by
            by_cases e : q = i
            · subst e
              unfold StandO
              rw [HX1.out, HXS.out, HHN.out]
              exact HBB.out.1 trivial
            · exact HE.out q (by omega)), HB5.out⟩
      · have zi : ¬ (i : Int) < (n : Int) := by omega
        have he : StandP p vals L H := ⟨by rw [← HN.out, ← HM.out], fun q hq => HE.out q (by have := HN.out; omega)⟩
        have HEQ := Lib.hid he
        clear he
        go_wp2_with fail
        go_ret
        exact BoolIff.yes HEQ.out HBR.out
  · have hne : ((n : Int) == (m : Int)) = false := by simp; omega
    have hne2 : ((n : Int) != (m : Int)) = true := by simp; omega
    have he : ¬ StandP p vals L H := fun h => hnm (by rw [HN.out, HM.out, h.1])
    have HEQ := Lib.hid he
    clear he
    go_enter Tryz.func116, Tryz.ntmps116
    go_wp2_with fail
    go_ret
    exact BoolIff.no HEQ.out (Below.refl _ _)
set_option maxRecDepth 100000 in
set_option maxHeartbeats 1000000 in
theorem v_stand (p : Nat) (need hold vals : Int) (v uh : Value) (L : List Sh) (H : List Int) (w : World) (hw : BasesOk w) (hp : Prm p) (h2 : p ≤ 1073741824) (hv : ShAt w (· < w.heap.size) v L) (hh : IntsAt w (· < w.heap.size) uh H) (hl : L.length ≤ 1000000) (hlh : H.length ≤ 1000000) (hll : ∀ k, k < L.length → (shAt L k).2.length ≤ 1000000) :
    Calls Tryz.prog 98 #[.agg #[.int .i64 (p : Int), .int .i64 need, .int .i64 hold], v, uh, .int .i64 vals] w (BoolIff (StandP p vals L H) w) := by
  have hmf : ∀ (fn : Fn) (first cap : Array Value) (w : World), (Instr.makeFunc fn first cap).run Tryz.prog w = .ok (.func fn first cap) w := fun _ _ _ _ => rfl
  have hb0 : Below w.heap.size w ((w.alloc (.cells #[.int .i64 (p : Int), .int .i64 need, .int .i64 hold] 29)).alloc (.cells #[.int .i64 vals] 3)) := ((Below.refl _ w).alloc (Nat.le_refl _) _).alloc (by simp) _
  have hvb := Blk.new (w.alloc (.cells #[.int .i64 (p : Int), .int .i64 need, .int .i64 hold] 29)) 3 #[.int .i64 vals]
  have hpb := (Blk.new w 29 #[.int .i64 (p : Int), .int .i64 need, .int .i64 hold]).alloc (.cells #[.int .i64 vals] 3)
  rw [World.size_alloc] at hvb
  have hcl := v_EqStand p need hold vals v uh L H (w.heap.size + 1) w.heap.size _ (hw.below hb0) hp h2 (hv.up hb0) (hh.up hb0) hl hlh hll hvb hpb
  have HCL := Lib.hid hcl
  have HB := Lib.hid hb0
  clear hcl hb0 hvb hpb hv hh hll hw
  go_enter Tryz.func98, Tryz.ntmps98
  go_wp2_with fail
  refine HCL.out.mono ?_
  rintro e w5 ⟨⟨b, rfl, hbb⟩, hB5⟩
  have HB5 := Lib.hid (HB.out.trans (hB5.mono HB.out.size))
  have HBB := Lib.hid hbb
  clear hbb hB5 HCL
  go_wp2_with fail
  go_ret
  exact ⟨⟨b, rfl, HBB.out⟩, HB5.out⟩
end Go.Proofs.YtgeahbmaeaoeeaaGreatDoor
