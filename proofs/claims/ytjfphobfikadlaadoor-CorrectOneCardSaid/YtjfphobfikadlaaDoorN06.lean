/- Contracts of the program's weights of places: all of them; the holders of shares. Contracts of the kit: plans and elements by the dice. -/
import Derived.Test.YtjfphobfikadlaaDoorN05
import Derived.Test.YtjfphobfikadlaaDoorN03
import Derived.Lib.Builder
import Derived.Lib.UnsafeStr
import Derived.Lib.FrozenHead2
import Derived.Deep.RegionHeld3
import Derived.Laws.MakeOwn
set_option linter.unusedVariables false
set_option linter.unusedSimpArgs false
namespace Go.Proofs.YtjfphobfikadlaaDoor
open Go.RowKit Num Go.Maps

theorem lawI : Keyed Tryd.prog 3 := int_keyed Tryd.underlying3
set_option maxRecDepth 100000 in
set_option maxHeartbeats 1000000 in
theorem p_different (v : Value) (xs : List Int) (S : Nat → Prop) (w : World) (hv : IntsAt w S v xs) (hS : ∀ b, S b → b < w.heap.size) (hl : xs.length ≤ 1000)
    (hxs : ∀ k, k < xs.length → 0 ≤ fOf xs k ∧ fOf xs k < 2147483648) (hA : ∀ i j, i < xs.length → j < xs.length → i ≠ j → fOf xs i ≠ fOf xs j) :
    Calls Tryd.prog 88 #[v] w fun e w' => e = .returned (.bool true) ∧ Below w.heap.size w w' := by
  obtain ⟨A, n, c, rfl, hn, hnc, hc⟩ := hv
  have hmm := @run_makeMap Tryd.prog
  have hn1 : n ≤ 1000 := by omega
  rw [← hn] at hxs hA
  clear hl hn
  have HXS := Lib.hid hxs
  have HA := Lib.hid hA
  clear hxs hA
  go_enter Tryd.func88, Tryd.ntmps88
  go_wp2_with fail
  go_loopw [9] (fun i wr => ∃ (k : Nat) (D : DataW Unit), k ≤ n ∧ i = .int .i64 k ∧ wr.ownsMap Tryd.prog 3 (plainElem Tryd.prog 4) w.heap.size k D ∧ Maps.size D = k ∧ (∀ y, (∀ j, j < k → fOf xs j ≠ y) → Maps.has D (.int .i64 y) = false) ∧ Below w.heap.size w wr)
    (fun i _ => n - (intOf i).toNat)
  case atStart => exact ⟨0, .map [], Nat.zero_le _, rfl, World.ownsMap_made _ _ _ _, rfl, fun y _ => rfl, (Below.refl _ _).alloc (Nat.le_refl _) _⟩
  case round =>
    obtain ⟨k, D, hk, rfl, hown, hsz, hhas, hbl⟩ := hrel
    have HB := Lib.hid hbl
    have HH := Lib.hid hhas
    have HSZ := Lib.hid hsz
    clear hbl hhas hsz
    by_cases hl : k < n
    · obtain ⟨b, off, rfl, hSb, hcell⟩ := hc (by omega)
      have hlt := hS b hSb
      have ck := (HB.out.cell (p := ⟨b, off + k, none⟩) hlt).trans (hcell k hl)
      change wr.cell? ⟨b, off + k, none⟩ = some (.int .i64 (fOf xs k)) at ck
      have bk := HXS.out k hl
      obtain ⟨x, hx⟩ : ∃ x, fOf xs k = x := ⟨_, rfl⟩
      rw [hx] at ck bk
      have HX := Lib.hid hx
      have hnew := HH.out x (fun j hj e => HA.out j k (by omega) hl (by omega) (e.trans hx.symm))
      have HNEW := Lib.hid hnew
      have htd := hown.tidy lawI
      have HTD := Lib.hid htd
      have qk : (k : Int) < (n : Int) := by omega
      clear hx hnew htd hcell
      go_wp2_with (at_mapUpdate; refine wpList_mapUpdate_own _ rfl _ _ _ 63 rfl 3 4 lawI Tryd.underlying63 (plainElem (H := Unit) Tryd.prog 4) w.heap.size k _ rfl hown (by unfold maxLen; omega) _ _ _ rfl rfl (keyOf_int_mk Tryd.underlying3 (WalkArith.wf_i64 (by omega))) _ [] (plainElem_bool Tryd.underlying4 true) ?_)
      intro w1 hown1 hgrow1
      have hs1 : Maps.size (D.put (.int .i64 x) (.lit (.bool true))) = k + 1 := by rw [size_put HTD.out, if_neg (by rw [HNEW.out]; simp), HSZ.out]
      have hh1 : ∀ y, (∀ j, j < k + 1 → fOf xs j ≠ y) → Maps.has (D.put (.int .i64 x) (.lit (.bool true))) (.int .i64 y) = false := fun y hy => by
        rw [has_put_other (fun e => hy k (by omega) (by rw [HX.out]; injection e with _ e; exact e.symm))]
        exact HH.out y fun j hj => hy j (by omega)
      have hb1 := HB.out.grown hgrow1 HB.out.size (fun j hj => by cases hj; exact Nat.le_refl _)
      have HO1 := Lib.hid hown1
      have HS1 := Lib.hid hs1
      have HH1 := Lib.hid hh1
      have HB1 := Lib.hid hb1
      clear hown1 hgrow1 hs1 hh1 hb1 hown
      go_wp2_with fail
      go_roundw
      case measure => simp [intOf]; omega
      case rel => exact ⟨k + 1, _, by omega, by go_num, HO1.out, HS1.out, HH1.out, HB1.out⟩
    · have hkn : k = n := by omega
      subst hkn
      have hsz := HSZ.out
      go_wp2_with (at_len; refine wpList_len_own _ rfl _ 63 rfl 3 4 Tryd.underlying63 _ w.heap.size k _ rfl hown ?_)
      go_wp2_with fail
      go_ret
      exact ⟨ret_bool (by simp), HB.out⟩

set_option maxHeartbeats 400000 in
theorem p_check (v : Value) (xs : List Int) (S : Nat → Prop) (w : World) (hv : IntsAt w S v xs) (hS : ∀ b, S b → b < w.heap.size) (h0 : 0 < xs.length) (hl : xs.length ≤ 1000)
    (hxs : ∀ k, k < xs.length → 0 ≤ fOf xs k ∧ fOf xs k < 2147483648) (hA : ∀ i j, i < xs.length → j < xs.length → i ≠ j → fOf xs i ≠ fOf xs j) :
    Calls Tryd.prog 61 #[v] w fun e w' => e = .returned (.int .i64 0) ∧ Below w.heap.size w w' := by
  obtain ⟨A, n, c, rfl, hn, hnc, hc⟩ := id hv
  have t0 : ((n : Int) == 0) = false := by simp; omega
  have HV := Lib.hid hv
  have HXS := Lib.hid hxs
  have HA := Lib.hid hA
  have hn1 : n ≤ 1000 := by omega
  clear hv hxs hA hc hn
  go_enter Tryd.func61, Tryd.ntmps61
  go_wp2_with fail
  refine (p_different _ xs S _ HV.out hS hl HXS.out HA.out).mono ?_
  rintro e w1 ⟨rfl, hb1⟩
  go_wp2_with fail
  go_ret
  exact ⟨rfl, hb1⟩
/-- The weights of all places. -/
def wts (p : Nat) (xs : List Int) (x : Int) : List Int := (List.range xs.length).map fun i => wt p (fOf xs) xs.length i x
theorem wts_get (p : Nat) (xs : List Int) (x : Int) (i : Nat) (h : i < xs.length) : (wts p xs x).getD i 0 = wt p (fOf xs) xs.length i x := by
  unfold wts; rw [List.getD_eq_getElem?_getD, List.getElem?_map, List.getElem?_range h]; rfl
def IntsPost (xs : List Int) (w : World) (e : Ending) (w' : World) : Prop :=
  ∃ v, e = .returned v ∧ IntsAt w' (fun b => w.heap.size ≤ b ∧ b < w'.heap.size) v xs ∧ Below w.heap.size w w'
def IntsPost2 (xs : List Int) (w : World) (e : Ending) (w' : World) : Prop :=
  ∃ v, e = .returned (.tuple #[v, .int .i64 0]) ∧ IntsAt w' (fun b => w.heap.size ≤ b ∧ b < w'.heap.size) v xs ∧ Below w.heap.size w w'
theorem zeros_get (n i : Nat) (h : i < n) : (madeCells #[Value.int .i64 0] n)[i]? = some (.int .i64 0) := by
  have : (madeCells #[Value.int .i64 0] n).toList[i]? = some (.int .i64 0) := by
    rw [toList_madeCells_one, List.getElem?_replicate, if_pos h]
  rwa [Array.getElem?_toList] at this
/-- A slice of shares, its cells in blocks of S. -/
def ShAt (w : World) (S : Nat → Prop) (v : Value) (L : List Sh) : Prop :=
  ∃ (A : Option Addr) (n c : Nat), v = .slice A n c ∧ n = L.length ∧ n ≤ c ∧ (0 < n → ∃ b off, A = some ⟨b, off, none⟩ ∧ S b ∧
    ∀ k, k < n → ∃ u, w.cell? ⟨b, off + k * 2, none⟩ = some (.int .i64 (shAt L k).1) ∧ w.cell? ⟨b, off + k * 2 + 1, none⟩ = some u ∧ IntsAt w S u (shAt L k).2)
theorem ShAt.keep {w w' : World} {S : Nat → Prop} {v : Value} {L : List Sh} (h : ShAt w S v L) (hk : ∀ b, S b → w'.heap[b]? = w.heap[b]?) : ShAt w' S v L := by
  obtain ⟨A, n, c, h1, h2, h3, h4⟩ := h
  refine ⟨A, n, c, h1, h2, h3, fun hn => ?_⟩
  obtain ⟨b, off, hA, hS, hc⟩ := h4 hn
  refine ⟨b, off, hA, hS, fun k hk' => ?_⟩
  obtain ⟨u, c1, c2, c3⟩ := hc k hk'
  exact ⟨u, (World.cell?_of_block (hk b hS)).trans c1, (World.cell?_of_block (hk b hS)).trans c2, c3.keep hk⟩
theorem ShAt.mono {w : World} {S T : Nat → Prop} {v : Value} {L : List Sh} (h : ShAt w S v L) (hk : ∀ b, S b → T b) : ShAt w T v L := by
  obtain ⟨A, n, c, h1, h2, h3, h4⟩ := h
  refine ⟨A, n, c, h1, h2, h3, fun hn => ?_⟩
  obtain ⟨b, off, hA, hS, hc⟩ := h4 hn
  refine ⟨b, off, hA, hk b hS, fun k hk' => ?_⟩
  obtain ⟨u, c1, c2, c3⟩ := hc k hk'
  exact ⟨u, c1, c2, c3.mono hk⟩
theorem OwnSh.at_ {w : World} {B : Nat} {v : Value} {L : List Sh} (h : OwnSh w B v L) : ShAt w (fun b => B ≤ b ∧ b < w.heap.size) v L := by
  obtain ⟨cells, hr, hk⟩ := h
  rcases hr.2 with ⟨rfl, h0⟩ | ⟨g, cap, cur, rfl, hB, hh, hnc, hm, hs, ht⟩
  · exact ⟨none, 0, 0, rfl, h0.symm, Nat.le_refl _, fun h => by omega⟩
  · refine ⟨_, L.length, cap, rfl, rfl, hnc, fun hn => ⟨g, 0, rfl, ⟨hB, (Array.getElem?_eq_some_iff.1 hh).1⟩, fun k hk' => ?_⟩⟩
    obtain ⟨u, h1, h2, h3⟩ := hk k hk'
    have hc := hr.cells (g := g) rfl
    have ha : ∀ j, (⟨g, 0, none⟩ : Addr).add j = ⟨g, 0 + j, none⟩ := fun j => by unfold Addr.add; split <;> simp_all
    refine ⟨u, ?_, ?_, IntsAt.of_own h3⟩
    · have := hc _ _ h1; rwa [ha, Nat.mul_comm] at this
    · have := hc _ _ h2; rwa [ha, Nat.mul_comm] at this

set_option maxRecDepth 100000 in
set_option maxHeartbeats 1000000 in
theorem s_Holders (v : Value) (L : List Sh) (S : Nat → Prop) (w : World) (hv : ShAt w S v L) (hS : ∀ b, S b → b < w.heap.size) (hl : L.length ≤ 1000) :
    Calls Tryd.prog 30 #[v] w (IntsPost (L.map (·.1)) w) := by
  obtain ⟨A, n, c, rfl, hn, hnc, hc⟩ := hv
  obtain ⟨i0, hi, hz0, hz1, hz2⟩ := info_parts infoI
  have hn1 : n ≤ 1000 := by omega
  have HN := Lib.hid hn
  clear hn hl
  go_enter Tryd.func30, Tryd.ntmps30
  go_wp2_with fail
  go_loopw [3, 8] (fun o t wr => ∃ k : Nat, k ≤ n ∧ t = .int .i64 k ∧ wr.ownsRow w.heap.size 3 1 o k (((L.take k).map (·.1)).map (Value.int .i64)) ∧ Below w.heap.size w wr) (fun _ t _ => n - (intOf t).toNat)
  case atStart => exact ⟨0, by omega, rfl, World.ownsRow_nil _ _ _ _, Below.refl _ _⟩
  case round =>
    obtain ⟨k, hk, rfl, hown, hbl⟩ := hrel
    have hsz := hbl.size
    by_cases hlt : k < n
    · obtain ⟨b, off, rfl, hSb, hcell⟩ := hc (by omega)
      obtain ⟨u, c0, c1, hu⟩ := hcell k hlt
      obtain ⟨Au, nu, cu, rfl, _⟩ := hu
      have hbw := hS b hSb
      have d0 := (hbl.cell (p := ⟨b, off + k * 2, none⟩) hbw).trans c0
      have d1 := (hbl.cell (p := ⟨b, off + k * 2 + 1, none⟩) hbw).trans c1
      have qk : (k : Int) < (n : Int) := by omega
      have HBL := Lib.hid hbl
      obtain ⟨h, hh⟩ : ∃ h, (shAt L k).1 = h := ⟨_, rfl⟩
      rw [hh] at d0
      have hstep : ((L.take (k + 1)).map (·.1)).map (Value.int .i64) = ((L.take k).map (·.1)).map (Value.int .i64) ++ [.int .i64 h] := by
        have hkl : k < L.length := by rw [← HN.out]; exact hlt
        rw [List.take_succ_eq_append_getElem hkl, List.map_append, List.map_append]
        have : shAt L k = L[k] := by unfold shAt; rw [List.getD_eq_getElem?_getD, List.getElem?_eq_getElem hkl]; rfl
        rw [← hh, this]; rfl
      have HST := Lib.hid hstep
      clear hbl hcell c0 c1 hc hh hstep
      go_wp2_with (at_builtin; refine wpList_append_own _ rfl _ _ 22 rfl w.heap.size 3 i0 (.int .i64 0) 1 8 Tryd.underlying22 hi hz0 hz1 hz2 rfl (by decide) _ _ _ rfl ((hown.alloc _).alloc _) ⟨wr.heap.size + 1, 0, none⟩ 1 1 [.int .i64 h] rfl rfl (fun j u hj => by have := cell_one_new (wr.alloc (.cells #[.int .i64 h, .slice Au (shAt L k).2.length cu] 54)) (.int .i64 h) 3 j u hj; simpa using this) (ints_oneCell .i64 [_]) (by unfold maxLen; omega) (by omega) (by simp; omega) ?_)
      intro v' w2 hown' hgrow _
      have hg := grown_past (grown_past hgrow)
      have hown2 : w2.ownsRow w.heap.size 3 1 v' (k + 1) (((L.take (k + 1)).map (·.1)).map (Value.int .i64)) := by rw [HST.out]; simpa using hown'
      have hul : ∀ g, u3.ownBlock = some g → w.heap.size ≤ g := fun g hg => (hown.lt g hg).1
      have hb2 := HBL.out.grown hg hsz hul
      have HO2 := Lib.hid hown2
      have HB2 := Lib.hid hb2
      clear hown' hgrow hg hown2 hul hb2 hown
      go_wp2_with fail
      go_roundw
      case measure => simp [intOf]; omega
      case rel => exact ⟨k + 1, by omega, by go_num, HO2.out, HB2.out⟩
    · have hkn : k = n := by omega
      subst hkn
      go_wp2_with fail
      go_ret
      refine ⟨_, rfl, IntsAt.of_own (n := k) ?_, hbl⟩
      rwa [List.take_of_length_le (by rw [← HN.out]; exact Nat.le_refl _)] at hown
end Go.Proofs.YtjfphobfikadlaaDoor
namespace Go.Proofs.YtjfphobfikadlaaDoor
open Go.RowKit Num

def PlanPost (b p : Nat) (w : World) (e : Ending) (w' : World) : Prop :=
  ∃ need hold : Nat, 1 ≤ need ∧ need ≤ hold ∧ hold ≤ 7 ∧ hold < p ∧ e = .returned (planV p need hold) ∧ Dc w' b ∧ w.grownBy w' (some b)
set_option maxRecDepth 100000 in
set_option maxHeartbeats 1000000 in
theorem k_Plan (b p : Nat) (w : World) (hd : Dc w b) (h1 : 2 ≤ p) (h2 : p ≤ 1073741824) :
    Calls Tryd.prog 10 #[.pointer (some ⟨b, 0, none⟩), .int .i64 (p : Int)] w (PlanPost b p w) := by
  have hlt := hd.lt
  have HD := Lib.hid hd
  have key : ∀ (W : World) (z : Int), Dc W b → z = ((min 7 (p - 1) : Nat) : Int) → Calls Tryd.prog 16 #[.pointer (some ⟨b, 0, none⟩), .int .i64 z] W (NextPost b (min 7 (p - 1)) W) := fun W z h e => by
    rw [e]; exact k_Next b (min 7 (p - 1)) W h (by omega) (by omega)
  clear hd
  go_enter Tryd.func10, Tryd.ntmps10
  go_wp2_with fail
  all_goals
    refine (key _ _ (HD.out.alloc _) (by omega)).mono ?_
    rintro e w1 ⟨r, hr, rfl, hd1, hg1⟩
    have hz1 := hg1.size
    have hb1 : Blk w1 w.heap.size 28 #[.int .i64 0, .int .i64 0, .int .i64 0] := (Blk.new w _ _).grown hg1 (by simp; omega)
    have HD1 := Lib.hid hd1
    have HB1 := Lib.hid hb1
    have HG1 := Lib.hid hg1
    have r1 : r < 7 := by omega
    have r2 : r < p - 1 := by omega
    clear hr hd1 hg1 hb1
    go_wp2_with fail
    have e2 : (1 + (r : Int)) = ((1 + r : Nat) : Int) := by omega
    rw [e2]
    refine (k_Next b (1 + r) _ HD1.out (by omega) (by omega)).mono ?_
    rintro e w2 ⟨s, hs, rfl, hd2, hg2⟩
    have hb2 := HB1.out.grown hg2 (by intro e; injection e with e; have := HB1.out.lt; omega)
    have c0 : w2.cell? ⟨w.heap.size, 0, none⟩ = some (.int .i64 0) := hb2.cell 0
    have c1 : w2.cell? ⟨w.heap.size, 1, none⟩ = some (.int .i64 0) := hb2.cell 1
    have c2 : w2.cell? ⟨w.heap.size, 2, none⟩ = some (.int .i64 0) := hb2.cell 2
    have f0 := hb2.frozen 0
    have f1 := hb2.frozen 1
    have f2 := hb2.frozen 2
    have HB2 := Lib.hid hb2
    have HG2 := Lib.hid hg2
    have HD2 := Lib.hid hd2
    clear hb2 hg2 hd2 e2
    go_wp2_with fail
    have hb3 := ((HB2.out.set_ 0 (.int .i64 (p : Int))).set_ 1 (.int .i64 (1 + (s : Int)))).set_ 2 (.int .i64 (1 + (r : Int)))
    have hg3 : w.grownBy _ (some b) := only_setCell (only_setCell (only_setCell (gb_trans (grown_past HG1.out) HG2.out) (p := ⟨w.heap.size, 0, none⟩) (.inr (Nat.le_refl _)) (.int .i64 (p : Int))) (p := ⟨w.heap.size, 1, none⟩) (.inr (Nat.le_refl _)) (.int .i64 (1 + (s : Int)))) (p := ⟨w.heap.size, 2, none⟩) (.inr (Nat.le_refl _)) (.int .i64 (1 + (r : Int)))
    have hd3 : Dc (((w2.setCell ⟨w.heap.size, 0, none⟩ (.int .i64 (p : Int))).setCell ⟨w.heap.size, 1, none⟩ (.int .i64 (1 + (s : Int)))).setCell ⟨w.heap.size, 2, none⟩ (.int .i64 (1 + (r : Int)))) b :=
      HD2.out.keep fun i hi => ((Below.heap_setCell _ _ _ i (by simp; omega)).trans (Below.heap_setCell _ _ _ i (by simp; omega))).trans (Below.heap_setCell _ _ _ i (by simp; omega))
    generalize ((w2.setCell ⟨w.heap.size, 0, none⟩ (.int .i64 (p : Int))).setCell ⟨w.heap.size, 1, none⟩ (.int .i64 (1 + (s : Int)))).setCell ⟨w.heap.size, 2, none⟩ (.int .i64 (1 + (r : Int))) = w3 at *
    have d0 : w3.cell? ⟨w.heap.size, 0, none⟩ = some (.int .i64 (p : Int)) := hb3.cell 0
    have d1 : w3.cell? ⟨w.heap.size, 1, none⟩ = some (.int .i64 (1 + (s : Int))) := hb3.cell 1
    have d2 : w3.cell? ⟨w.heap.size, 2, none⟩ = some (.int .i64 (1 + (r : Int))) := hb3.cell 2
    refine bodyPost_ret (v := .agg #[.int .i64 (p : Int), .int .i64 (1 + (s : Int)), .int .i64 (1 + (r : Int))]) (by simp [results, Tryd.results10, go_sem, d0, d1, d2]) rfl ⟨1 + s, 1 + r, by omega, by omega, by omega, by omega, ?_, hd3, hg3⟩
    unfold planV
    rw [show ((1 + s : Nat) : Int) = 1 + (s : Int) by omega, show ((1 + r : Nat) : Int) = 1 + (r : Int) by omega]
def ElemPost (b p n : Nat) (w : World) (e : Ending) (w' : World) : Prop :=
  ∃ v xs, e = .returned v ∧ IntsAt w' (fun g => w.heap.size ≤ g ∧ g < w'.heap.size) v xs ∧ xs.length = n ∧ InF p xs ∧ Dc w' b ∧ w.grownBy w' (some b)
theorem InF.snoc {p : Nat} {xs : List Int} {y : Int} (h : InF p xs) (h0 : 0 ≤ y) (h1 : y < p) : InF p (xs ++ [y]) := by
  intro k hk
  rcases Nat.lt_or_ge k xs.length with hl | hl
  · have := h k hl; rwa [List.getD_eq_getElem?_getD, List.getElem?_append_left hl, ← List.getD_eq_getElem?_getD]
  · have hk2 : k = xs.length := by simp at hk; omega
    subst hk2
    rw [List.getD_eq_getElem?_getD, List.getElem?_append_right (Nat.le_refl _)]; simpa using ⟨h0, h1⟩
theorem k_ModE (p : Nat) (x : Int) (w : World) (h1 : 1 ≤ p) (h2 : p ≤ 1073741824) :
    Calls Tryd.prog 28 #[.int .i64 x, .int .i64 (p : Int)] w fun e w' => ∃ y : Int, 0 ≤ y ∧ y < p ∧ e = .returned (.int .i64 y) ∧ w = w' :=
  (k_Mod x p w (by omega) (by omega)).mono fun e w' ⟨he, hw⟩ => ⟨x % p, Int.emod_nonneg _ (by omega), Int.emod_lt_of_pos _ (by omega), he, hw⟩
set_option maxRecDepth 100000 in
set_option maxHeartbeats 1000000 in
theorem k_Elements (b p n : Nat) (w : World) (hd : Dc w b) (h1 : 2 ≤ p) (h2 : p ≤ 1073741824) (hn : n ≤ 100000) :
    Calls Tryd.prog 25 #[.pointer (some ⟨b, 0, none⟩), .int .i64 (p : Int), .int .i64 (n : Int)] w (ElemPost b p n w) := by
  obtain ⟨i0, hi, hz0, hz1, hz2⟩ := info_parts infoI
  have hlt := hd.lt
  have HD := Lib.hid hd
  clear hd
  go_enter Tryd.func25, Tryd.ntmps25
  go_wp2_with fail
  go_loopw [7, 11] (fun o t wr => ∃ (k : Nat) (xs : List Int), k ≤ n ∧ t = .int .i64 k ∧ xs.length = k ∧ InF p xs ∧ wr.ownsRow w.heap.size 3 1 o k (xs.map (Value.int .i64)) ∧ Dc wr b ∧ w.grownBy wr (some b)) (fun _ t _ => n - (intOf t).toNat)
  case atStart => exact ⟨0, [], by omega, rfl, rfl, fun k hk => absurd hk (by simp), World.ownsRow_nil _ _ _ _, HD.out, World.grownBy.refl _ _⟩
  case round =>
    obtain ⟨k, xs, hk, rfl, hxl, hxs, hown, hdr, hgr⟩ := hrel
    have HX := Lib.hid hxs
    have HXL := Lib.hid hxl
    have HOWN := Lib.hid hown
    have HDR := Lib.hid hdr
    have HGR := Lib.hid hgr
    clear hxs hxl hown hdr hgr
    by_cases hl : k < n
    · have qk : (k : Int) < (n : Int) := by omega
      have hN : ∀ W, Dc W b → Calls Tryd.prog 16 #[.pointer (some ⟨b, 0, none⟩), .int .i64 1099511627776] W (NextPost b 1099511627776 W) := fun W h => k_Next b 1099511627776 W h (by omega) (by omega)
      go_wp2_with fail
      refine (hN _ HDR.out).mono ?_
      rintro e w1 ⟨r, hr, rfl, hd1, hg1⟩
      have hblk : u7.ownBlock = none ∨ u7.ownBlock ≠ some b := by
        rcases hv : u7.ownBlock with _ | g
        · exact .inl rfl
        · right; have := (HOWN.out.lt g hv).1; intro e; injection e; omega
      have hown1 := HOWN.out.kept hg1 hblk
      have HO1 := Lib.hid hown1
      have HD1 := Lib.hid hd1
      have HG1 := Lib.hid (gb_trans HGR.out hg1)
      have hs1 := HG1.out.size
      clear hd1 hg1 hN
      have step : ∀ (y : Int), 0 ≤ y → y < p → ((xs ++ [y]).map (Value.int .i64)) = xs.map (Value.int .i64) ++ [.int .i64 y] := fun y _ _ => by rw [List.map_append]; rfl
      have STEP := Lib.hid step
      clear step hown1
      rcases (show (k = 0) ∨ (0 < k ∧ r ≠ 0) ∨ (∃ k', k = k' + 1 ∧ r = 0) by
        rcases Nat.eq_zero_or_pos k with h | h
        · exact .inl h
        · by_cases h0 : r = 0
          · exact .inr (.inr ⟨k - 1, by omega, h0⟩)
          · exact .inr (.inl ⟨h, h0⟩)) with rfl | ⟨hk1, hr0⟩ | ⟨k', rfl, rfl⟩
      · have t1 : decide ((0 : Int) < ((0 : Nat) : Int)) = false := by decide
        go_wp2_with fail
        refine (k_ModE p _ _ (by omega) h2).mono ?_
        rintro e w' ⟨y, y0, y1, rfl, rfl⟩
        go_wp2_with (at_builtin; refine wpList_append_own _ rfl _ _ 22 rfl w.heap.size 3 i0 (.int .i64 0) 1 8 Tryd.underlying22 hi hz0 hz1 hz2 rfl (by decide) _ _ _ rfl (HO1.out.alloc _) ⟨w1.heap.size, 0, none⟩ 1 1 [.int .i64 y] rfl rfl (fun j u hj => by have := cell_one_new w1 (.int .i64 y) 3 j u hj; simpa using this) (ints_oneCell .i64 [_]) (by unfold maxLen; omega) (by omega) (by simp; omega) ?_)
        intro v' w2 hown' hgrow _
        have hg0 := grown_past hgrow
        have hown2 := hown'
        rw [← STEP.out y y0 y1] at hown2
        have hdc2 := HD1.out.keep (w' := w2) fun i hi => hg0.block i (by omega) (fun e => by have := (HO1.out.lt i e.symm).1; omega)
        have hgr2 : w.grownBy w2 (some b) := ⟨hg0.os.trans HG1.out.os, hg0.tape.trans HG1.out.tape, hg0.output.trans HG1.out.output, Nat.le_trans HG1.out.size hg0.size, fun i hi hne => (hg0.block i (by omega) (fun e => by have := (HO1.out.lt i e.symm).1; omega)).trans (HG1.out.block i hi hne)⟩
        have hin := HX.out.snoc y0 y1
        have HO2 := Lib.hid hown2
        have HD2 := Lib.hid hdc2
        have HG2 := Lib.hid hgr2
        have HI2 := Lib.hid hin
        clear hown' hgrow hg0 hown2 hdc2 hgr2 hin
        go_wp2_with fail
        go_roundw
        case measure => simp [intOf]; omega
        case rel => exact ⟨_, xs ++ [y], by omega, by go_num, by rw [List.length_append, HXL.out]; rfl, HI2.out, HO2.out, HD2.out, HG2.out⟩
      · have t1 : decide ((0 : Int) < (k : Int)) = true := decide_eq_true (by omega)
        have t2 : ((r : Int) == 0) = false := by simp; omega
        go_wp2_with fail
        refine (k_ModE p _ _ (by omega) h2).mono ?_
        rintro e w' ⟨y, y0, y1, rfl, rfl⟩
        go_wp2_with (at_builtin; refine wpList_append_own _ rfl _ _ 22 rfl w.heap.size 3 i0 (.int .i64 0) 1 8 Tryd.underlying22 hi hz0 hz1 hz2 rfl (by decide) _ _ _ rfl (HO1.out.alloc _) ⟨w1.heap.size, 0, none⟩ 1 1 [.int .i64 y] rfl rfl (fun j u hj => by have := cell_one_new w1 (.int .i64 y) 3 j u hj; simpa using this) (ints_oneCell .i64 [_]) (by unfold maxLen; omega) (by omega) (by simp; omega) ?_)
        intro v' w2 hown' hgrow _
        have hg0 := grown_past hgrow
        have hown2 := hown'
        rw [← STEP.out y y0 y1] at hown2
        have hdc2 := HD1.out.keep (w' := w2) fun i hi => hg0.block i (by omega) (fun e => by have := (HO1.out.lt i e.symm).1; omega)
        have hgr2 : w.grownBy w2 (some b) := ⟨hg0.os.trans HG1.out.os, hg0.tape.trans HG1.out.tape, hg0.output.trans HG1.out.output, Nat.le_trans HG1.out.size hg0.size, fun i hi hne => (hg0.block i (by omega) (fun e => by have := (HO1.out.lt i e.symm).1; omega)).trans (HG1.out.block i hi hne)⟩
        have hin := HX.out.snoc y0 y1
        have HO2 := Lib.hid hown2
        have HD2 := Lib.hid hdc2
        have HG2 := Lib.hid hgr2
        have HI2 := Lib.hid hin
        clear hown' hgrow hg0 hown2 hdc2 hgr2 hin
        go_wp2_with fail
        go_roundw
        case measure => simp [intOf]; omega
        case rel => exact ⟨_, xs ++ [y], by omega, by go_num, by rw [List.length_append, HXL.out]; rfl, HI2.out, HO2.out, HD2.out, HG2.out⟩
      · obtain ⟨g, cap, hu7, hBg, hlg⟩ := HO1.out.form (by omega)
        subst hu7
        have hlk : k' < xs.length := by have := HXL.out; omega
        have ck := HO1.out.cells (g := g) rfl k' (.int .i64 (xs.getD k' 0)) (by rw [List.getElem?_map, List.getElem?_eq_getElem hlk, List.getD_eq_getElem?_getD, List.getElem?_eq_getElem hlk]; rfl)
        have ha : (⟨g, 0, none⟩ : Addr).add k' = ⟨g, k', none⟩ := by unfold Addr.add; split <;> simp_all
        rw [ha] at ck
        have fb := HX.out k' hlk
        obtain ⟨z, hz⟩ : ∃ z, xs.getD k' 0 = z := ⟨_, rfl⟩
        rw [hz] at ck fb
        clear hz
        have t1 : decide ((0 : Int) < ((k' : Int) + 1)) = true := decide_eq_true (by omega)
        have t3 : decide (((k' : Int)) < ((k' : Int) + 1)) = true := decide_eq_true (by omega)
        go_wp2_with fail
        refine (k_ModE p _ _ (by omega) h2).mono ?_
        rintro e w' ⟨y, y0, y1, rfl, rfl⟩
        go_wp2_with (at_builtin; refine wpList_append_own _ rfl _ _ 22 rfl w.heap.size 3 i0 (.int .i64 0) 1 8 Tryd.underlying22 hi hz0 hz1 hz2 rfl (by decide) _ _ _ rfl (HO1.out.alloc _) ⟨w1.heap.size, 0, none⟩ 1 1 [.int .i64 y] rfl rfl (fun j u hj => by have := cell_one_new w1 (.int .i64 y) 3 j u hj; simpa using this) (ints_oneCell .i64 [_]) (by unfold maxLen; omega) (by omega) (by simp; omega) ?_)
        intro v' w2 hown' hgrow _
        have hg0 := grown_past hgrow
        have hown2 := hown'
        rw [← STEP.out y y0 y1] at hown2
        have hdc2 := HD1.out.keep (w' := w2) fun i hi => hg0.block i (by omega) (fun e => by have := (HO1.out.lt i e.symm).1; omega)
        have hgr2 : w.grownBy w2 (some b) := ⟨hg0.os.trans HG1.out.os, hg0.tape.trans HG1.out.tape, hg0.output.trans HG1.out.output, Nat.le_trans HG1.out.size hg0.size, fun i hi hne => (hg0.block i (by omega) (fun e => by have := (HO1.out.lt i e.symm).1; omega)).trans (HG1.out.block i hi hne)⟩
        have hin := HX.out.snoc y0 y1
        have HO2 := Lib.hid hown2
        have HD2 := Lib.hid hdc2
        have HG2 := Lib.hid hgr2
        have HI2 := Lib.hid hin
        clear hown' hgrow hg0 hown2 hdc2 hgr2 hin
        go_wp2_with fail
        go_roundw
        case measure => simp [intOf]; omega
        case rel => exact ⟨_, xs ++ [y], by omega, by go_num, by rw [List.length_append, HXL.out]; rfl, HI2.out, HO2.out, HD2.out, HG2.out⟩
    · have hkn : k = n := by omega
      subst hkn
      go_wp2_with fail
      go_ret
      exact ⟨_, xs, rfl, IntsAt.of_own (n := k) HOWN.out, HXL.out, HX.out, HDR.out, HGR.out⟩
end Go.Proofs.YtjfphobfikadlaaDoor
