/- Contracts of the program's weights of places: all of them; the holders of shares. -/
import Derived.Test.YtgeahbmaeaoeeaaGreatDoorPolW
import Derived.Test.YtgeahbmaeaoeeaaGreatDoorArr
import Derived.Laws.MakeOwn
set_option linter.unusedVariables false
set_option linter.unusedSimpArgs false
namespace Go.Proofs.YtgeahbmaeaoeeaaGreatDoor
open Go.RowKit Num Go.Maps

theorem lawI : Keyed Tryz.prog 3 := int_keyed Tryz.underlying3
set_option maxRecDepth 100000 in
set_option maxHeartbeats 1000000 in
theorem p_different (v : Value) (xs : List Int) (S : Nat → Prop) (w : World) (hv : IntsAt w S v xs) (hS : ∀ b, S b → b < w.heap.size) (hl : xs.length ≤ 1000)
    (hxs : ∀ k, k < xs.length → 0 ≤ fOf xs k ∧ fOf xs k < 2147483648) (hA : ∀ i j, i < xs.length → j < xs.length → i ≠ j → fOf xs i ≠ fOf xs j) :
    Calls Tryz.prog 109 #[v] w fun e w' => e = .returned (.bool true) ∧ Below w.heap.size w w' := by
  obtain ⟨A, n, c, rfl, hn, hnc, hc⟩ := hv
  have hmm := @run_makeMap Tryz.prog
  have hn1 : n ≤ 1000 := by omega
  rw [← hn] at hxs hA
  clear hl hn
  have HXS := Lib.hid hxs
  have HA := Lib.hid hA
  clear hxs hA
  go_enter Tryz.func109, Tryz.ntmps109
  go_wp2_with fail
  go_loopw [9] (fun i wr => ∃ (k : Nat) (D : DataW Unit), k ≤ n ∧ i = .int .i64 k ∧ wr.ownsMap Tryz.prog 3 (plainElem Tryz.prog 4) w.heap.size k D ∧ Maps.size D = k ∧ (∀ y, (∀ j, j < k → fOf xs j ≠ y) → Maps.has D (.int .i64 y) = false) ∧ Below w.heap.size w wr)
    (fun i _ => n - (intOf i).toNat)
  case atStart => exact ⟨0, .map [], Nat.zero_le _, rfl, World.ownsMap_made _ _ _ _, rfl, fun y _ => rfl, (Below.refl _ _).alloc (Nat.le_refl _) _⟩
  case round =>
    obtain ⟨k, D, hk, rfl, hown, hsz, hhas, hbl⟩ := hrel
    have HB := Lib.hid hbl
    have HH := Lib.hid hhas
    have HSZ := Lib.hid hsz
    clear hbl hhas hsz
    by_cases hl : k < n
    · obtain ⟨b, off, rfl, hSb, hcell⟩ := hc (by omega)
      have hlt := hS b hSb
      have ck := (HB.out.cell (p := ⟨b, off + k, none⟩) hlt).trans (hcell k hl)
      change wr.cell? ⟨b, off + k, none⟩ = some (.int .i64 (fOf xs k)) at ck
      have bk := HXS.out k hl
      obtain ⟨x, hx⟩ : ∃ x, fOf xs k = x := ⟨_, rfl⟩
      rw [hx] at ck bk
      have HX := Lib.hid hx
      have hnew := HH.out x (fun j hj e => HA.out j k (by omega) hl (by omega) (e.trans hx.symm))
      have HNEW := Lib.hid hnew
      have htd := hown.tidy lawI
      have HTD := Lib.hid htd
      have qk : (k : Int) < (n : Int) := by omega
      clear hx hnew htd hcell
      go_wp2_with (at_mapUpdate; refine wpList_mapUpdate_own _ rfl _ _ _ 192 rfl 3 4 lawI Tryz.underlying192 (plainElem (H := Unit) Tryz.prog 4) w.heap.size k _ rfl hown (by unfold maxLen; omega) _ _ _ rfl rfl (keyOf_int_mk Tryz.underlying3 (WalkArith.wf_i64 (by omega))) _ [] (plainElem_bool Tryz.underlying4 true) ?_)
      intro w1 hown1 hgrow1
      have hs1 : Maps.size (D.put (.int .i64 x) (.lit (.bool true))) = k + 1 := by rw [size_put HTD.out, if_neg (by rw [HNEW.out]; simp), HSZ.out]
      have hh1 : ∀ y, (∀ j, j < k + 1 → fOf xs j ≠ y) → Maps.has (D.put (.int .i64 x) (.lit (.bool true))) (.int .i64 y) = false := fun y hy => by
        rw [has_put_other (fun e => hy k (by omega) (by rw [HX.out]; injection e with _ e; exact e.symm))]
        exact HH.out y fun j hj => hy j (by omega)
      have hb1 := HB.out.grown hgrow1 HB.out.size (fun j hj => by cases hj; exact Nat.le_refl _)
      have HO1 := Lib.hid hown1
      have HS1 := Lib.hid hs1
      have HH1 := Lib.hid hh1
      have HB1 := Lib.hid hb1
      clear hown1 hgrow1 hs1 hh1 hb1 hown
      go_wp2_with fail
      go_roundw
      case measure => simp [intOf]; omega
      case rel => exact ⟨k + 1, _, by omega, by go_num, HO1.out, HS1.out, HH1.out, HB1.out⟩
    · have hkn : k = n := by omega
      subst hkn
      have hsz := HSZ.out
      go_wp2_with (at_len; refine wpList_len_own _ rfl _ 192 rfl 3 4 Tryz.underlying192 _ w.heap.size k _ rfl hown ?_)
      go_wp2_with fail
      go_ret
      exact ⟨ret_bool (by simp), HB.out⟩

set_option maxHeartbeats 400000 in
theorem p_check (v : Value) (xs : List Int) (S : Nat → Prop) (w : World) (hv : IntsAt w S v xs) (hS : ∀ b, S b → b < w.heap.size) (h0 : 0 < xs.length) (hl : xs.length ≤ 1000)
    (hxs : ∀ k, k < xs.length → 0 ≤ fOf xs k ∧ fOf xs k < 2147483648) (hA : ∀ i j, i < xs.length → j < xs.length → i ≠ j → fOf xs i ≠ fOf xs j) :
    Calls Tryz.prog 89 #[v] w fun e w' => e = .returned (.int .i64 0) ∧ Below w.heap.size w w' := by
  obtain ⟨A, n, c, rfl, hn, hnc, hc⟩ := id hv
  have t0 : ((n : Int) == 0) = false := by simp; omega
  have HV := Lib.hid hv
  have HXS := Lib.hid hxs
  have HA := Lib.hid hA
  have hn1 : n ≤ 1000 := by omega
  clear hv hxs hA hc hn
  go_enter Tryz.func89, Tryz.ntmps89
  go_wp2_with fail
  refine (p_different _ xs S _ HV.out hS hl HXS.out HA.out).mono ?_
  rintro e w1 ⟨rfl, hb1⟩
  go_wp2_with fail
  go_ret
  exact ⟨rfl, hb1⟩
/-- The weights of all places. -/
def wts (p : Nat) (xs : List Int) (x : Int) : List Int := (List.range xs.length).map fun i => wt p (fOf xs) xs.length i x
theorem wts_get (p : Nat) (xs : List Int) (x : Int) (i : Nat) (h : i < xs.length) : (wts p xs x).getD i 0 = wt p (fOf xs) xs.length i x := by
  unfold wts; rw [List.getD_eq_getElem?_getD, List.getElem?_map, List.getElem?_range h]; rfl
def IntsPost (xs : List Int) (w : World) (e : Ending) (w' : World) : Prop :=
  ∃ v, e = .returned v ∧ IntsAt w' (fun b => w.heap.size ≤ b ∧ b < w'.heap.size) v xs ∧ Below w.heap.size w w'
def IntsPost2 (xs : List Int) (w : World) (e : Ending) (w' : World) : Prop :=
  ∃ v, e = .returned (.tuple #[v, .int .i64 0]) ∧ IntsAt w' (fun b => w.heap.size ≤ b ∧ b < w'.heap.size) v xs ∧ Below w.heap.size w w'
theorem zeros_get (n i : Nat) (h : i < n) : (madeCells #[Value.int .i64 0] n)[i]? = some (.int .i64 0) := by
  have : (madeCells #[Value.int .i64 0] n).toList[i]? = some (.int .i64 0) := by
    rw [toList_madeCells_one, List.getElem?_replicate, if_pos h]
  rwa [Array.getElem?_toList] at this
/-- A slice of shares, its cells in blocks of S. -/
def ShAt (w : World) (S : Nat → Prop) (v : Value) (L : List Sh) : Prop :=
  ∃ (A : Option Addr) (n c : Nat), v = .slice A n c ∧ n = L.length ∧ n ≤ c ∧ (0 < n → ∃ b off, A = some ⟨b, off, none⟩ ∧ S b ∧
    ∀ k, k < n → ∃ u, w.cell? ⟨b, off + k * 2, none⟩ = some (.int .i64 (shAt L k).1) ∧ w.cell? ⟨b, off + k * 2 + 1, none⟩ = some u ∧ IntsAt w S u (shAt L k).2)
theorem ShAt.keep {w w' : World} {S : Nat → Prop} {v : Value} {L : List Sh} (h : ShAt w S v L) (hk : ∀ b, S b → w'.heap[b]? = w.heap[b]?) : ShAt w' S v L := by
  obtain ⟨A, n, c, h1, h2, h3, h4⟩ := h
  refine ⟨A, n, c, h1, h2, h3, fun hn => ?_⟩
  obtain ⟨b, off, hA, hS, hc⟩ := h4 hn
  refine ⟨b, off, hA, hS, fun k hk' => ?_⟩
  obtain ⟨u, c1, c2, c3⟩ := hc k hk'
  exact ⟨u, (World.cell?_of_block (hk b hS)).trans c1, (World.cell?_of_block (hk b hS)).trans c2, c3.keep hk⟩
theorem ShAt.mono {w : World} {S T : Nat → Prop} {v : Value} {L : List Sh} (h : ShAt w S v L) (hk : ∀ b, S b → T b) : ShAt w T v L := by
  obtain ⟨A, n, c, h1, h2, h3, h4⟩ := h
  refine ⟨A, n, c, h1, h2, h3, fun hn => ?_⟩
  obtain ⟨b, off, hA, hS, hc⟩ := h4 hn
  refine ⟨b, off, hA, hk b hS, fun k hk' => ?_⟩
  obtain ⟨u, c1, c2, c3⟩ := hc k hk'
  exact ⟨u, c1, c2, c3.mono hk⟩
theorem OwnSh.at_ {w : World} {B : Nat} {v : Value} {L : List Sh} (h : OwnSh w B v L) : ShAt w (fun b => B ≤ b ∧ b < w.heap.size) v L := by
  obtain ⟨cells, hr, hk⟩ := h
  rcases hr.2 with ⟨rfl, h0⟩ | ⟨g, cap, cur, rfl, hB, hh, hnc, hm, hs, ht⟩
  · exact ⟨none, 0, 0, rfl, h0.symm, Nat.le_refl _, fun h => by omega⟩
  · refine ⟨_, L.length, cap, rfl, rfl, hnc, fun hn => ⟨g, 0, rfl, ⟨hB, (Array.getElem?_eq_some_iff.1 hh).1⟩, fun k hk' => ?_⟩⟩
    obtain ⟨u, h1, h2, h3⟩ := hk k hk'
    have hc := hr.cells (g := g) rfl
    have ha : ∀ j, (⟨g, 0, none⟩ : Addr).add j = ⟨g, 0 + j, none⟩ := fun j => by unfold Addr.add; split <;> simp_all
    refine ⟨u, ?_, ?_, IntsAt.of_own h3⟩
    · have := hc _ _ h1; rwa [ha, Nat.mul_comm] at this
    · have := hc _ _ h2; rwa [ha, Nat.mul_comm] at this

set_option maxRecDepth 100000 in
set_option maxHeartbeats 1000000 in
theorem s_Holders (v : Value) (L : List Sh) (S : Nat → Prop) (w : World) (hv : ShAt w S v L) (hS : ∀ b, S b → b < w.heap.size) (hl : L.length ≤ 1000) :
    Calls Tryz.prog 67 #[v] w (IntsPost (L.map (·.1)) w) := by
  obtain ⟨A, n, c, rfl, hn, hnc, hc⟩ := hv
  obtain ⟨i0, hi, hz0, hz1, hz2⟩ := info_parts infoI
  have hn1 : n ≤ 1000 := by omega
  have HN := Lib.hid hn
  clear hn hl
  go_enter Tryz.func67, Tryz.ntmps67
  go_wp2_with fail
  go_loopw [3, 8] (fun o t wr => ∃ k : Nat, k ≤ n ∧ t = .int .i64 k ∧ wr.ownsRow w.heap.size 3 1 o k (((L.take k).map (·.1)).map (Value.int .i64)) ∧ Below w.heap.size w wr) (fun _ t _ => n - (intOf t).toNat)
  case atStart => exact ⟨0, by omega, rfl, World.ownsRow_nil _ _ _ _, Below.refl _ _⟩
  case round =>
    obtain ⟨k, hk, rfl, hown, hbl⟩ := hrel
    have hsz := hbl.size
    by_cases hlt : k < n
    · obtain ⟨b, off, rfl, hSb, hcell⟩ := hc (by omega)
      obtain ⟨u, c0, c1, hu⟩ := hcell k hlt
      obtain ⟨Au, nu, cu, rfl, _⟩ := hu
      have hbw := hS b hSb
      have d0 := (hbl.cell (p := ⟨b, off + k * 2, none⟩) hbw).trans c0
      have d1 := (hbl.cell (p := ⟨b, off + k * 2 + 1, none⟩) hbw).trans c1
      have qk : (k : Int) < (n : Int) := by omega
      have HBL := Lib.hid hbl
      obtain ⟨h, hh⟩ : ∃ h, (shAt L k).1 = h := ⟨_, rfl⟩
      rw [hh] at d0
      have hstep : ((L.take (k + 1)).map (·.1)).map (Value.int .i64) = ((L.take k).map (·.1)).map (Value.int .i64) ++ [.int .i64 h] := by
        have hkl : k < L.length := by rw [← HN.out]; exact hlt
        rw [List.take_succ_eq_append_getElem hkl, List.map_append, List.map_append]
        have : shAt L k = L[k] := by unfold shAt; rw [List.getD_eq_getElem?_getD, List.getElem?_eq_getElem hkl]; rfl
        rw [← hh, this]; rfl
      have HST := Lib.hid hstep
      clear hbl hcell c0 c1 hc hh hstep
      go_wp2_with (at_builtin; refine wpList_append_own _ rfl _ _ 22 rfl w.heap.size 3 i0 (.int .i64 0) 1 8 Tryz.underlying22 hi hz0 hz1 hz2 rfl (by decide) _ _ _ rfl ((hown.alloc _).alloc _) ⟨wr.heap.size + 1, 0, none⟩ 1 1 [.int .i64 h] rfl rfl (fun j u hj => by have := cell_one_new (wr.alloc (.cells #[.int .i64 h, .slice Au (shAt L k).2.length cu] 36)) (.int .i64 h) 3 j u hj; simpa using this) (ints_oneCell .i64 [_]) (by unfold maxLen; omega) (by omega) (by simp; omega) ?_)
      intro v' w2 hown' hgrow _
      have hg := grown_past (grown_past hgrow)
      have hown2 : w2.ownsRow w.heap.size 3 1 v' (k + 1) (((L.take (k + 1)).map (·.1)).map (Value.int .i64)) := by rw [HST.out]; simpa using hown'
      have hul : ∀ g, u3.ownBlock = some g → w.heap.size ≤ g := fun g hg => (hown.lt g hg).1
      have hb2 := HBL.out.grown hg hsz hul
      have HO2 := Lib.hid hown2
      have HB2 := Lib.hid hb2
      clear hown' hgrow hg hown2 hul hb2 hown
      go_wp2_with fail
      go_roundw
      case measure => simp [intOf]; omega
      case rel => exact ⟨k + 1, by omega, by go_num, HO2.out, HB2.out⟩
    · have hkn : k = n := by omega
      subst hkn
      go_wp2_with fail
      go_ret
      refine ⟨_, rfl, IntsAt.of_own (n := k) ?_, hbl⟩
      rwa [List.take_of_length_le (by rw [← HN.out]; exact Nat.le_refl _)] at hown
end Go.Proofs.YtgeahbmaeaoeeaaGreatDoor
