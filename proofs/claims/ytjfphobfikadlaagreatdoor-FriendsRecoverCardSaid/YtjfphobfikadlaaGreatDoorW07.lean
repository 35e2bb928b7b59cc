/- Contracts of the program's weights of places: all of them; the holders of shares. Contracts: copies of slices, short polynomials, linear combinations. -/
import Derived.Test.YtjfphobfikadlaaGreatDoorW04
import Derived.Test.YtjfphobfikadlaaGreatDoorW06
import Derived.Laws.MakeOwn
import Derived.Lib.SliceRun
set_option linter.unusedVariables false
set_option linter.unusedSimpArgs false
namespace Go.Proofs.YtjfphobfikadlaaGreatDoor
open Go.RowKit Num Go.Maps

theorem lawI : Keyed Tryz.prog 3 := int_keyed Tryz.underlying3
set_option maxRecDepth 100000 in
set_option maxHeartbeats 1000000 in
theorem p_different (v : Value) (xs : List Int) (S : Nat → Prop) (w : World) (hv : IntsAt w S v xs) (hS : ∀ b, S b → b < w.heap.size) (hl : xs.length ≤ 1000)
    (hxs : ∀ k, k < xs.length → 0 ≤ fOf xs k ∧ fOf xs k < 2147483648) (hA : ∀ i j, i < xs.length → j < xs.length → i ≠ j → fOf xs i ≠ fOf xs j) :
    Calls Tryz.prog 195 #[v] w fun e w' => e = .returned (.bool true) ∧ Below w.heap.size w w' := by
  obtain ⟨A, n, c, rfl, hn, hnc, hc⟩ := hv
  have hmm := @run_makeMap Tryz.prog
  have hn1 : n ≤ 1000 := by omega
  rw [← hn] at hxs hA
  clear hl hn
  have HXS := Lib.hid hxs
  have HA := Lib.hid hA
  clear hxs hA
  go_enter Tryz.func195, Tryz.ntmps195
  go_wp2_with fail
  go_loopw [9] (fun i wr => ∃ (k : Nat) (D : DataW Unit), k ≤ n ∧ i = .int .i64 k ∧ wr.ownsMap Tryz.prog 3 (plainElem Tryz.prog 4) w.heap.size k D ∧ Maps.size D = k ∧ (∀ y, (∀ j, j < k → fOf xs j ≠ y) → Maps.has D (.int .i64 y) = false) ∧ Below w.heap.size w wr)
    (fun i _ => n - (intOf i).toNat)
  case atStart => exact ⟨0, .map [], Nat.zero_le _, rfl, World.ownsMap_made _ _ _ _, rfl, fun y _ => rfl, (Below.refl _ _).alloc (Nat.le_refl _) _⟩
  case round =>
    obtain ⟨k, D, hk, rfl, hown, hsz, hhas, hbl⟩ := hrel
    have HB := Lib.hid hbl
    have HH := Lib.hid hhas
    have HSZ := Lib.hid hsz
    clear hbl hhas hsz
    by_cases hl : k < n
    · obtain ⟨b, off, rfl, hSb, hcell⟩ := hc (by omega)
      have hlt := hS b hSb
      have ck := (HB.out.cell (p := ⟨b, off + k, none⟩) hlt).trans (hcell k hl)
      change wr.cell? ⟨b, off + k, none⟩ = some (.int .i64 (fOf xs k)) at ck
      have bk := HXS.out k hl
      obtain ⟨x, hx⟩ : ∃ x, fOf xs k = x := ⟨_, rfl⟩
      rw [hx] at ck bk
      have HX := Lib.hid hx
      have hnew := HH.out x (fun j hj e => HA.out j k (by omega) hl (by omega) (e.trans hx.symm))
      have HNEW := Lib.hid hnew
      have htd := hown.tidy lawI
      have HTD := Lib.hid htd
      have qk : (k : Int) < (n : Int) := by omega
      clear hx hnew htd hcell
      go_wp2_with (at_mapUpdate; refine wpList_mapUpdate_own _ rfl _ _ _ 103 rfl 3 4 lawI Tryz.underlying103 (plainElem (H := Unit) Tryz.prog 4) w.heap.size k _ rfl hown (by unfold maxLen; omega) _ _ _ rfl rfl (keyOf_int_mk Tryz.underlying3 (WalkArith.wf_i64 (by omega))) _ [] (plainElem_bool Tryz.underlying4 true) ?_)
      intro w1 hown1 hgrow1
      have hs1 : Maps.size (D.put (.int .i64 x) (.lit (.bool true))) = k + 1 := by rw [size_put HTD.out, if_neg (by rw [HNEW.out]; simp), HSZ.out]
      have hh1 : ∀ y, (∀ j, j < k + 1 → fOf xs j ≠ y) → Maps.has (D.put (.int .i64 x) (.lit (.bool true))) (.int .i64 y) = false := fun y hy => by
        rw [has_put_other (fun e => hy k (by omega) (by rw [HX.out]; injection e with _ e; exact e.symm))]
        exact HH.out y fun j hj => hy j (by omega)
      have hb1 := HB.out.grown hgrow1 HB.out.size (fun j hj => by cases hj; exact Nat.le_refl _)
      have HO1 := Lib.hid hown1
      have HS1 := Lib.hid hs1
      have HH1 := Lib.hid hh1
      have HB1 := Lib.hid hb1
      clear hown1 hgrow1 hs1 hh1 hb1 hown
      go_wp2_with fail
      go_roundw
      case measure => simp [intOf]; omega
      case rel => exact ⟨k + 1, _, by omega, by go_num, HO1.out, HS1.out, HH1.out, HB1.out⟩
    · have hkn : k = n := by omega
      subst hkn
      have hsz := HSZ.out
      go_wp2_with (at_len; refine wpList_len_own _ rfl _ 103 rfl 3 4 Tryz.underlying103 _ w.heap.size k _ rfl hown ?_)
      go_wp2_with fail
      go_ret
      exact ⟨ret_bool (by simp), HB.out⟩

set_option maxHeartbeats 400000 in
theorem p_check (v : Value) (xs : List Int) (S : Nat → Prop) (w : World) (hv : IntsAt w S v xs) (hS : ∀ b, S b → b < w.heap.size) (h0 : 0 < xs.length) (hl : xs.length ≤ 1000)
    (hxs : ∀ k, k < xs.length → 0 ≤ fOf xs k ∧ fOf xs k < 2147483648) (hA : ∀ i j, i < xs.length → j < xs.length → i ≠ j → fOf xs i ≠ fOf xs j) :
    Calls Tryz.prog 160 #[v] w fun e w' => e = .returned (.int .i64 0) ∧ Below w.heap.size w w' := by
  obtain ⟨A, n, c, rfl, hn, hnc, hc⟩ := id hv
  have t0 : ((n : Int) == 0) = false := by simp; omega
  have HV := Lib.hid hv
  have HXS := Lib.hid hxs
  have HA := Lib.hid hA
  have hn1 : n ≤ 1000 := by omega
  clear hv hxs hA hc hn
  go_enter Tryz.func160, Tryz.ntmps160
  go_wp2_with fail
  refine (p_different _ xs S _ HV.out hS hl HXS.out HA.out).mono ?_
  rintro e w1 ⟨rfl, hb1⟩
  go_wp2_with fail
  go_ret
  exact ⟨rfl, hb1⟩
/-- The weights of all places. -/
def wts (p : Nat) (xs : List Int) (x : Int) : List Int := (List.range xs.length).map fun i => wt p (fOf xs) xs.length i x
theorem wts_get (p : Nat) (xs : List Int) (x : Int) (i : Nat) (h : i < xs.length) : (wts p xs x).getD i 0 = wt p (fOf xs) xs.length i x := by
  unfold wts; rw [List.getD_eq_getElem?_getD, List.getElem?_map, List.getElem?_range h]; rfl
def IntsPost (xs : List Int) (w : World) (e : Ending) (w' : World) : Prop :=
  ∃ v, e = .returned v ∧ IntsAt w' (fun b => w.heap.size ≤ b ∧ b < w'.heap.size) v xs ∧ Below w.heap.size w w'
def IntsPost2 (xs : List Int) (w : World) (e : Ending) (w' : World) : Prop :=
  ∃ v, e = .returned (.tuple #[v, .int .i64 0]) ∧ IntsAt w' (fun b => w.heap.size ≤ b ∧ b < w'.heap.size) v xs ∧ Below w.heap.size w w'
theorem zeros_get (n i : Nat) (h : i < n) : (madeCells #[Value.int .i64 0] n)[i]? = some (.int .i64 0) := by
  have : (madeCells #[Value.int .i64 0] n).toList[i]? = some (.int .i64 0) := by
    rw [toList_madeCells_one, List.getElem?_replicate, if_pos h]
  rwa [Array.getElem?_toList] at this
set_option maxRecDepth 100000 in
set_option maxHeartbeats 1000000 in
theorem p_Weights (p : Nat) (v : Value) (xs : List Int) (S : Nat → Prop) (x : Int) (w : World) (hp : Prm p) (h2 : p ≤ 1073741824) (hv : IntsAt w S v xs) (hS : ∀ b, S b → b < w.heap.size) (h0 : 0 < xs.length) (hl : xs.length ≤ 1000)
    (hx0 : 0 ≤ x) (hx1 : x < 2147483648) (hxs : ∀ k, k < xs.length → 0 ≤ fOf xs k ∧ fOf xs k < 2147483648) (hA : ApartN p (fOf xs) xs.length) :
    Calls Tryz.prog 127 #[.int .i64 (p : Int), v, .int .i64 x] w (IntsPost2 (wts p xs x) w) := by
  obtain ⟨A, n, c, rfl, hn, hnc, hc⟩ := id hv
  obtain ⟨i0, hi, hz0, hz1, hz2⟩ := info_parts infoI
  have hn1 : n ≤ 1000 := by omega
  have hn0 : 0 < n := by omega
  have hmk := fun (W : World) => run_make (P := Tryz.prog) W 24 3 i0 (.int .i64 0) Tryz.underlying24 hi hz0 .i64 .i64 n n (by omega) (by omega) (by rw [hz2]; omega) (by omega)
  simp only [Int.toNat_natCast, hz1, Nat.mul_one] at hmk
  have HV := Lib.hid hv
  have HXS := Lib.hid hxs
  have HA := Lib.hid hA
  have HN := Lib.hid hn
  clear hv hxs hA hc hn
  go_enter Tryz.func127, Tryz.ntmps127
  go_wp2_with fail
  refine (p_check _ xs S _ HV.out hS h0 hl HXS.out (fun i j hi hj hne e => HA.out i j hi hj hne (by rw [e, Int.sub_self]; exact Int.dvd_zero _))).mono ?_
  rintro e w1 ⟨rfl, hb1⟩
  go_wp2_with fail
  have hbw := hb1.alloc hb1.size (.cells (madeCells #[Value.int .i64 0] n) 3)
  have hs1 := hb1.size
  have HB1 := Lib.hid hbw
  have HBB := Lib.hid hb1
  clear hbw hb1
  go_loopw [21] (fun t wr => ∃ k : Nat, k ≤ n ∧ t = .int .i64 k ∧ ArrV wr w1.heap.size n (fun j => .int .i64 (if j < k then wt p (fOf xs) n j x else 0)) ∧ Below w.heap.size w wr ∧ w1.heap.size < wr.heap.size) (fun t _ => n - (intOf t).toNat)
  case atStart =>
    refine ⟨0, by omega, rfl, ⟨fun j hj => ?_, fun j hj => World.frozen?_alloc_new _ _ _ _⟩, HB1.out, by simp⟩
    rw [World.cell?_alloc_new]
    exact (zeros_get n j hj).trans (by rw [if_neg (by omega)])
  case round =>
    obtain ⟨k, hk, rfl, harr, hbl, hz⟩ := hrel
    have HARR := Lib.hid harr
    have HBL := Lib.hid hbl
    by_cases hlt : k < n
    · have ck := harr.cell k hlt
      have fk := harr.live k hlt
      have qk : (k : Int) < (n : Int) := by omega
      rw [if_neg (by omega)] at ck
      have hvr : IntsAt wr S (.slice A n c) xs := HV.out.keep fun b hb => hbl.block b (hS b hb)
      have HVR := Lib.hid hvr
      clear harr hbl hvr ck
      go_wp2_with fail
      refine (p_weight p _ xs S k x _ hp h2 HVR.out hl (by rw [← HN.out]; exact hlt) hx0 hx1 HXS.out HA.out).mono ?_
      rintro e w2 ⟨rfl, m, rfl⟩
      have ck := HARR.out.cell k hlt
      rw [if_neg (by omega)] at ck
      rw [← HN.out]
      obtain ⟨y, hy⟩ : ∃ y, wt p (fOf xs) n k x = y := ⟨_, rfl⟩
      rw [hy]
      have HY := Lib.hid hy
      clear hy
      go_wp2_with fail
      go_roundw
      case measure => simp [intOf]; omega
      case rel =>
        refine ⟨k + 1, by omega, by go_num, ?_, ?_, by simpa using hz⟩
        · have h5 : ArrV (wr.drewN m) w1.heap.size n _ := ⟨HARR.out.cell, HARR.out.live⟩
          refine (h5.upd (.int .i64 y) hlt).congr fun j hj => ?_
          unfold updV
          by_cases hjk : j = k
          · subst hjk; rw [if_pos rfl, if_pos (by omega), HY.out]
          · rw [if_neg hjk]
            show Value.int .i64 (if j < k then _ else _) = _
            by_cases hj2 : j < k
            · rw [if_pos hj2, if_pos (by omega)]
            · rw [if_neg hj2, if_neg (by omega)]
        · exact (below_dn HBL.out m).setCell (p := ⟨w1.heap.size, k, none⟩) (by exact hs1) _
    · have hkn : k = n := by omega
      subst hkn
      clear harr hbl
      go_wp2_with fail
      go_ret2
      refine ⟨_, rfl, ⟨_, k, k, rfl, by rw [HN.out]; simp [wts], Nat.le_refl _, fun _ => ⟨w1.heap.size, 0, rfl, ⟨hs1, hz⟩, fun j hj => ?_⟩⟩, HBL.out⟩
      have := HARR.out.cell j hj
      rw [if_pos hj] at this
      rw [Nat.zero_add, this, wts_get p xs x j (by rw [← HN.out]; exact hj), HN.out]

/-- A slice of shares, its cells in blocks of S. -/
def ShAt (w : World) (S : Nat → Prop) (v : Value) (L : List Sh) : Prop :=
  ∃ (A : Option Addr) (n c : Nat), v = .slice A n c ∧ n = L.length ∧ n ≤ c ∧ (0 < n → ∃ b off, A = some ⟨b, off, none⟩ ∧ S b ∧
    ∀ k, k < n → ∃ u, w.cell? ⟨b, off + k * 2, none⟩ = some (.int .i64 (shAt L k).1) ∧ w.cell? ⟨b, off + k * 2 + 1, none⟩ = some u ∧ IntsAt w S u (shAt L k).2)
theorem ShAt.keep {w w' : World} {S : Nat → Prop} {v : Value} {L : List Sh} (h : ShAt w S v L) (hk : ∀ b, S b → w'.heap[b]? = w.heap[b]?) : ShAt w' S v L := by
  obtain ⟨A, n, c, h1, h2, h3, h4⟩ := h
  refine ⟨A, n, c, h1, h2, h3, fun hn => ?_⟩
  obtain ⟨b, off, hA, hS, hc⟩ := h4 hn
  refine ⟨b, off, hA, hS, fun k hk' => ?_⟩
  obtain ⟨u, c1, c2, c3⟩ := hc k hk'
  exact ⟨u, (World.cell?_of_block (hk b hS)).trans c1, (World.cell?_of_block (hk b hS)).trans c2, c3.keep hk⟩
theorem ShAt.mono {w : World} {S T : Nat → Prop} {v : Value} {L : List Sh} (h : ShAt w S v L) (hk : ∀ b, S b → T b) : ShAt w T v L := by
  obtain ⟨A, n, c, h1, h2, h3, h4⟩ := h
  refine ⟨A, n, c, h1, h2, h3, fun hn => ?_⟩
  obtain ⟨b, off, hA, hS, hc⟩ := h4 hn
  refine ⟨b, off, hA, hk b hS, fun k hk' => ?_⟩
  obtain ⟨u, c1, c2, c3⟩ := hc k hk'
  exact ⟨u, c1, c2, c3.mono hk⟩
theorem OwnSh.at_ {w : World} {B : Nat} {v : Value} {L : List Sh} (h : OwnSh w B v L) : ShAt w (fun b => B ≤ b ∧ b < w.heap.size) v L := by
  obtain ⟨cells, hr, hk⟩ := h
  rcases hr.2 with ⟨rfl, h0⟩ | ⟨g, cap, cur, rfl, hB, hh, hnc, hm, hs, ht⟩
  · exact ⟨none, 0, 0, rfl, h0.symm, Nat.le_refl _, fun h => by omega⟩
  · refine ⟨_, L.length, cap, rfl, rfl, hnc, fun hn => ⟨g, 0, rfl, ⟨hB, (Array.getElem?_eq_some_iff.1 hh).1⟩, fun k hk' => ?_⟩⟩
    obtain ⟨u, h1, h2, h3⟩ := hk k hk'
    have hc := hr.cells (g := g) rfl
    have ha : ∀ j, (⟨g, 0, none⟩ : Addr).add j = ⟨g, 0 + j, none⟩ := fun j => by unfold Addr.add; split <;> simp_all
    refine ⟨u, ?_, ?_, IntsAt.of_own h3⟩
    · have := hc _ _ h1; rwa [ha, Nat.mul_comm] at this
    · have := hc _ _ h2; rwa [ha, Nat.mul_comm] at this

set_option maxRecDepth 100000 in
set_option maxHeartbeats 1000000 in
theorem s_Holders (v : Value) (L : List Sh) (S : Nat → Prop) (w : World) (hv : ShAt w S v L) (hS : ∀ b, S b → b < w.heap.size) (hl : L.length ≤ 1000) :
    Calls Tryz.prog 94 #[v] w (IntsPost (L.map (·.1)) w) := by
  obtain ⟨A, n, c, rfl, hn, hnc, hc⟩ := hv
  obtain ⟨i0, hi, hz0, hz1, hz2⟩ := info_parts infoI
  have hn1 : n ≤ 1000 := by omega
  have HN := Lib.hid hn
  clear hn hl
  go_enter Tryz.func94, Tryz.ntmps94
  go_wp2_with fail
  go_loopw [3, 8] (fun o t wr => ∃ k : Nat, k ≤ n ∧ t = .int .i64 k ∧ wr.ownsRow w.heap.size 3 1 o k (((L.take k).map (·.1)).map (Value.int .i64)) ∧ Below w.heap.size w wr) (fun _ t _ => n - (intOf t).toNat)
  case atStart => exact ⟨0, by omega, rfl, World.ownsRow_nil _ _ _ _, Below.refl _ _⟩
  case round =>
    obtain ⟨k, hk, rfl, hown, hbl⟩ := hrel
    have hsz := hbl.size
    by_cases hlt : k < n
    · obtain ⟨b, off, rfl, hSb, hcell⟩ := hc (by omega)
      obtain ⟨u, c0, c1, hu⟩ := hcell k hlt
      obtain ⟨Au, nu, cu, rfl, _⟩ := hu
      have hbw := hS b hSb
      have d0 := (hbl.cell (p := ⟨b, off + k * 2, none⟩) hbw).trans c0
      have d1 := (hbl.cell (p := ⟨b, off + k * 2 + 1, none⟩) hbw).trans c1
      have qk : (k : Int) < (n : Int) := by omega
      have HBL := Lib.hid hbl
      obtain ⟨h, hh⟩ : ∃ h, (shAt L k).1 = h := ⟨_, rfl⟩
      rw [hh] at d0
      have hstep : ((L.take (k + 1)).map (·.1)).map (Value.int .i64) = ((L.take k).map (·.1)).map (Value.int .i64) ++ [.int .i64 h] := by
        have hkl : k < L.length := by rw [← HN.out]; exact hlt
        rw [List.take_succ_eq_append_getElem hkl, List.map_append, List.map_append]
        have : shAt L k = L[k] := by unfold shAt; rw [List.getD_eq_getElem?_getD, List.getElem?_eq_getElem hkl]; rfl
        rw [← hh, this]; rfl
      have HST := Lib.hid hstep
      clear hbl hcell c0 c1 hc hh hstep
      go_wp2_with (at_builtin; refine wpList_append_own _ rfl _ _ 24 rfl w.heap.size 3 i0 (.int .i64 0) 1 8 Tryz.underlying24 hi hz0 hz1 hz2 rfl (by decide) _ _ _ rfl ((hown.alloc _).alloc _) ⟨wr.heap.size + 1, 0, none⟩ 1 1 [.int .i64 h] rfl rfl (fun j u hj => by have := cell_one_new (wr.alloc (.cells #[.int .i64 h, .slice Au (shAt L k).2.length cu] 49)) (.int .i64 h) 3 j u hj; simpa using this) (ints_oneCell .i64 [_]) (by unfold maxLen; omega) (by omega) (by simp; omega) ?_)
      intro v' w2 hown' hgrow _
      have hg := grown_past (grown_past hgrow)
      have hown2 : w2.ownsRow w.heap.size 3 1 v' (k + 1) (((L.take (k + 1)).map (·.1)).map (Value.int .i64)) := by rw [HST.out]; simpa using hown'
      have hul : ∀ g, u3.ownBlock = some g → w.heap.size ≤ g := fun g hg => (hown.lt g hg).1
      have hb2 := HBL.out.grown hg hsz hul
      have HO2 := Lib.hid hown2
      have HB2 := Lib.hid hb2
      clear hown' hgrow hg hown2 hul hb2 hown
      go_wp2_with fail
      go_roundw
      case measure => simp [intOf]; omega
      case rel => exact ⟨k + 1, by omega, by go_num, HO2.out, HB2.out⟩
    · have hkn : k = n := by omega
      subst hkn
      go_wp2_with fail
      go_ret
      refine ⟨_, rfl, IntsAt.of_own (n := k) ?_, hbl⟩
      rwa [List.take_of_length_le (by rw [← HN.out]; exact Nat.le_refl _)] at hown
end Go.Proofs.YtjfphobfikadlaaGreatDoor
namespace Go.Proofs.YtjfphobfikadlaaGreatDoor
open Go.RowKit Num

/-- A row of numbers of the call's own. -/
def OwnI (w : World) (B : Nat) (v : Value) (L : List Int) : Prop := w.ownsRow B 3 1 v L.length (L.map (Value.int .i64))
section
variable {w w' : World} {B B' : Nat} {v : Value} {L : List Int}
theorem OwnI.ints (h : OwnI w B v L) : IntsAt w (fun b => B ≤ b ∧ b < w.heap.size) v L := IntsAt.of_own h
theorem OwnI.mono (h : OwnI w B v L) (hB : B' ≤ B) : OwnI w B' v L := own_mono h hB
theorem OwnI.kept {row : Option Nat} (h : OwnI w B v L) (hg : w.grownBy w' row) (hv : v.ownBlock = none ∨ v.ownBlock ≠ row) : OwnI w' B v L := World.ownsRow.kept h hg hv
theorem OwnI.below (h : OwnI w B v L) (hb : Below w.heap.size w w') : OwnI w' B v L := h.kept (only_of_below hb none) (by cases v.ownBlock <;> simp)
theorem OwnI.alloc (h : OwnI w B v L) (o : Obj) : OwnI (w.alloc o) B v L := World.ownsRow.alloc h o
theorem OwnI.made (w : World) (n : Nat) (hB : B ≤ w.heap.size) (hn : n ≤ 1000000) : OwnI (w.alloc (.cells (madeCells #[Value.int .i64 0] n) 3)) B (.slice (some ⟨w.heap.size, 0, none⟩) n n) (List.replicate n 0) := by
  have h := World.ownsRow_lit (base := B) (e := 3) (size := 1) w (madeCells #[Value.int .i64 0] n) n hB (by simp only [maxLen]; omega) (by rw [← Array.length_toList, toList_madeCells_one]; simp)
  unfold OwnI
  rw [List.length_replicate, List.map_replicate]
  rwa [toList_madeCells_one] at h
theorem OwnI.nil (w : World) (B : Nat) : OwnI w B (.slice none 0 0) [] := World.ownsRow_nil _ _ _ _
variable {g n cap : Nat}
theorem OwnI.len (h : OwnI w B (.slice (some ⟨g, 0, none⟩) n cap) L) : n = L.length := by
  rcases h.2 with ⟨h', _⟩ | ⟨g', cap', cur, h', _⟩
  · cases h'
  · injection h'
theorem OwnI.cell (h : OwnI w B (.slice (some ⟨g, 0, none⟩) n cap) L) (j : Nat) (hj : j < L.length) : w.cell? ⟨g, j, none⟩ = some (.int .i64 (L.getD j 0)) := by
  have hn := h.len
  subst hn
  have := World.ownsRow.cellAt h j (by omega)
  rw [this, List.getElem?_map, List.getElem?_eq_getElem hj, List.getD_eq_getElem?_getD, List.getElem?_eq_getElem hj]; rfl
theorem OwnI.frozen (h : OwnI w B (.slice (some ⟨g, 0, none⟩) n cap) L) (j : Nat) : w.frozen? ⟨g, j, none⟩ = false := by
  have hn := h.len
  subst hn
  exact World.ownsRow.frozenAt h j
theorem OwnI.lt (h : OwnI w B (.slice (some ⟨g, 0, none⟩) n cap) L) : B ≤ g ∧ g < w.heap.size := World.ownsRow.lt h g rfl
theorem OwnI.room (h : OwnI w B (.slice (some ⟨g, 0, none⟩) n cap) L) : n ≤ cap := by
  rcases h.2 with ⟨h', _⟩ | ⟨g', cap', cur, h', _, _, hnc, _⟩
  · cases h'
  · injection h' with _ h2 h3; omega
theorem OwnI.set (h : OwnI w B (.slice (some ⟨g, 0, none⟩) n cap) L) (j : Nat) (y : Int) : OwnI (w.setCell ⟨g, j, none⟩ (.int .i64 y)) B (.slice (some ⟨g, 0, none⟩) n cap) (L.set j y) := by
  have hn := h.len
  subst hn
  have := (World.ownsRow.stored h j (.int .i64 y)).1
  unfold OwnI
  rw [List.length_set, List.map_set]
  exact this
theorem OwnI.form (h : OwnI w B v L) : (v = .slice none 0 0 ∧ L = []) ∨ ∃ g cap, v = .slice (some ⟨g, 0, none⟩) L.length cap ∧ L.length ≤ cap := by
  rcases h.2 with ⟨h1, h2⟩ | ⟨g, cap, cur, h1, _, _, h2, _⟩
  · exact .inl ⟨h1, List.eq_nil_of_length_eq_zero h2⟩
  · exact .inr ⟨g, cap, h1, h2⟩
end
def OwnPost (L : List Int) (w : World) (e : Ending) (w' : World) : Prop := ∃ v, e = .returned v ∧ OwnI w' w.heap.size v L ∧ Below w.heap.size w w'

/-- The first numbers of a slice. -/
theorem IntsAt.take {w : World} {S : Nat → Prop} {A : Option Addr} {n c : Nat} {xs : List Int} (h : IntsAt w S (.slice A n c) xs) (m : Nat) (hm : m ≤ xs.length) : IntsAt w S (.slice A m c) (xs.take m) := by
  obtain ⟨A', n', c', hv, h2, h3, h4⟩ := h
  injection hv with e1 e2 e3
  subst e1 e2 e3
  refine ⟨_, m, _, rfl, by rw [List.length_take]; omega, by omega, fun hm' => ?_⟩
  obtain ⟨b, off, hA, hS, hc⟩ := h4 (by omega)
  refine ⟨b, off, hA, hS, fun k hk => ?_⟩
  rw [hc k (by omega), List.getD_eq_getElem?_getD, List.getD_eq_getElem?_getD, List.getElem?_take, if_pos hk]

set_option maxRecDepth 100000 in
set_option maxHeartbeats 1000000 in
theorem s_Clone (v : Value) (xs : List Int) (S : Nat → Prop) (w : World) (hv : IntsAt w S v xs) (hS : ∀ b, S b → b < w.heap.size) (hl : xs.length ≤ 1000000) :
    Calls Tryz.prog 148 #[v] w (OwnPost xs w) := by
  obtain ⟨i0, hi, hz0, hz1, hz2⟩ := info_parts infoI
  obtain ⟨A, n, c, rfl, hn, hnc, hc⟩ := id hv
  have hrd := hv.reads (B := w.heap.size) hS
  have HRD := Lib.hid hrd
  have HN := Lib.hid hn
  have hn1 : n ≤ 1000000 := by omega
  clear hv hrd hn
  have q22 := fun (W : World) => Lib.run_eql_slice_nil (P := Tryz.prog) W 24 3 A n c 0 0 Tryz.underlying24
  cases A with
  | none =>
    have hn0 : n = 0 := by
      rcases Nat.eq_zero_or_pos n with h | h
      · exact h
      · obtain ⟨b, off, hA, _⟩ := hc h; cases hA
    subst hn0
    clear hc
    go_enter Tryz.func148, Tryz.ntmps148
    go_wp2_with fail
    go_ret
    have hx : xs = [] := List.eq_nil_of_length_eq_zero HN.out.symm
    subst hx
    exact ⟨_, rfl, OwnI.nil _ _, Below.refl _ _⟩
  | some ad =>
    clear hc
    go_enter Tryz.func148, Tryz.ntmps148
    go_wp2_with (at_builtin; refine wpList_append_any _ rfl _ _ 24 rfl w.heap.size 3 i0 (.int .i64 0) 1 8 Tryz.underlying24 hi hz0 hz1 hz2 rfl (by decide) (.slice (some ⟨w.heap.size, 0, none⟩) 0 0) 0 [] rfl (World.ownsRow_lit w #[] 0 (Nat.le_refl _) (by simp only [maxLen]; omega) rfl) w.heap.size (some ad) n c (xs.map (Value.int .i64)) rfl (HRD.out.alloc (Nat.le_refl _) _) (ints_oneCell .i64 _) (by simp only [maxLen]; omega) (by omega) (by simp) ?_)
    intro v' w3 hown' hgrow hloc
    go_wp2_with fail
    go_ret
    refine ⟨_, rfl, ?_, ?_⟩
    · unfold OwnI
      rw [← HN.out]
      exact hown'
    · have hg0 : w.grownBy w3 (some w.heap.size) := ⟨hgrow.os, hgrow.tape, hgrow.output, Nat.le_trans (by simp) hgrow.size, fun i hi hn => (hgrow.block i (by simp; omega) (by simpa [Value.ownBlock] using hn)).trans (Below.heap_alloc w _ i hi)⟩
      exact (Below.refl w.heap.size w).grown hg0 (Nat.le_refl _) (fun g hg => by injection hg with hg; omega)

set_option maxRecDepth 100000 in
set_option maxHeartbeats 1000000 in
theorem p_short (v : Value) (zs : List Int) (S : Nat → Prop) (w : World) (hv : IntsAt w S v zs) (hS : ∀ b, S b → b < w.heap.size) (hl : zs.length ≤ 1000000) :
    Calls Tryz.prog 169 #[v] w (OwnPost (trim zs) w) := by
  obtain ⟨i0, hi, hz0, hz1, hz2⟩ := info_parts infoI
  obtain ⟨A, n, c, rfl, hn, hnc, hc⟩ := id hv
  have hle := degN_le zs
  have hdn : degN zs ≤ n := by omega
  have hsl := fun (W : World) => run_slice_hi (P := Tryz.prog) W 24 3 i0 Tryz.underlying24 hi A n c (degN zs) (by omega) ((degN zs : Int) - 1 + 1) (by omega)
  have HV := Lib.hid hv
  have HD := fun W' hb => p_Degree (.slice A n c) zs S W' hb
  clear hv hc hn hle
  have hd := p_Degree (.slice A n c) zs S w HV.out hS hl
  have hcl : ∀ W', Below w.heap.size w W' → Calls Tryz.prog 148 #[.slice A (degN zs) c] W' (OwnPost (trim zs) W') := fun W' hb =>
    s_Clone _ (trim zs) S W' (((HV.out.keep fun b hbS => hb.block b (hS b hbS))).take (degN zs) (degN_le zs)) (fun b hbS => by have := hS b hbS; have := hb.size; omega) (by rw [trim_len]; have := degN_le zs; omega)
  have HCL := Lib.hid hcl
  have HDD := Lib.hid hd
  clear HD hd hcl
  have hd1 : degN zs ≤ 1000000 := by have := degN_le zs; omega
  generalize degN zs = d at *
  go_enter Tryz.func169, Tryz.ntmps169
  go_wp2_with fail
  refine HDD.out.mono ?_
  rintro e w1 ⟨rfl, hb1⟩
  go_wp2_with fail
  refine (HCL.out _ hb1).mono ?_
  rintro e w2 ⟨v2, rfl, ho2, hb2⟩
  have h1c := own_one ho2
  go_wp2_with fail
  go_ret
  exact ⟨_, rfl, ho2.mono hb1.size, hb1.trans (hb2.mono hb1.size)⟩

theorem f_at (v : Value) (xs : List Int) (S : Nat → Prop) (i : Nat) (w : World) (hv : IntsAt w S v xs) (hl : xs.length ≤ 1000000) :
    Calls Tryz.prog 197 #[v, .int .i64 (i : Int)] w fun e w' => e = .returned (.int .i64 (xs.getD i 0)) ∧ w = w' := by
  obtain ⟨A, n, c, rfl, hn, hnc, hc⟩ := hv
  by_cases h : i < n
  · have t0 : decide ((n : Int) ≤ (i : Int)) = false := decide_eq_false (by omega)
    obtain ⟨b, off, rfl, hS, hcell⟩ := hc (by omega)
    have ck := hcell i h
    obtain ⟨y, hy⟩ : ∃ y, xs.getD i 0 = y := ⟨_, rfl⟩
    rw [hy] at ck ⊢
    have q1 : (i : Int) < (n : Int) := by omega
    clear hcell hn hy hc
    go_enter Tryz.func197, Tryz.ntmps197
    go_wp2_with fail
    go_ret
    exact ⟨rfl, rfl⟩
  · have t0 : decide ((n : Int) ≤ (i : Int)) = true := decide_eq_true (by omega)
    have hy : xs.getD i 0 = 0 := getD_none xs i (by omega)
    rw [hy]
    clear hc hn hy
    go_enter Tryz.func197, Tryz.ntmps197
    go_wp2_with fail
    go_ret
    exact ⟨rfl, rfl⟩

/-- A linear combination. -/
def linC (p c : Int) (a b : List Int) (i : Nat) : Int := (a.getD i 0 + c * b.getD i 0 % p) % p
def linL (p c : Int) (a b : List Int) : List Int := (List.range (max a.length b.length)).map (linC p c a b)
theorem linL_len (p c : Int) (a b : List Int) : (linL p c a b).length = max a.length b.length := by simp [linL]
theorem linL_get (p c : Int) (a b : List Int) (i : Nat) (h : i < max a.length b.length) : (linL p c a b).getD i 0 = linC p c a b i := by
  unfold linL; rw [List.getD_eq_getElem?_getD, List.getElem?_map, List.getElem?_range h]; rfl
theorem linC_bd (p : Nat) (c : Int) (a b : List Int) (i : Nat) (hp : 1 ≤ p) : 0 ≤ linC p c a b i ∧ linC p c a b i < p := ⟨Int.emod_nonneg _ (by omega), Int.emod_lt_of_pos _ (by omega)⟩
theorem linC_cg (p c : Int) (a b : List Int) (i : Nat) : Cg p (linC p c a b i) (a.getD i 0 + c * b.getD i 0) := Cg.of_emod ((Cg.refl p _).add (Cg.emod p _))
theorem linL_cg (p c : Int) (a b : List Int) (i : Nat) : Cg p ((linL p c a b).getD i 0) (a.getD i 0 + c * b.getD i 0) := by
  rcases Nat.lt_or_ge i (max a.length b.length) with h | h
  · rw [linL_get _ _ _ _ _ h]; exact linC_cg p c a b i
  · rw [getD_none _ i (by rw [linL_len]; exact h), getD_none a i (by omega), getD_none b i (by omega)]; simp [Cg]
theorem linL_bd (p : Nat) (c : Int) (a b : List Int) (hp : 1 ≤ p) : ∀ x ∈ linL p c a b, 0 ≤ x ∧ x < (p : Int) := fun x hx => by
  obtain ⟨i, _, rfl⟩ := List.mem_map.1 hx
  exact linC_bd p c a b i hp
theorem InF.of_mem {p : Nat} {l : List Int} (h : ∀ x ∈ l, 0 ≤ x ∧ x < (p : Int)) : InF p l := fun k hk => h _ (getD_mem (d := 0) hk)
theorem InF.mem {p : Nat} {l : List Int} (h : InF p l) : ∀ x ∈ l, 0 ≤ x ∧ x < (p : Int) := fun x hx => by
  obtain ⟨i, hi, rfl⟩ := mem_getD (d := 0) hx
  exact h i hi
theorem InF.get {p : Nat} {l : List Int} (h : InF p l) (hp : 1 ≤ p) (i : Nat) : 0 ≤ l.getD i 0 ∧ l.getD i 0 < (p : Int) := by
  rcases Nat.lt_or_ge i l.length with h1 | h1
  · exact h i h1
  · rw [getD_none l i h1]; exact ⟨Int.le_refl 0, by omega⟩
/-- The first k numbers of a row, zeros behind them. -/
def fillZ (f : Nat → Int) (n k : Nat) : List Int := (List.range n).map fun i => if i < k then f i else 0
theorem fillZ_len (f : Nat → Int) (n k : Nat) : (fillZ f n k).length = n := by simp [fillZ]
theorem fillZ_get (f : Nat → Int) (n k i : Nat) (h : i < n) : (fillZ f n k).getD i 0 = if i < k then f i else 0 := by
  unfold fillZ; rw [List.getD_eq_getElem?_getD, List.getElem?_map, List.getElem?_range h]; rfl
theorem fillZ_zero (f : Nat → Int) (n : Nat) : fillZ f n 0 = List.replicate n 0 := by
  apply List.ext_getElem (by simp [fillZ])
  intro i h1 h2
  simp [fillZ]
theorem fillZ_all (f : Nat → Int) (n : Nat) : fillZ f n n = (List.range n).map f := by
  unfold fillZ
  apply List.map_congr_left
  intro i hi
  rw [if_pos (List.mem_range.1 hi)]
theorem getD_eq_of' {xs ys : List Int} (hl : xs.length = ys.length) (h : ∀ q, q < xs.length → xs.getD q 0 = ys.getD q 0) : xs = ys := by
  apply List.ext_getElem hl
  intro i h1 h2
  have := h i h1
  rwa [List.getD_eq_getElem?_getD, List.getD_eq_getElem?_getD, List.getElem?_eq_getElem h1, List.getElem?_eq_getElem h2] at this
theorem getD_set (l : List Int) (k i : Nat) (y : Int) (hk : k < l.length) : (l.set k y).getD i 0 = if i = k then y else l.getD i 0 := by
  rw [List.getD_eq_getElem?_getD, List.getD_eq_getElem?_getD, List.getElem?_set]
  by_cases h : k = i
  · subst h; rw [if_pos rfl, if_pos hk, if_pos rfl]; rfl
  · rw [if_neg h, if_neg (fun e => h e.symm)]
theorem fillZ_set (f : Nat → Int) (n k : Nat) (hk : k < n) : (fillZ f n k).set k (f k) = fillZ f n (k + 1) := by
  apply getD_eq_of' (by rw [List.length_set, fillZ_len, fillZ_len])
  intro i hi
  rw [List.length_set, fillZ_len] at hi
  rw [getD_set _ _ _ _ (by rw [fillZ_len]; exact hk), fillZ_get _ _ _ _ hi, fillZ_get _ _ _ _ hi]
  by_cases h : i = k
  · subst h; rw [if_pos rfl, if_pos (Nat.lt_succ_self i)]
  · rw [if_neg h]
    by_cases h2 : i < k
    · rw [if_pos h2, if_pos (by omega)]
    · rw [if_neg h2, if_neg (by omega)]

set_option maxRecDepth 100000 in
set_option maxHeartbeats 1000000 in
theorem f_Linear (p : Nat) (va vb : Value) (a b : List Int) (c : Int) (S T : Nat → Prop) (w : World) (hp1 : 1 ≤ p) (h2 : p ≤ 1073741824) (hc0 : 0 ≤ c) (hc1 : c < 2147483648)
    (ha : IntsAt w S va a) (hS : ∀ b, S b → b < w.heap.size) (hb : IntsAt w T vb b) (hT : ∀ b, T b → b < w.heap.size) (la : a.length ≤ 100000) (lb : b.length ≤ 100000) (fa : InF p a) (fb : InF p b) :
    Calls Tryz.prog 166 #[.int .i64 (p : Int), va, vb, .int .i64 c] w (OwnPost (linL p c a b) w) := by
  obtain ⟨i0, hi, hz0, hz1, hz2⟩ := info_parts infoI
  obtain ⟨A, n, ca, rfl, hn, hnc, hcc⟩ := id ha
  obtain ⟨B, m, cb, rfl, hm, hmc, hcd⟩ := id hb
  have hn1 : n ≤ 100000 := by omega
  have hm1 : m ≤ 100000 := by omega
  have HA := Lib.hid ha
  have HB := Lib.hid hb
  have HL : Hid (max a.length b.length = max n m) := Lib.hid (by omega)
  have key : ∀ M : Nat, (n < m ∧ M = m ∨ ¬ n < m ∧ M = n) → max a.length b.length = M → Calls Tryz.prog 166 #[.int .i64 (p : Int), .slice A n ca, .slice B m cb, .int .i64 c] w (OwnPost (linL p c a b) w) := by
    intro M hM hlen
    have hM1 : M ≤ 100000 := by omega
    have HLM := Lib.hid hlen
    have hmk := fun (W : World) => run_make (P := Tryz.prog) W 24 3 i0 (.int .i64 0) Tryz.underlying24 hi hz0 .i64 .i64 M M (by omega) (by omega) (by rw [hz2]; omega) (by omega)
    simp only [Int.toNat_natCast, hz1, Nat.mul_one] at hmk
    have hown := OwnI.made (B := w.heap.size) w M (Nat.le_refl _) (by omega)
    rw [← fillZ_zero (linC p c a b)] at hown
    have HOWN := Lib.hid hown
    clear hown ha hb hcc hcd hn hm hlen HL
    have hnm : n ≤ 100000 ∧ m ≤ 100000 := ⟨hn1, hm1⟩
    have hmx0 : max (n : Int) (m : Int) = (M : Int) := by omega
    rcases hM with ⟨hM, rfl⟩ | ⟨hM, rfl⟩
    all_goals
      go_enter Tryz.func166, Tryz.ntmps166
      go_wp2_with fail
      clear hM hmx0
      go_loopw [19] (fun t wr => ∃ k : Nat, k ≤ M ∧ t = .int .i64 k ∧ OwnI wr w.heap.size (.slice (some ⟨w.heap.size, 0, none⟩) M M) (fillZ (linC p c a b) M k) ∧ Below w.heap.size w wr) (fun t _ => M - (intOf t).toNat)
      case atStart => exact ⟨0, by omega, rfl, HOWN.out, (Below.refl _ _).alloc (Nat.le_refl _) _⟩
      case round =>
        obtain ⟨k, hk, rfl, ho, hbl⟩ := hrel
        have HO := Lib.hid ho
        have HBL := Lib.hid hbl
        by_cases hlt : k < M
        · have va0 := fa.get hp1 k
          have vb0 := fb.get hp1 k
          have hfz := ho.frozen k
          have hck := ho.cell k (by rw [fillZ_len]; exact hlt)
          have hst := fun y => ho.set k y
          have HST := Lib.hid hst
          have hat1 := f_at (.slice A _ ca) a S k wr (HA.out.keep fun g hg => hbl.block g (hS g hg)) (by omega)
          have hat2 := f_at (.slice B _ cb) b T k wr (HB.out.keep fun g hg => hbl.block g (hT g hg)) (by omega)
          have hfin := fillZ_set (linC p c a b) M k hlt
          rw [show linC p c a b k = (a.getD k 0 + c * b.getD k 0 % p) % p from rfl] at hfin
          generalize a.getD k 0 = x at *
          generalize b.getD k 0 = y at *
          have HFIN := Lib.hid hfin
          have HAT1 := Lib.hid hat1
          have HAT2 := Lib.hid hat2
          have qk : (k : Int) < (M : Int) := by omega
          have qk0 : (0 : Int) ≤ (k : Int) := by omega
          have m0 := Int.emod_nonneg (c * y) (show (p : Int) ≠ 0 by omega)
          have m1 := Int.emod_lt_of_pos (c * y) (show (0 : Int) < p by omega)
          clear ho hbl hst hfin hat1 hat2
          go_wp2_with fail
          refine HAT1.out.mono ?_
          rintro e w' ⟨rfl, rfl⟩
          go_wp2_with fail
          refine HAT2.out.mono ?_
          rintro e w' ⟨rfl, rfl⟩
          go_wp2_with fail
          refine (f_MulZ p c y _ hp1 (by omega) hc0 hc1 (by omega) (by omega)).mono ?_
          rintro e w' ⟨rfl, rfl⟩
          generalize c * y % (p : Int) = z at *
          go_wp2_with fail
          refine (f_AddI p x z _ hp1 (by omega) (by omega) (by omega) (by omega) (by omega)).mono ?_
          rintro e w' ⟨rfl, rfl⟩
          generalize (x + z) % (p : Int) = r at *
          go_wp2_with fail
          go_roundw
          case measure => simp [intOf]; omega
          case rel => exact ⟨k + 1, by omega, by go_num, by rw [← HFIN.out]; exact HST.out r, HBL.out.setCell (p := ⟨w.heap.size, k, none⟩) (Nat.le_refl _) _⟩
        · have hkM : k = M := by omega
          subst hkM
          clear ho hbl
          go_wp2_with fail
          go_ret
          refine ⟨_, rfl, ?_, HBL.out⟩
          have := HO.out
          rw [fillZ_all] at this
          unfold linL
          rw [HLM.out]
          exact this
  by_cases h : n < m
  · exact key m (.inl ⟨h, rfl⟩) (by rw [HL.out]; omega)
  · exact key n (.inr ⟨h, rfl⟩) (by rw [HL.out]; omega)
end Go.Proofs.YtjfphobfikadlaaGreatDoor
