/- Contracts of the program's weights of places: all of them; the holders of shares. Words for memory: what is seen of entries. Contracts: whether a number stands in a list; whether numbers differ (at any numbers). -/
import Derived.Test.YtgeahbmaeaoeeaaGreatDoorQ34
import Derived.Test.YtgeahbmaeaoeeaaGreatDoorQ08
import Derived.Laws.MakeOwn
import Derived.Test.YtgeahbmaeaoeeaaGreatDoorQ02
import Derived.RangeFuncNested
import Derived.RangeFuncBound
import Derived.RangeFuncCalls
import Derived.RangeFuncLeaves
import Derived.RangeFuncWrites
import Derived.RangeFuncBox
import Derived.Shelf.Abstract
import Derived.Shelf.RegionOpen
import Derived.WalkKit
import Derived.OwnWalkIn
import Derived.TacticsInMore
import Derived.LoopNIn
import Derived.LoopIn
import Derived.Test.YtgeahbmaeaoeeaaGreatDoorQ01
import Derived.Deep.RegionHeld3
import Derived.OrdersIn
import Derived.TacticsIn
import Derived.Lib.SliceRun
import Derived.BigRegion
set_option linter.unusedVariables false
set_option linter.unusedSimpArgs false
namespace Go.Proofs.YtgeahbmaeaoeeaaGreatDoor
open Go.RowKit Num Go.Maps

theorem lawI : Keyed Tryz.prog 3 := int_keyed Tryz.underlying3
set_option maxRecDepth 100000 in
set_option maxHeartbeats 1000000 in
theorem p_different (v : Value) (xs : List Int) (S : Nat → Prop) (w : World) (hv : IntsAt w S v xs) (hS : ∀ b, S b → b < w.heap.size) (hl : xs.length ≤ 1000)
    (hxs : ∀ k, k < xs.length → 0 ≤ fOf xs k ∧ fOf xs k < 2147483648) (hA : ∀ i j, i < xs.length → j < xs.length → i ≠ j → fOf xs i ≠ fOf xs j) :
    Calls Tryz.prog 109 #[v] w fun e w' => e = .returned (.bool true) ∧ Below w.heap.size w w' := by
  obtain ⟨A, n, c, rfl, hn, hnc, hc⟩ := hv
  have hmm := @run_makeMap Tryz.prog
  have hn1 : n ≤ 1000 := by omega
  rw [← hn] at hxs hA
  clear hl hn
  have HXS := Lib.hid hxs
  have HA := Lib.hid hA
  clear hxs hA
  go_enter Tryz.func109, Tryz.ntmps109
  go_wp2_with fail
  go_loopw [9] (fun i wr => ∃ (k : Nat) (D : DataW Unit), k ≤ n ∧ i = .int .i64 k ∧ wr.ownsMap Tryz.prog 3 (plainElem Tryz.prog 4) w.heap.size k D ∧ Maps.size D = k ∧ (∀ y, (∀ j, j < k → fOf xs j ≠ y) → Maps.has D (.int .i64 y) = false) ∧ Below w.heap.size w wr)
    (fun i _ => n - (intOf i).toNat)
  case atStart => exact ⟨0, .map [], Nat.zero_le _, rfl, World.ownsMap_made _ _ _ _, rfl, fun y _ => rfl, (Below.refl _ _).alloc (Nat.le_refl _) _⟩
  case round =>
    obtain ⟨k, D, hk, rfl, hown, hsz, hhas, hbl⟩ := hrel
    have HB := Lib.hid hbl
    have HH := Lib.hid hhas
    have HSZ := Lib.hid hsz
    clear hbl hhas hsz
    by_cases hl : k < n
    · obtain ⟨b, off, rfl, hSb, hcell⟩ := hc (by omega)
      have hlt := hS b hSb
      have ck := (HB.out.cell (p := ⟨b, off + k, none⟩) hlt).trans (hcell k hl)
      change wr.cell? ⟨b, off + k, none⟩ = some (.int .i64 (fOf xs k)) at ck
      have bk := HXS.out k hl
      obtain ⟨x, hx⟩ : ∃ x, fOf xs k = x := ⟨_, rfl⟩
      rw [hx] at ck bk
      have HX := Lib.hid hx
      have hnew := HH.out x (fun j hj e => HA.out j k (by omega) hl (by omega) (e.trans hx.symm))
      have HNEW := Lib.hid hnew
      have htd := hown.tidy lawI
      have HTD := Lib.hid htd
      have qk : (k : Int) < (n : Int) := by omega
      clear hx hnew htd hcell
      go_wp2_with (at_mapUpdate; refine wpList_mapUpdate_own _ rfl _ _ _ 192 rfl 3 4 lawI Tryz.underlying192 (plainElem (H := Unit) Tryz.prog 4) w.heap.size k _ rfl hown (by unfold maxLen; omega) _ _ _ rfl rfl (keyOf_int_mk Tryz.underlying3 (WalkArith.wf_i64 (by omega))) _ [] (plainElem_bool Tryz.underlying4 true) ?_)
      intro w1 hown1 hgrow1
      have hs1 : Maps.size (D.put (.int .i64 x) (.lit (.bool true))) = k + 1 := by rw [size_put HTD.out, if_neg (by rw [HNEW.out]; simp), HSZ.out]
      have hh1 : ∀ y, (∀ j, j < k + 1 → fOf xs j ≠ y) → Maps.has (D.put (.int .i64 x) (.lit (.bool true))) (.int .i64 y) = false := fun y hy => by
        rw [has_put_other (fun e => hy k (by omega) (by rw [HX.out]; injection e with _ e; exact e.symm))]
        exact HH.out y fun j hj => hy j (by omega)
      have hb1 := HB.out.grown hgrow1 HB.out.size (fun j hj => by cases hj; exact Nat.le_refl _)
      have HO1 := Lib.hid hown1
      have HS1 := Lib.hid hs1
      have HH1 := Lib.hid hh1
      have HB1 := Lib.hid hb1
      clear hown1 hgrow1 hs1 hh1 hb1 hown
      go_wp2_with fail
      go_roundw
      case measure => simp [intOf]; omega
      case rel => exact ⟨k + 1, _, by omega, by go_num, HO1.out, HS1.out, HH1.out, HB1.out⟩
    · have hkn : k = n := by omega
      subst hkn
      have hsz := HSZ.out
      go_wp2_with (at_len; refine wpList_len_own _ rfl _ 192 rfl 3 4 Tryz.underlying192 _ w.heap.size k _ rfl hown ?_)
      go_wp2_with fail
      go_ret
      exact ⟨ret_bool (by simp), HB.out⟩

set_option maxHeartbeats 400000 in
theorem p_check (v : Value) (xs : List Int) (S : Nat → Prop) (w : World) (hv : IntsAt w S v xs) (hS : ∀ b, S b → b < w.heap.size) (h0 : 0 < xs.length) (hl : xs.length ≤ 1000)
    (hxs : ∀ k, k < xs.length → 0 ≤ fOf xs k ∧ fOf xs k < 2147483648) (hA : ∀ i j, i < xs.length → j < xs.length → i ≠ j → fOf xs i ≠ fOf xs j) :
    Calls Tryz.prog 89 #[v] w fun e w' => e = .returned (.int .i64 0) ∧ Below w.heap.size w w' := by
  obtain ⟨A, n, c, rfl, hn, hnc, hc⟩ := id hv
  have t0 : ((n : Int) == 0) = false := by simp; omega
  have HV := Lib.hid hv
  have HXS := Lib.hid hxs
  have HA := Lib.hid hA
  have hn1 : n ≤ 1000 := by omega
  clear hv hxs hA hc hn
  go_enter Tryz.func89, Tryz.ntmps89
  go_wp2_with fail
  refine (p_different _ xs S _ HV.out hS hl HXS.out HA.out).mono ?_
  rintro e w1 ⟨rfl, hb1⟩
  go_wp2_with fail
  go_ret
  exact ⟨rfl, hb1⟩
/-- The weights of all places. -/
def wts (p : Nat) (xs : List Int) (x : Int) : List Int := (List.range xs.length).map fun i => wt p (fOf xs) xs.length i x
theorem wts_get (p : Nat) (xs : List Int) (x : Int) (i : Nat) (h : i < xs.length) : (wts p xs x).getD i 0 = wt p (fOf xs) xs.length i x := by
  unfold wts; rw [List.getD_eq_getElem?_getD, List.getElem?_map, List.getElem?_range h]; rfl
def IntsPost (xs : List Int) (w : World) (e : Ending) (w' : World) : Prop :=
  ∃ v, e = .returned v ∧ IntsAt w' (fun b => w.heap.size ≤ b ∧ b < w'.heap.size) v xs ∧ Below w.heap.size w w'
def IntsPost2 (xs : List Int) (w : World) (e : Ending) (w' : World) : Prop :=
  ∃ v, e = .returned (.tuple #[v, .int .i64 0]) ∧ IntsAt w' (fun b => w.heap.size ≤ b ∧ b < w'.heap.size) v xs ∧ Below w.heap.size w w'
theorem zeros_get (n i : Nat) (h : i < n) : (madeCells #[Value.int .i64 0] n)[i]? = some (.int .i64 0) := by
  have : (madeCells #[Value.int .i64 0] n).toList[i]? = some (.int .i64 0) := by
    rw [toList_madeCells_one, List.getElem?_replicate, if_pos h]
  rwa [Array.getElem?_toList] at this
/-- A slice of shares, its cells in blocks of S. -/
def ShAt (w : World) (S : Nat → Prop) (v : Value) (L : List Sh) : Prop :=
  ∃ (A : Option Addr) (n c : Nat), v = .slice A n c ∧ n = L.length ∧ n ≤ c ∧ (0 < n → ∃ b off, A = some ⟨b, off, none⟩ ∧ S b ∧
    ∀ k, k < n → ∃ u, w.cell? ⟨b, off + k * 2, none⟩ = some (.int .i64 (shAt L k).1) ∧ w.cell? ⟨b, off + k * 2 + 1, none⟩ = some u ∧ IntsAt w S u (shAt L k).2)
theorem ShAt.keep {w w' : World} {S : Nat → Prop} {v : Value} {L : List Sh} (h : ShAt w S v L) (hk : ∀ b, S b → w'.heap[b]? = w.heap[b]?) : ShAt w' S v L := by
  obtain ⟨A, n, c, h1, h2, h3, h4⟩ := h
  refine ⟨A, n, c, h1, h2, h3, fun hn => ?_⟩
  obtain ⟨b, off, hA, hS, hc⟩ := h4 hn
  refine ⟨b, off, hA, hS, fun k hk' => ?_⟩
  obtain ⟨u, c1, c2, c3⟩ := hc k hk'
  exact ⟨u, (World.cell?_of_block (hk b hS)).trans c1, (World.cell?_of_block (hk b hS)).trans c2, c3.keep hk⟩
theorem ShAt.mono {w : World} {S T : Nat → Prop} {v : Value} {L : List Sh} (h : ShAt w S v L) (hk : ∀ b, S b → T b) : ShAt w T v L := by
  obtain ⟨A, n, c, h1, h2, h3, h4⟩ := h
  refine ⟨A, n, c, h1, h2, h3, fun hn => ?_⟩
  obtain ⟨b, off, hA, hS, hc⟩ := h4 hn
  refine ⟨b, off, hA, hk b hS, fun k hk' => ?_⟩
  obtain ⟨u, c1, c2, c3⟩ := hc k hk'
  exact ⟨u, c1, c2, c3.mono hk⟩
theorem OwnSh.at_ {w : World} {B : Nat} {v : Value} {L : List Sh} (h : OwnSh w B v L) : ShAt w (fun b => B ≤ b ∧ b < w.heap.size) v L := by
  obtain ⟨cells, hr, hk⟩ := h
  rcases hr.2 with ⟨rfl, h0⟩ | ⟨g, cap, cur, rfl, hB, hh, hnc, hm, hs, ht⟩
  · exact ⟨none, 0, 0, rfl, h0.symm, Nat.le_refl _, fun h => by omega⟩
  · refine ⟨_, L.length, cap, rfl, rfl, hnc, fun hn => ⟨g, 0, rfl, ⟨hB, (Array.getElem?_eq_some_iff.1 hh).1⟩, fun k hk' => ?_⟩⟩
    obtain ⟨u, h1, h2, h3⟩ := hk k hk'
    have hc := hr.cells (g := g) rfl
    have ha : ∀ j, (⟨g, 0, none⟩ : Addr).add j = ⟨g, 0 + j, none⟩ := fun j => by unfold Addr.add; split <;> simp_all
    refine ⟨u, ?_, ?_, IntsAt.of_own h3⟩
    · have := hc _ _ h1; rwa [ha, Nat.mul_comm] at this
    · have := hc _ _ h2; rwa [ha, Nat.mul_comm] at this

set_option maxRecDepth 100000 in
set_option maxHeartbeats 1000000 in
theorem s_Holders (v : Value) (L : List Sh) (S : Nat → Prop) (w : World) (hv : ShAt w S v L) (hS : ∀ b, S b → b < w.heap.size) (hl : L.length ≤ 1000) :
    Calls Tryz.prog 67 #[v] w (IntsPost (L.map (·.1)) w) := by
  obtain ⟨A, n, c, rfl, hn, hnc, hc⟩ := hv
  obtain ⟨i0, hi, hz0, hz1, hz2⟩ := info_parts infoI
  have hn1 : n ≤ 1000 := by omega
  have HN := Lib.hid hn
  clear hn hl
  go_enter Tryz.func67, Tryz.ntmps67
  go_wp2_with fail
  go_loopw [3, 8] (fun o t wr => ∃ k : Nat, k ≤ n ∧ t = .int .i64 k ∧ wr.ownsRow w.heap.size 3 1 o k (((L.take k).map (·.1)).map (Value.int .i64)) ∧ Below w.heap.size w wr) (fun _ t _ => n - (intOf t).toNat)
  case atStart => exact ⟨0, by omega, rfl, World.ownsRow_nil _ _ _ _, Below.refl _ _⟩
  case round =>
    obtain ⟨k, hk, rfl, hown, hbl⟩ := hrel
    have hsz := hbl.size
    by_cases hlt : k < n
    · obtain ⟨b, off, rfl, hSb, hcell⟩ := hc (by omega)
      obtain ⟨u, c0, c1, hu⟩ := hcell k hlt
      obtain ⟨Au, nu, cu, rfl, _⟩ := hu
      have hbw := hS b hSb
      have d0 := (hbl.cell (p := ⟨b, off + k * 2, none⟩) hbw).trans c0
      have d1 := (hbl.cell (p := ⟨b, off + k * 2 + 1, none⟩) hbw).trans c1
      have qk : (k : Int) < (n : Int) := by omega
      have HBL := Lib.hid hbl
      obtain ⟨h, hh⟩ : ∃ h, (shAt L k).1 = h := ⟨_, rfl⟩
      rw [hh] at d0
      have hstep : ((L.take (k + 1)).map (·.1)).map (Value.int .i64) = ((L.take k).map (·.1)).map (Value.int .i64) ++ [.int .i64 h] := by
        have hkl : k < L.length := by rw [← HN.out]; exact hlt
        rw [List.take_succ_eq_append_getElem hkl, List.map_append, List.map_append]
        have : shAt L k = L[k] := by unfold shAt; rw [List.getD_eq_getElem?_getD, List.getElem?_eq_getElem hkl]; rfl
        rw [← hh, this]; rfl
      have HST := Lib.hid hstep
      clear hbl hcell c0 c1 hc hh hstep
      go_wp2_with (at_builtin; refine wpList_append_own _ rfl _ _ 22 rfl w.heap.size 3 i0 (.int .i64 0) 1 8 Tryz.underlying22 hi hz0 hz1 hz2 rfl (by decide) _ _ _ rfl ((hown.alloc _).alloc _) ⟨wr.heap.size + 1, 0, none⟩ 1 1 [.int .i64 h] rfl rfl (fun j u hj => by have := cell_one_new (wr.alloc (.cells #[.int .i64 h, .slice Au (shAt L k).2.length cu] 36)) (.int .i64 h) 3 j u hj; simpa using this) (ints_oneCell .i64 [_]) (by unfold maxLen; omega) (by omega) (by simp; omega) ?_)
      intro v' w2 hown' hgrow _
      have hg := grown_past (grown_past hgrow)
      have hown2 : w2.ownsRow w.heap.size 3 1 v' (k + 1) (((L.take (k + 1)).map (·.1)).map (Value.int .i64)) := by rw [HST.out]; simpa using hown'
      have hul : ∀ g, u3.ownBlock = some g → w.heap.size ≤ g := fun g hg => (hown.lt g hg).1
      have hb2 := HBL.out.grown hg hsz hul
      have HO2 := Lib.hid hown2
      have HB2 := Lib.hid hb2
      clear hown' hgrow hg hown2 hul hb2 hown
      go_wp2_with fail
      go_roundw
      case measure => simp [intOf]; omega
      case rel => exact ⟨k + 1, by omega, by go_num, HO2.out, HB2.out⟩
    · have hkn : k = n := by omega
      subst hkn
      go_wp2_with fail
      go_ret
      refine ⟨_, rfl, IntsAt.of_own (n := k) ?_, hbl⟩
      rwa [List.take_of_length_le (by rw [← HN.out]; exact Nat.le_refl _)] at hown
end Go.Proofs.YtgeahbmaeaoeeaaGreatDoor
namespace Go.Proofs.YtgeahbmaeaoeeaaGreatDoor
open Go.RowKit Num

/-- What is seen of an entry. -/
structure SeenS where
  num : Int
  time : Int
  st : Int
  len : Int
  ep : Int
  boxes : List Sh
  who : List Sh
def seen0 : SeenS := ⟨0, 0, 0, 0, 0, [], []⟩
def seeL (L : List SeenS) (k : Nat) : SeenS := L.getD k seen0
theorem seeL_mem {L : List SeenS} {k : Nat} (h : k < L.length) : seeL L k ∈ L := by
  unfold seeL; rw [List.getD_eq_getElem?_getD, List.getElem?_eq_getElem h]; exact List.getElem_mem h
/-- An entry that lies in seven cells. -/
structure SeeAt (w : World) (S : Nat → Prop) (b off : Nat) (s : SeenS) (u v : Value) : Prop where
  c0 : w.cell? ⟨b, off, none⟩ = some (.int .i64 s.num)
  c1 : w.cell? ⟨b, off + 1, none⟩ = some (.int .i64 s.time)
  c2 : w.cell? ⟨b, off + 2, none⟩ = some (.int .i64 s.st)
  c3 : w.cell? ⟨b, off + 3, none⟩ = some (.int .i64 s.len)
  c4 : w.cell? ⟨b, off + 4, none⟩ = some (.int .i64 s.ep)
  c5 : w.cell? ⟨b, off + 5, none⟩ = some u
  c6 : w.cell? ⟨b, off + 6, none⟩ = some v
  bx : ShAt w S u s.boxes
  wh : ShAt w S v s.who
theorem SeeAt.keep {w w' : World} {S : Nat → Prop} {b off : Nat} {s : SeenS} {u v : Value} (h : SeeAt w S b off s u v) (hb : w'.heap[b]? = w.heap[b]?) (hk : ∀ b, S b → w'.heap[b]? = w.heap[b]?) : SeeAt w' S b off s u v :=
  ⟨(World.cell?_of_block hb).trans h.c0, (World.cell?_of_block hb).trans h.c1, (World.cell?_of_block hb).trans h.c2, (World.cell?_of_block hb).trans h.c3, (World.cell?_of_block hb).trans h.c4, (World.cell?_of_block hb).trans h.c5, (World.cell?_of_block hb).trans h.c6, h.bx.keep hk, h.wh.keep hk⟩
theorem SeeAt.mono {w : World} {S T : Nat → Prop} {b off : Nat} {s : SeenS} {u v : Value} (h : SeeAt w S b off s u v) (hk : ∀ b, S b → T b) : SeeAt w T b off s u v :=
  ⟨h.c0, h.c1, h.c2, h.c3, h.c4, h.c5, h.c6, h.bx.mono hk, h.wh.mono hk⟩
/-- A list of entries. -/
def SeensAt (w : World) (S : Nat → Prop) (v : Value) (L : List SeenS) : Prop :=
  ∃ (A : Option Addr) (n c : Nat), v = .slice A n c ∧ n = L.length ∧ n ≤ c ∧ (0 < n → ∃ b off, A = some ⟨b, off, none⟩ ∧ S b ∧ ∀ k, k < n → ∃ x y, SeeAt w S b (off + k * 7) (seeL L k) x y)
theorem SeensAt.keep {w w' : World} {S : Nat → Prop} {v : Value} {L : List SeenS} (h : SeensAt w S v L) (hk : ∀ b, S b → w'.heap[b]? = w.heap[b]?) : SeensAt w' S v L := by
  obtain ⟨A, n, c, h1, h2, h3, h4⟩ := h
  refine ⟨A, n, c, h1, h2, h3, fun hn => ?_⟩
  obtain ⟨b, off, hA, hS, hc⟩ := h4 hn
  exact ⟨b, off, hA, hS, fun k hk' => by obtain ⟨x, y, hs⟩ := hc k hk'; exact ⟨x, y, hs.keep (hk b hS) hk⟩⟩
theorem SeensAt.mono {w : World} {S T : Nat → Prop} {v : Value} {L : List SeenS} (h : SeensAt w S v L) (hk : ∀ b, S b → T b) : SeensAt w T v L := by
  obtain ⟨A, n, c, h1, h2, h3, h4⟩ := h
  refine ⟨A, n, c, h1, h2, h3, fun hn => ?_⟩
  obtain ⟨b, off, hA, hS, hc⟩ := h4 hn
  exact ⟨b, off, hA, hk b hS, fun k hk' => by obtain ⟨x, y, hs⟩ := hc k hk'; exact ⟨x, y, hs.mono hk⟩⟩
/-- Known blocks stay known. -/
theorem SeensAt.up {w w' : World} {v : Value} {L : List SeenS} (h : SeensAt w (· < w.heap.size) v L) (hb : Below w.heap.size w w') : SeensAt w' (· < w'.heap.size) v L :=
  (h.keep fun b hlt => hb.block b hlt).mono fun b hlt => Nat.lt_of_lt_of_le hlt hb.size
theorem ShAt.up {w w' : World} {v : Value} {L : List Sh} (h : ShAt w (· < w.heap.size) v L) (hb : Below w.heap.size w w') : ShAt w' (· < w'.heap.size) v L :=
  (h.keep fun b hlt => hb.block b hlt).mono fun b hlt => Nat.lt_of_lt_of_le hlt hb.size
theorem IntsAt.up {w w' : World} {v : Value} {L : List Int} (h : IntsAt w (· < w.heap.size) v L) (hb : Below w.heap.size w w') : IntsAt w' (· < w'.heap.size) v L :=
  (h.keep fun b hlt => hb.block b hlt).mono fun b hlt => Nat.lt_of_lt_of_le hlt hb.size
theorem SeensAt.none_ (w : World) (S : Nat → Prop) (c : Nat) : SeensAt w S (.slice none 0 c) [] := ⟨none, 0, c, rfl, rfl, Nat.zero_le _, fun h => absurd h (Nat.lt_irrefl 0)⟩
/-- The cells of a row of entries. -/
def seeC (L : List SeenS) (us vs : Nat → Value) : List Value := (List.range (7 * L.length)).map fun j =>
  let s := seeL L (j / 7)
  if j % 7 = 0 then .int .i64 s.num else if j % 7 = 1 then .int .i64 s.time else if j % 7 = 2 then .int .i64 s.st else if j % 7 = 3 then .int .i64 s.len else if j % 7 = 4 then .int .i64 s.ep else if j % 7 = 5 then us (j / 7) else vs (j / 7)
theorem seeC_len (L : List SeenS) (us vs : Nat → Value) : (seeC L us vs).length = L.length * 7 := by simp [seeC]; omega
def seeV (L : List SeenS) (us vs : Nat → Value) (j : Nat) : Value :=
  let s := seeL L (j / 7)
  if j % 7 = 0 then .int .i64 s.num else if j % 7 = 1 then .int .i64 s.time else if j % 7 = 2 then .int .i64 s.st else if j % 7 = 3 then .int .i64 s.len else if j % 7 = 4 then .int .i64 s.ep else if j % 7 = 5 then us (j / 7) else vs (j / 7)
theorem seeC_get (L : List SeenS) (us vs : Nat → Value) (j : Nat) (h : j < 7 * L.length) : (seeC L us vs)[j]? = some (seeV L us vs j) := by
  unfold seeC seeV; rw [List.getElem?_map, List.getElem?_range h]; rfl
theorem seeV_at (L : List SeenS) (us vs : Nat → Value) (k : Nat) :
    seeV L us vs (k * 7) = .int .i64 (seeL L k).num ∧ seeV L us vs (k * 7 + 1) = .int .i64 (seeL L k).time ∧ seeV L us vs (k * 7 + 2) = .int .i64 (seeL L k).st ∧ seeV L us vs (k * 7 + 3) = .int .i64 (seeL L k).len ∧ seeV L us vs (k * 7 + 4) = .int .i64 (seeL L k).ep ∧ seeV L us vs (k * 7 + 5) = us k ∧ seeV L us vs (k * 7 + 6) = vs k := by
  have d := fun (j : Nat) (hj : j < 7) => (show (k * 7 + j) / 7 = k by omega)
  have m := fun (j : Nat) (hj : j < 7) => (show (k * 7 + j) % 7 = j by omega)
  refine ⟨?_, ?_, ?_, ?_, ?_, ?_, ?_⟩ <;> unfold seeV
  · rw [show k * 7 / 7 = k by omega, show k * 7 % 7 = 0 by omega]; rfl
  · rw [d 1 (by omega), m 1 (by omega)]; rfl
  · rw [d 2 (by omega), m 2 (by omega)]; rfl
  · rw [d 3 (by omega), m 3 (by omega)]; rfl
  · rw [d 4 (by omega), m 4 (by omega)]; rfl
  · rw [d 5 (by omega), m 5 (by omega)]; rfl
  · rw [d 6 (by omega), m 6 (by omega)]; rfl
theorem SeensAt.reads {w : World} {S : Nat → Prop} {B : Nat} {A : Option Addr} {n c : Nat} {L : List SeenS} (h : SeensAt w S (.slice A n c) L) (hS : ∀ b, S b → b < B) :
    ∃ us vs : Nat → Value, Reads w B 7 A n (seeC L us vs) ∧ (∀ k, k < n → ShAt w S (us k) (seeL L k).boxes ∧ ShAt w S (vs k) (seeL L k).who) ∧ n = L.length ∧ n ≤ c ∧ (0 < n → ∃ b off, A = some ⟨b, off, none⟩ ∧ S b) := by
  obtain ⟨A', n', c', hv, h2, h3, h4⟩ := h
  injection hv with e1 e2 e3
  subst e1 e2 e3
  rcases Nat.eq_zero_or_pos n with h0 | h0
  · subst h0
    refine ⟨fun _ => .slice none 0 0, fun _ => .slice none 0 0, ⟨by rw [seeC_len, ← h2], fun h => absurd h (Nat.lt_irrefl 0)⟩, fun k hk => absurd hk (Nat.not_lt_zero k), h2, h3, fun h => absurd h (Nat.lt_irrefl 0)⟩
  · obtain ⟨b, off, rfl, hSb, hc⟩ := h4 h0
    have hex : ∀ k, ∃ x y, k < n → SeeAt w S b (off + k * 7) (seeL L k) x y := fun k => by
      by_cases hk : k < n
      · obtain ⟨x, y, h⟩ := hc k hk; exact ⟨x, y, fun _ => h⟩
      · exact ⟨.slice none 0 0, .slice none 0 0, fun h => absurd h hk⟩
    obtain ⟨us, hus⟩ := Classical.skolem.1 hex
    obtain ⟨vs, hvs⟩ := Classical.skolem.1 hus
    refine ⟨us, vs, ⟨by rw [seeC_len, ← h2], fun _ => ⟨_, rfl, hS b hSb, fun j u hj => ?_⟩⟩, fun k hk => ⟨(hvs k hk).bx, (hvs k hk).wh⟩, h2, h3, fun _ => ⟨b, off, rfl, hSb⟩⟩
    have hjl : j < 7 * L.length := by
      rcases Nat.lt_or_ge j (7 * L.length) with h | h
      · exact h
      · rw [List.getElem?_eq_none (by rw [seeC_len]; omega)] at hj; cases hj
    rw [seeC_get L us vs j hjl] at hj
    injection hj with hj
    have hadd : (⟨b, off, none⟩ : Addr).add j = ⟨b, off + j, none⟩ := by unfold Addr.add; split <;> simp_all
    rw [hadd, ← hj]
    obtain ⟨k, r, hr, rfl⟩ : ∃ k r, r < 7 ∧ j = k * 7 + r := ⟨j / 7, j % 7, Nat.mod_lt _ (by omega), by omega⟩
    have hs := hvs k (by omega)
    obtain ⟨v0, v1, v2, v3, v4, v5, v6⟩ := seeV_at L us vs k
    rcases (show r = 0 ∨ r = 1 ∨ r = 2 ∨ r = 3 ∨ r = 4 ∨ r = 5 ∨ r = 6 by omega) with rfl | rfl | rfl | rfl | rfl | rfl | rfl
    · rw [Nat.add_zero, v0]; exact hs.c0
    · rw [v1]; exact hs.c1
    · rw [v2]; exact hs.c2
    · rw [v3]; exact hs.c3
    · rw [v4]; exact hs.c4
    · rw [v5]; exact hs.c5
    · rw [v6]; exact hs.c6
theorem SeensAt.of_own {w : World} {B n : Nat} {v : Value} {L : List SeenS} {us vs : Nat → Value} (h : w.ownsRow B 39 7 v n (seeC L us vs)) (hn : n = L.length) (hu : ∀ k, k < n → ShAt w (· < w.heap.size) (us k) (seeL L k).boxes ∧ ShAt w (· < w.heap.size) (vs k) (seeL L k).who) : SeensAt w (· < w.heap.size) v L := by
  rcases id h.2 with ⟨rfl, h0⟩ | ⟨g, cap, cur, rfl, hB, hh, hnc, hm, hs, ht⟩
  · have hl : L.length = 0 := by omega
    exact ⟨none, 0, 0, rfl, by omega, Nat.le_refl _, fun h => absurd h (Nat.lt_irrefl 0)⟩
  · have hlt : g < w.heap.size := (Array.getElem?_eq_some_iff.1 hh).1
    refine ⟨_, n, cap, rfl, hn, hnc, fun _ => ⟨g, 0, rfl, hlt, fun k hk => ⟨us k, vs k, ?_⟩⟩⟩
    have hc := fun (r : Nat) (hr : r < 7) => (by
      have h1 := h.cells (g := g) rfl (k * 7 + r) _ (seeC_get L us vs (k * 7 + r) (by omega))
      have ha : (⟨g, 0, none⟩ : Addr).add (k * 7 + r) = ⟨g, 0 + k * 7 + r, none⟩ := by unfold Addr.add; split <;> simp_all
      rwa [ha] at h1 : w.cell? ⟨g, 0 + k * 7 + r, none⟩ = some (seeV L us vs (k * 7 + r)))
    obtain ⟨v0, v1, v2, v3, v4, v5, v6⟩ := seeV_at L us vs k
    exact ⟨v0 ▸ hc 0 (by omega), v1 ▸ hc 1 (by omega), v2 ▸ hc 2 (by omega), v3 ▸ hc 3 (by omega), v4 ▸ hc 4 (by omega), v5 ▸ hc 5 (by omega), v6 ▸ hc 6 (by omega), (hu k hk).1, (hu k hk).2⟩
end Go.Proofs.YtgeahbmaeaoeeaaGreatDoor
namespace Go.Proofs.YtgeahbmaeaoeeaaGreatDoor
open Go.RowKit Num

set_option maxRecDepth 100000 in
set_option maxHeartbeats 1000000 in
theorem c_Index (v : Value) (xs : List Int) (y : Int) (S : Nat → Prop) (w : World) (hv : IntsAt w S v xs) (hl : xs.length ≤ 1000000) :
    Calls Tryz.prog 88 #[v, .int .i64 y] w fun e w' => ∃ r : Int, e = .returned (.int .i64 r) ∧ ((r = -1 ∧ ∀ j, j < xs.length → xs.getD j 0 ≠ y) ∨ ∃ j : Nat, j < xs.length ∧ r = (j : Int) ∧ xs.getD j 0 = y) ∧ w = w' := by
  obtain ⟨A, n, ca, rfl, hn, hnc, hcc⟩ := id hv
  rw [← hn] at hl ⊢
  have HCC := Lib.hid hcc
  clear hv hn hcc
  go_enter Tryz.func88, Tryz.ntmps88
  go_wp2_with fail
  go_loopw [8] (fun t wr => ∃ i : Nat, i ≤ n ∧ t = .int .i64 i ∧ (∀ j, j < i → xs.getD j 0 ≠ y) ∧ w = wr) (fun t _ => n - (intOf t).toNat)
  case atStart => exact ⟨0, by omega, rfl, fun j hj => absurd hj (Nat.not_lt_zero j), rfl⟩
  case round =>
    obtain ⟨i, hin, rfl, hz, rfl⟩ := hrel
    have HZ := Lib.hid hz
    clear hz
    by_cases hlt : i < n
    · obtain ⟨b, off, rfl, _, hc⟩ := HCC.out (by omega)
      have cx := hc i hlt
      obtain ⟨x, hx⟩ : ∃ x, xs.getD i 0 = x := ⟨_, rfl⟩
      rw [hx] at cx
      have HX := Lib.hid hx
      have qi : (i : Int) < (n : Int) := by omega
      have qi0 : (0 : Int) ≤ (i : Int) := by omega
      clear hx hc
      by_cases hxy : y = x
      · have t0 : (y == x) = true := by simpa using hxy
        have HE := Lib.hid hxy
        clear hxy
        go_wp2_with fail
        go_ret
        exact ⟨_, rfl, .inr ⟨i, hlt, rfl, by rw [HX.out]; exact HE.out.symm⟩, rfl⟩
      · have t0 : (y == x) = false := by simpa using hxy
        have HE := Lib.hid hxy
        clear hxy
        go_wp2_with fail
        go_roundw
        case measure => simp [intOf]; omega
        case rel => exact ⟨i + 1, by omega, by go_num, fun j hj => by
          rcases Nat.lt_or_ge j i with h | h
          · exact HZ.out j h
          · rw [show j = i by omega, HX.out]; exact fun e => HE.out e.symm, by first | rfl | trivial⟩
    · have hi' : i = n := by omega
      subst hi'
      go_wp2_with fail
      go_ret
      exact ⟨_, rfl, .inl ⟨rfl, HZ.out⟩, rfl⟩
set_option maxHeartbeats 1000000 in
theorem c_Contains (v : Value) (xs : List Int) (y : Int) (S : Nat → Prop) (w : World) (hv : IntsAt w S v xs) (hl : xs.length ≤ 1000000) :
    Calls Tryz.prog 68 #[v, .int .i64 y] w fun e w' => ∃ b : Bool, e = .returned (.bool b) ∧ (b = true ↔ ∃ j, j < xs.length ∧ xs.getD j 0 = y) ∧ w = w' := by
  have h := c_Index v xs y S w hv hl
  have H := Lib.hid h
  clear h
  go_enter Tryz.func68, Tryz.ntmps68
  go_wp2_with fail
  refine H.out.mono ?_
  rintro e w' ⟨r, rfl, hr, rfl⟩
  have hb : (decide ((0 : Int) ≤ r) = true ↔ ∃ j, j < xs.length ∧ xs.getD j 0 = y) := by
    rw [decide_eq_true_iff]
    rcases hr with ⟨rfl, hn⟩ | ⟨j, h1, rfl, h3⟩
    · exact ⟨fun h => by omega, fun ⟨j, h1, h3⟩ => absurd h3 (hn j h1)⟩
    · exact ⟨fun _ => ⟨j, h1, h3⟩, fun _ => by omega⟩
  have HB := Lib.hid hb
  clear hr hb
  go_wp2_with fail
  go_ret
  exact ⟨_, rfl, HB.out, rfl⟩
end Go.Proofs.YtgeahbmaeaoeeaaGreatDoor
