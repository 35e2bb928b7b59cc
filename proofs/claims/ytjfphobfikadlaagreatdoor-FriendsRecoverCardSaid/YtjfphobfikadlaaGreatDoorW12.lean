/- Contracts: shares are dealt, one element after the other. Contracts: how many bytes one element holds, how many elements bytes are, how many random numbers a circle needs. Contracts: the shares of a secret, by the program. -/
import Derived.Test.YtjfphobfikadlaaGreatDoorW11
import Derived.Test.YtjfphobfikadlaaGreatDoorW06
import Derived.BigRegion
set_option linter.unusedVariables false
set_option linter.unusedSimpArgs false
namespace Go.Proofs.YtjfphobfikadlaaGreatDoor
open Go.RowKit Num

/-- The cells of the shares that are being dealt. -/
def shCells (us : Nat → Value) (n : Nat) : List Value := (List.range (2 * n)).map fun j => if j % 2 = 0 then .int .i64 (((j / 2 + 1 : Nat)) : Int) else us (j / 2)
theorem shCells_len (us : Nat → Value) (n : Nat) : (shCells us n).length = 2 * n := by simp [shCells]
theorem shCells_h (us : Nat → Value) (n k : Nat) (h : k < n) : (shCells us n)[2 * k]? = some (.int .i64 ((k : Int) + 1)) := by
  unfold shCells
  rw [List.getElem?_map, List.getElem?_range (by omega)]
  simp
theorem shCells_v (us : Nat → Value) (n k : Nat) (h : k < n) : (shCells us n)[2 * k + 1]? = some (us k) := by
  unfold shCells
  rw [List.getElem?_map, List.getElem?_range (by omega)]
  simp only [Option.map_some]
  rw [if_neg (by omega), show (2 * k + 1) / 2 = k by omega]
theorem shCells_set (us : Nat → Value) (n j : Nat) (v : Value) (h : j < n) : (shCells us n).set (2 * j + 1) v = shCells (fun k => if k = j then v else us k) n := by
  apply List.ext_getElem
  · rw [List.length_set, shCells_len, shCells_len]
  · intro i h1 h2
    rw [List.getElem_set]
    unfold shCells
    simp only [List.getElem_map, List.getElem_range]
    by_cases e : 2 * j + 1 = i
    · rw [if_pos e, if_neg (by omega), if_pos (by omega)]
    · rw [if_neg e]
      by_cases e2 : i % 2 = 0
      · rw [if_pos e2, if_pos e2]
      · rw [if_neg e2, if_neg e2, if_neg (by omega)]
/-- Shares that are being dealt: each has a row of values of its own. -/
structure DealT (w : World) (B g cap hold : Nat) (us : Nat → Value) (xs : Nat → List Int) : Prop where
  row : w.ownsRow B 49 2 (.slice (some ⟨g, 0, none⟩) hold cap) hold (shCells us hold)
  own : ∀ k, k < hold → w.ownsRow B 3 1 (us k) (xs k).length ((xs k).map (Value.int .i64))
  apart : ∀ k l, k < hold → l < hold → k ≠ l → (us k).ownBlock = none ∨ (us k).ownBlock ≠ (us l).ownBlock
section
variable {w w' : World} {B g cap hold : Nat} {us : Nat → Value} {xs : Nat → List Int}
theorem DealT.far (h : DealT w B g cap hold us xs) {k : Nat} (hk : k < hold) : (us k).ownBlock ≠ some g := by
  rcases own_ne (h.own k hk) h.row (by decide) with e | e
  · rw [e]; simp
  · exact e
theorem DealT.kept {r : Option Nat} (h : DealT w B g cap hold us xs) (hg : w.grownBy w' r) (h1 : some g ≠ r) (h2 : ∀ k, k < hold → (us k).ownBlock = none ∨ (us k).ownBlock ≠ r) : DealT w' B g cap hold us xs :=
  ⟨h.row.kept hg (.inr h1), fun k hk => (h.own k hk).kept hg (h2 k hk), h.apart⟩
theorem DealT.below (h : DealT w B g cap hold us xs) (hb : Below w.heap.size w w') : DealT w' B g cap hold us xs :=
  h.kept (only_of_below hb none) (by simp) (fun k _ => by cases (us k).ownBlock <;> simp)
theorem DealT.drew (h : DealT w B g cap hold us xs) : DealT w.drew B g cap hold us xs := ⟨h.row, h.own, h.apart⟩
/-- One share has one value more. -/
theorem DealT.put (h : DealT w B g cap hold us xs) {j : Nat} (hj : j < hold) {v' : Value} {y : Int} (hg : w.grownBy w' (us j).ownBlock)
    (hown : w'.ownsRow B 3 1 v' ((xs j).length + 1) ((xs j).map (Value.int .i64) ++ [.int .i64 y])) (hloc : v'.ownBlock = (us j).ownBlock ∨ ∃ H, v'.ownBlock = some H ∧ w.heap.size ≤ H) (hv : v'.oneCell' = true) :
    DealT (w'.setCell ⟨g, 2 * j + 1, none⟩ v') B g cap hold (fun k => if k = j then v' else us k) (fun k => if k = j then xs j ++ [y] else xs k) := by
  have hfar := h.far hj
  have hrow := h.row.kept hg (.inr (Ne.symm hfar))
  have hst := (World.ownsRow.stored hrow (2 * j + 1) v').1
  rw [shCells_set us hold j v' hj] at hst
  have hgs : w'.grownBy (w'.setCell ⟨g, 2 * j + 1, none⟩ v') (some g) := only_setCell (World.grownBy.refl w' _) (p := ⟨g, 2 * j + 1, none⟩) (.inl rfl) _
  refine ⟨hst, fun k hk => ?_, fun k l hk hl hkl => ?_⟩
  · by_cases e : k = j
    · subst e
      simp only [if_true]
      have := hown.kept hgs (own_ne hown hrow (by decide))
      simpa using this
    · simp only [if_neg e]
      have h1 := (h.own k hk).kept hg (h.apart k j hk hj e)
      exact h1.kept hgs (own_ne h1 hrow (by decide))
  · by_cases e : k = j
    · subst e
      simp only [if_true, if_neg (Ne.symm hkl)]
      rcases hloc with h1 | ⟨H, h1, h2⟩
      · rw [h1]; exact h.apart k l hk hl hkl
      · right; rw [h1]; intro e2
        have := ((h.own l hl).lt H e2.symm).2; omega
    · by_cases e2 : l = j
      · subst e2
        simp only [if_true, if_neg e]
        rcases hloc with h1 | ⟨H, h1, h2⟩
        · rw [h1]; exact h.apart k l hk hl hkl
        · rcases hv2 : (us k).ownBlock with _ | a
          · exact .inl rfl
          · right; rw [h1]; intro e3
            injection e3 with e3
            have := ((h.own k hk).lt a hv2).2; omega
      · simp only [if_neg e, if_neg e2]; exact h.apart k l hk hl hkl
end
theorem evH_eq (p : Nat) (x : Int) (hp : 1 ≤ p) (l : List Int) : evH p x l = ev l x % (p : Int) := by
  have h := evH_cg p x l
  have b := evH_bd p x hp l
  unfold Cg at h
  rw [← h, Int.emod_eq_of_lt b.1 b.2]
theorem gb_tr {a b c : World} {r : Option Nat} (h : a.grownBy b r) (k : b.grownBy c r) : a.grownBy c r :=
  ⟨k.os.trans h.os, k.tape.trans h.tape, k.output.trans h.output, Nat.le_trans h.size k.size, fun i hi hn => (k.block i (Nat.lt_of_lt_of_le hi h.size) hn).trans (h.block i hi hn)⟩
def nilU (_ : Nat) : Value := .slice none 0 0
theorem shCells_more (n : Nat) : shCells nilU (n + 1) = shCells nilU n ++ [.int .i64 ((n : Int) + 1), .slice none 0 0] := by
  show (List.range (2 * n + 1 + 1)).map _ = _
  rw [List.range_succ, List.range_succ, List.map_append, List.map_append, List.append_assoc]
  congr 1
  simp only [List.map_cons, List.map_nil, List.cons_append, List.nil_append]
  rw [if_pos (by omega), if_neg (by omega), show 2 * n / 2 = n by omega]
  rfl
def DealerPost (p need hold : Nat) (w : World) (e : Ending) (w' : World) : Prop :=
  ∃ D g cap, e = .returned (.pointer (some ⟨D, 0, none⟩)) ∧ w.heap.size ≤ D ∧ Blk w' D 138 #[.int .i64 (p : Int), .int .i64 (need : Int), .int .i64 (hold : Int), .slice (some ⟨g, 0, none⟩) hold cap] ∧
    DealT w' w.heap.size g cap hold nilU (fun _ => []) ∧ Below w.heap.size w w'
set_option maxRecDepth 100000 in
set_option maxHeartbeats 1000000 in
theorem s_newDealer (p need hold : Nat) (w : World) (h0 : 0 < hold) (h1 : hold ≤ 16) :
    Calls Tryz.prog 121 #[planV p need hold] w (DealerPost p need hold w) := by
  obtain ⟨j0, hj, hy0, hy1, hy2⟩ := info_parts infoS
  unfold planV
  have hA : Below w.heap.size w ((w.alloc (.cells #[.int .i64 (p : Int), .int .i64 (need : Int), .int .i64 (hold : Int)] 34)).alloc (.cells #[.int .i64 (p : Int), .int .i64 (need : Int), .int .i64 (hold : Int), .slice none 0 0] 138)) := ((Below.refl _ _).alloc (Nat.le_refl _) _).alloc (by simp) _
  have hD : Blk ((w.alloc (.cells #[.int .i64 (p : Int), .int .i64 (need : Int), .int .i64 (hold : Int)] 34)).alloc (.cells #[.int .i64 (p : Int), .int .i64 (need : Int), .int .i64 (hold : Int), .slice none 0 0] 138)) (w.heap.size + 1) 138 #[.int .i64 (p : Int), .int .i64 (need : Int), .int .i64 (hold : Int), .slice none 0 0] := by
    have := Blk.new (w.alloc (.cells #[.int .i64 (p : Int), .int .i64 (need : Int), .int .i64 (hold : Int)] 34)) 138 #[.int .i64 (p : Int), .int .i64 (need : Int), .int .i64 (hold : Int), .slice none 0 0]
    simpa using this
  have HA := Lib.hid hA
  have HD := Lib.hid hD
  clear hA hD
  go_enter Tryz.func121, Tryz.ntmps121
  go_wp2_with fail
  generalize (w.alloc (.cells #[.int .i64 (p : Int), .int .i64 (need : Int), .int .i64 (hold : Int)] 34)).alloc (.cells #[.int .i64 (p : Int), .int .i64 (need : Int), .int .i64 (hold : Int), .slice none 0 0] 138) = w2 at *
  go_loopw [10] (fun t wr => ∃ (k : Nat) (v : Value), k ≤ hold ∧ t = .int .i64 (k : Int) ∧ Blk wr (w.heap.size + 1) 138 #[.int .i64 (p : Int), .int .i64 (need : Int), .int .i64 (hold : Int), v] ∧ wr.ownsRow w.heap.size 49 2 v k (shCells nilU k) ∧ Below w.heap.size w wr) (fun t _ => hold - (intOf t).toNat)
  case atStart => exact ⟨0, .slice none 0 0, by omega, rfl, HD.out, World.ownsRow_nil _ _ _ _, HA.out⟩
  case round =>
    obtain ⟨k, v, hk, rfl, hbk, hown, hbl⟩ := hrel
    clear HA HD
    have hlt0 := hbk.lt
    by_cases hlt : k < hold
    · have qk : (k : Int) < (hold : Int) := by omega
      have c3 : wr.cell? ⟨w.heap.size + 1, 3, none⟩ = some v := hbk.cell 3
      have f3 : wr.frozen? ⟨w.heap.size + 1, 3, none⟩ = false := hbk.frozen 3
      have hne := own_blk_ne hown hbk (by decide)
      have HBK := Lib.hid hbk
      have HBL := Lib.hid hbl
      have HOWN := Lib.hid hown
      clear hbk hbl
      go_wp2_with (at_builtin; refine wpList_append_own _ rfl _ _ 41 rfl w.heap.size 49 j0 _ 2 32 Tryz.underlying41 hj hy0 hy1 hy2 rfl (by decide) _ _ _ rfl (hown.alloc _) ⟨wr.heap.size, 0, none⟩ 1 1 [.int .i64 ((k : Int) + 1), .slice none 0 0] rfl rfl (World.news_of_block (cs := #[.int .i64 ((k : Int) + 1), .slice none 0 0]) (t := 49) (fr := (0, 0)) (heap_alloc_new wr _)) (one2 rfl rfl) (by simp only [maxLen]; omega) (by omega) (by simp; omega) ?_)
      intro v5 w5 hown5 hgrow5 _
      have hg5 := grown_past hgrow5
      have hul : ∀ g, v.ownBlock = some g → w.heap.size ≤ g := fun g hg => (HOWN.out.lt g hg).1
      have hb5 := HBL.out.grown hg5 (by omega) hul
      have hbk5 := HBK.out.grown hg5 (Ne.symm hne)
      have hne5 := own_blk_ne hown5 hbk5 (by decide)
      have z3 := hbk5.lt
      have d3 : w5.cell? ⟨w.heap.size + 1, 3, none⟩ = some v := hbk5.cell 3
      have g3 : w5.frozen? ⟨w.heap.size + 1, 3, none⟩ = false := hbk5.frozen 3
      rw [← shCells_more] at hown5
      rcases id hown5.2 with ⟨rfl, h0'⟩ | ⟨g5, cap5, cur5, rfl, _⟩
      · omega
      have HO5 := Lib.hid hown5
      have HB5 := Lib.hid hb5
      have HK5 := Lib.hid hbk5
      clear hown5 hgrow5 hg5 hul hb5 hbk5 hown c3 f3
      go_wp2_with fail
      go_roundw
      case measure => simp [intOf]; omega
      case rel =>
        refine ⟨k + 1, .slice (some ⟨g5, 0, none⟩) (k + 1) cap5, by omega, by go_num, HK5.out.set_ 3 _, ?_, HB5.out.setCell (p := ⟨w.heap.size + 1, 3, none⟩) (by simp) _⟩
        exact HO5.out.kept (only_setCell (World.grownBy.refl w5 _) (p := ⟨w.heap.size + 1, 3, none⟩) (.inl rfl) _) (.inr hne5)
    · have hkn : k = hold := by omega
      subst hkn
      have HBK := Lib.hid hbk
      have HBL := Lib.hid hbl
      have HOWN := Lib.hid hown
      clear hbk hbl hown
      go_wp2_with fail
      go_ret
      rcases id HOWN.out.2 with ⟨rfl, h0'⟩ | ⟨g, cap, cur, rfl, _⟩
      · omega
      · exact ⟨w.heap.size + 1, g, cap, rfl, by omega, HBK.out, ⟨HOWN.out, fun i hi => World.ownsRow_nil _ _ _ _, fun i l _ _ _ => .inl rfl⟩, HBL.out⟩
set_option maxRecDepth 100000 in
set_option maxHeartbeats 4000000 in
theorem s_deal (p need hold D B g cap : Nat) (us : Nat → Value) (xs : Nat → List Int) (v : Value) (fs : List Int) (S : Nat → Prop) (w : World) (hp1 : 1 ≤ p) (h2 : p ≤ 1073741824) (h1 : hold ≤ 16)
    (hd : Blk w D 138 #[.int .i64 (p : Int), .int .i64 (need : Int), .int .i64 (hold : Int), .slice (some ⟨g, 0, none⟩) hold cap]) (hB : B ≤ D) (hcap : hold ≤ cap) (ht : DealT w B g cap hold us xs) (hgB : B ≤ g)
    (hv : IntsAt w S v fs) (hS : ∀ b, S b → b < w.heap.size ∧ b ≠ g ∧ ∀ k, k < hold → (us k).ownBlock ≠ some b) (hl : fs.length ≤ 1000) (hin : InF p fs) (hx : ∀ k, k < hold → (xs k).length ≤ 4000) :
    Calls Tryz.prog 122 #[.pointer (some ⟨D, 0, none⟩), v] w fun e w' => ∃ us', e = .returned (.tuple #[]) ∧ Blk w' D 138 #[.int .i64 (p : Int), .int .i64 (need : Int), .int .i64 (hold : Int), .slice (some ⟨g, 0, none⟩) hold cap] ∧
      DealT w' B g cap hold us' (fun k => xs k ++ [ev fs ((k : Int) + 1) % (p : Int)]) ∧ Below B w w' := by
  obtain ⟨i0, hi, hz0, hz1, hz2⟩ := info_parts infoI
  have hBw : B ≤ w.heap.size := Nat.le_of_lt (Nat.lt_of_le_of_lt hB hd.lt)
  have c3 : w.cell? ⟨D, 3, none⟩ = some (.slice (some ⟨g, 0, none⟩) hold cap) := hd.cell 3
  have HD := Lib.hid hd
  have HT := Lib.hid ht
  have HV := Lib.hid hv
  have HS := Lib.hid hS
  have HIN := Lib.hid hin
  have HX := Lib.hid hx
  clear hd ht hv hS hin hx
  obtain ⟨A, n, c, rfl, hn, hnc, hcc⟩ := id HV.out
  clear hn hnc hcc
  go_enter Tryz.func122, Tryz.ntmps122
  go_wp2_with fail
  go_loopw [11] (fun t wr => ∃ (k : Nat) (us' : Nat → Value), k ≤ hold ∧ t = .int .i64 (k : Int) ∧ Blk wr D 138 #[.int .i64 (p : Int), .int .i64 (need : Int), .int .i64 (hold : Int), .slice (some ⟨g, 0, none⟩) hold cap] ∧
    DealT wr B g cap hold us' (fun i => if i < k then xs i ++ [ev fs ((i : Int) + 1) % (p : Int)] else xs i) ∧ Below B w wr ∧ IntsAt wr S (.slice A n c) fs ∧ (∀ b, S b → ∀ i, i < hold → (us' i).ownBlock ≠ some b)) (fun t _ => hold - (intOf t).toNat)
  case atStart => exact ⟨0, us, by omega, rfl, HD.out, by simpa using HT.out, Below.refl _ _, HV.out, fun b hb i hi => (HS.out b hb).2.2 i hi⟩
  case round =>
    clear c3
    obtain ⟨k, us', hk, rfl, hdk, htk, hbl, hvk, hsk⟩ := hrel
    have hsz := hbl.size
    by_cases hlt : k < hold
    · have qk : (k : Int) < (hold : Int) := by omega
      have c3 : wr.cell? ⟨D, 3, none⟩ = some (.slice (some ⟨g, 0, none⟩) hold cap) := hdk.cell 3
      have c0 : wr.cell? ⟨D, 0, none⟩ = some (.int .i64 (p : Int)) := hdk.cell 0
      have m0 : wr.cell? ⟨g, k * 2, none⟩ = some (.int .i64 ((k : Int) + 1)) := by rw [htk.row.cellAt _ (by omega), Nat.mul_comm, shCells_h us' hold k hlt]
      have m1 : wr.cell? ⟨g, k * 2 + 1, none⟩ = some (us' k) := by rw [htk.row.cellAt _ (by omega), Nat.mul_comm, shCells_v us' hold k hlt]
      have mf : wr.frozen? ⟨g, k * 2 + 1, none⟩ = false := htk.row.frozenAt _
      have hok := htk.own k hlt
      simp only [if_neg (Nat.lt_irrefl k)] at hok
      have zD := hdk.lt
      have zg : g < wr.heap.size := (htk.row.lt g rfl).2
      have hev : ∀ W, Below wr.heap.size wr W → Calls Tryz.prog 97 #[.int .i64 (p : Int), .slice A n c, .int .i64 ((k : Int) + 1)] W (IntB (ev fs ((k : Int) + 1) % (p : Int)) W) := fun W hW =>
        p_Eval p _ _ fs S W hp1 h2 (by omega) (by omega) (hvk.keep fun b hb => hW.block b (by have := (HS.out b hb).1; omega)) (fun b hb => by have := (HS.out b hb).1; have := hW.size; omega) (by omega) HIN.out
      have hlen := HX.out k hlt
      obtain ⟨y, hy⟩ : ∃ y, ev fs ((k : Int) + 1) % (p : Int) = y := ⟨_, rfl⟩
      rw [hy] at hev
      obtain ⟨u, hu⟩ : ∃ u, us' k = u := ⟨_, rfl⟩
      rw [hu] at m1 hok
      obtain ⟨len, hle⟩ : ∃ len, (xs k).length = len := ⟨_, rfl⟩
      rw [hle] at hok hlen
      have mk : ∀ W, Below wr.heap.size wr W → W.cell? ⟨D, 0, none⟩ = some (.int .i64 (p : Int)) ∧ W.cell? ⟨g, k * 2, none⟩ = some (.int .i64 ((k : Int) + 1)) ∧ W.cell? ⟨g, k * 2 + 1, none⟩ = some u ∧ W.frozen? ⟨g, k * 2 + 1, none⟩ = false ∧ W.ownsRow B 3 1 u len ((xs k).map (Value.int .i64)) := fun W hW =>
        ⟨(hW.cell (p := ⟨D, 0, none⟩) zD).trans c0, (hW.cell (p := ⟨g, k * 2, none⟩) zg).trans m0, (hW.cell (p := ⟨g, k * 2 + 1, none⟩) zg).trans m1, (hW.frozen (p := ⟨g, k * 2 + 1, none⟩) zg).trans mf, hok.kept (only_of_below hW none) (by cases u.ownBlock <;> simp)⟩
      have MK := Lib.hid mk
      have HEV := Lib.hid hev
      have HY := Lib.hid hy
      have HU := Lib.hid hu
      have HLE := Lib.hid hle
      have HTK := Lib.hid htk
      have HDK := Lib.hid hdk
      have HBL := Lib.hid hbl
      have HVK := Lib.hid hvk
      have HSK := Lib.hid hsk
      have hfar : u.ownBlock ≠ some g := by rw [← hu]; exact htk.far hlt
      have hdu : u.ownBlock ≠ some D := own_blk_ne hok hdk (by decide)
      clear mk hev hy hu hle htk hdk hbl hvk hsk hok
      go_wp2_with fail
      go_region_law (first
        | (refine step_append_lies _ (by rfl) _ _ _ (by rfl) B 3 i0 _ 1 8 Tryz.underlying24 hi hz0 hz1 hz2 rfl (by omega) u len _ (by rfl) (E4.out.alloc _) ⟨wk.heap.size, 0, none⟩ 1 1 [.int .i64 y] (by rfl) (by rfl) (cell_one_new _ _ _) (ints_oneCell .i64 [_]) (by omega) (by simp only [maxLen]; omega) (by omega) (by simp; omega) (wk.heap.size + 1) (by simp) ?_; intro gg cap4 w4 hown4 hgrow4 hat4 hlt4; have c4 : w4.cell? ⟨g, k * 2 + 1, none⟩ = some u := (hgrow4.cell_far _ (by simp; omega) (Ne.symm hfar)).trans (K0.out _); have f4 : w4.frozen? ⟨g, k * 2 + 1, none⟩ = false := (hgrow4.frozen_far _ (by simp; omega) (Ne.symm hfar)).trans (K1.out _))
        | (go_simp; go_at_call 97; ((with_reducible refine (HEV.out _ ((Below.refl _ _).drew)).mono ?_); rintro e wk ⟨rfl, hbk⟩; have hbk' : Below wr.heap.size wr wk := ((Below.refl wr.heap.size wr).drew).trans hbk; have hskk := hbk'.size; obtain ⟨e0, e1, e2, e3, e4⟩ := MK.out wk hbk'; have zgk : g < wk.heap.size := (by omega); have k0 : ∀ o : Obj, (wk.alloc o).cell? ⟨g, k * 2 + 1, none⟩ = some u := (fun o => (((Below.refl wk.heap.size wk).alloc (Nat.le_refl _) o).cell (p := ⟨g, k * 2 + 1, none⟩) zgk).trans e2); have k1 : ∀ o : Obj, (wk.alloc o).frozen? ⟨g, k * 2 + 1, none⟩ = false := (fun o => (((Below.refl wk.heap.size wk).alloc (Nat.le_refl _) o).frozen (p := ⟨g, k * 2 + 1, none⟩) zgk).trans e3); have K0 := Lib.hid k0; have K1 := Lib.hid k1; have E4 := Lib.hid e4; have HBK := Lib.hid hbk'; clear e4 hbk hbk'; go_simp)))
      all_goals
        have hg1 : wk.grownBy w4 u.ownBlock := grown_past hgrow4
        have hgT : wr.grownBy w4 u.ownBlock := gb_tr (only_of_below HBK.out _) hg1
        have hul : ∀ b, u.ownBlock = some b → B ≤ b := fun b hb => (E4.out.lt b hb).1
        have hb4 : Below B w w4 := HBL.out.grown hgT (by omega) hul
        have hd4 := HDK.out.grown hgT (Ne.symm hdu)
        have hput := HTK.out.put (w' := w4) hlt (v' := .slice (some ⟨gg, 0, none⟩) (len + 1) cap4) (y := y) (by rw [HU.out]; exact hgT) (by simp only [if_neg (Nat.lt_irrefl k)]; rw [HLE.out]; exact hown4) (by
          rw [HU.out]
          rcases hat4 with h | h
          · left; rw [h]; rfl
          · right; exact ⟨gg, rfl, by omega⟩) rfl
        have HPUT := Lib.hid hput
        have HB4 := Lib.hid hb4
        have HD4 := Lib.hid hd4
        have HG4 := Lib.hid hgT
        have HAT := Lib.hid hat4
        clear hgrow4 hown4 hg1 hgT hul hb4 hd4 hput hat4
        go_wp2_with fail
        go_roundw
        case measure => simp [intOf]; omega
        case rel =>
          refine ⟨k + 1, fun i => if i = k then .slice (some ⟨gg, 0, none⟩) (len + 1) cap4 else us' i, by omega, by go_num, HD4.out.far (p := ⟨g, k * 2 + 1, none⟩) ?hne _, ?hdt, HB4.out.setCell (p := ⟨g, k * 2 + 1, none⟩) hgB _, ?hiv, ?hsv⟩
          case hdt =>
            have h := HPUT.out
            rw [Nat.mul_comm 2 k] at h
            refine ⟨h.row, fun i hi => ?_, h.apart⟩
            have := h.own i hi
            by_cases e : i = k
            · subst e
              simp only [if_true, if_neg (Nat.lt_irrefl i)] at this
              simp only [if_true, if_pos (Nat.lt_succ_self i)]
              rw [HY.out]; exact this
            · simp only [if_neg e] at this ⊢
              by_cases e2 : i < k
              · simp only [if_pos e2] at this; simp only [if_pos (Nat.lt_succ_of_lt e2)]; exact this
              · simp only [if_neg e2] at this; simp only [if_neg (show ¬ i < k + 1 by omega)]; exact this
          case hne =>
            have := own_blk_ne HTK.out.row HDK.out (by decide)
            intro e; exact this (by rw [e]; rfl)
          case hiv =>
            have hv4 : IntsAt w4 S (.slice A n c) fs := HVK.out.keep fun b hb => HG4.out.block b (by have := (HS.out b hb).1; omega) (fun e => HSK.out b hb k hlt (by rw [HU.out]; exact e.symm))
            exact hv4.keep fun b hb => Below.heap_setCell _ _ _ _ (fun e => (HS.out b hb).2.1 e)
          case hsv =>
            intro b hb i hi
            by_cases e : i = k
            · simp only [if_pos e]
              intro e2
              injection e2 with e2
              have e3 : gg = b := e2
              rcases HAT.out with h | h
              · exact HSK.out b hb k hlt (by rw [HU.out, h]; exact congrArg some e2)
              · have := (HS.out b hb).1; omega
            · simp only [if_neg e]; exact HSK.out b hb i hi
    · have hkn : k = hold := by omega
      subst hkn
      have HTK := Lib.hid htk
      have HDK := Lib.hid hdk
      have HBL := Lib.hid hbl
      clear htk hdk hbl hvk hsk
      go_wp2_with fail
      go_end0
      refine ⟨us', rfl, HDK.out, ?_, HBL.out⟩
      refine ⟨HTK.out.row, fun i hi => ?_, HTK.out.apart⟩
      have := HTK.out.own i hi
      simpa [hi] using this
end Go.Proofs.YtjfphobfikadlaaGreatDoor
namespace Go.Proofs.YtjfphobfikadlaaGreatDoor
open Go.RowKit Num

/-- How many bytes one element holds. -/
def widP (p : Nat) : Nat := if p < 256 then 0 else if p < 65536 then 1 else if p < 16777216 then 2 else 3
theorem widP_le (p : Nat) : widP p ≤ 3 := by
  unfold widP; repeat' split
  all_goals omega
/-- How many elements sixteen bytes are. -/
def cntP (p : Nat) : Nat := if widP p = 0 then 128 else if widP p = 1 then 16 else if widP p = 2 then 8 else 6
theorem cntP_le (p : Nat) : cntP p ≤ 128 := by
  unfold cntP; repeat' split
  all_goals omega
set_option maxHeartbeats 1000000 in
theorem p_Width (p : Nat) (w : World) (h2 : p ≤ 1073741824) :
    Calls Tryz.prog 119 #[.int .i64 (p : Int)] w fun e w' => e = .returned (.int .i64 ((widP p : Nat) : Int)) ∧ w = w' := by
  obtain ⟨v, hv⟩ : ∃ v, widP p = v := ⟨_, rfl⟩
  have hc : (v = 0 ∧ p < 256) ∨ (v = 1 ∧ 256 ≤ p ∧ p < 65536) ∨ (v = 2 ∧ 65536 ≤ p ∧ p < 16777216) ∨ (v = 3 ∧ 16777216 ≤ p) := by
    unfold widP at hv; repeat' split at hv
    all_goals omega
  rw [hv]
  clear hv
  go_enter Tryz.func119, Tryz.ntmps119
  go_wp2_with fail
  go_loopw [3, 4] (fun x t wr => ∃ k : Nat, k ≤ v ∧ x = .int .i64 (k : Int) ∧ t = .int .i64 ((256 ^ (k + 1) : Nat) : Int) ∧ w = wr) (fun x _ _ => 3 - (intOf x).toNat)
  case atStart => exact ⟨0, by omega, rfl, rfl, rfl⟩
  case round =>
    obtain ⟨k, hk, rfl, rfl, rfl⟩ := hrel
    rcases (show (k = 0 ∧ v = 0) ∨ (k = 0 ∧ 0 < v) ∨ (k = 1 ∧ v = 1) ∨ (k = 1 ∧ 1 < v) ∨ (k = 2 ∧ v = 2) ∨ (k = 2 ∧ 2 < v) ∨ (k = 3 ∧ v = 3) by omega) with ⟨rfl, rfl⟩ | ⟨rfl, hv⟩ | ⟨rfl, rfl⟩ | ⟨rfl, hv⟩ | ⟨rfl, rfl⟩ | ⟨rfl, hv⟩ | ⟨rfl, rfl⟩
    · have t : decide ((256 : Int) ≤ (p : Int)) = false := decide_eq_false (by omega)
      go_wp2_with fail
      go_ret
      exact ⟨rfl, rfl⟩
    · have t : decide ((256 : Int) ≤ (p : Int)) = true := decide_eq_true (by omega)
      go_wp2_with fail
      go_roundw
      case measure => simp [intOf]
      case rel => exact ⟨1, by omega, rfl, rfl, trivial⟩
    · have t : decide ((65536 : Int) ≤ (p : Int)) = false := decide_eq_false (by omega)
      go_wp2_with fail
      go_ret
      exact ⟨rfl, rfl⟩
    · have t : decide ((65536 : Int) ≤ (p : Int)) = true := decide_eq_true (by omega)
      go_wp2_with fail
      go_roundw
      case measure => simp [intOf]
      case rel => exact ⟨2, by omega, rfl, rfl, trivial⟩
    · have t : decide ((16777216 : Int) ≤ (p : Int)) = false := decide_eq_false (by omega)
      go_wp2_with fail
      go_ret
      exact ⟨rfl, rfl⟩
    · have t : decide ((16777216 : Int) ≤ (p : Int)) = true := decide_eq_true (by omega)
      go_wp2_with fail
      go_roundw
      case measure => simp [intOf]
      case rel => exact ⟨3, by omega, rfl, rfl, trivial⟩
    · go_wp2_with fail
      go_ret
      exact ⟨rfl, rfl⟩
def IntBelowM (n : Int) (w : World) (e : Ending) (w' : World) : Prop := e = .returned (.int .i64 n) ∧ Below w.heap.size w w'
set_option maxHeartbeats 1000000 in
theorem p_Count (p : Nat) (w : World) (h2 : p ≤ 1073741824) :
    Calls Tryz.prog 70 #[.int .i64 (p : Int), .int .i64 16] w (IntBelowM ((cntP p : Nat) : Int) w) := by
  have hw := fun W => p_Width p W h2
  have hle := widP_le p
  unfold cntP
  obtain ⟨v, hv⟩ : ∃ v, widP p = v := ⟨_, rfl⟩
  rw [hv] at hw hle ⊢
  have HW := Lib.hid hw
  clear hw hv
  rcases (show v = 0 ∨ v = 1 ∨ v = 2 ∨ v = 3 by omega) with rfl | rfl | rfl | rfl
  · go_enter Tryz.func70, Tryz.ntmps70
    go_wp2_with fail
    refine (HW.out _).mono ?_
    rintro e w' ⟨rfl, rfl⟩
    go_wp2_with fail
    go_ret
    exact ⟨rfl, Below.refl _ _⟩
  all_goals
    go_enter Tryz.func70, Tryz.ntmps70
    go_wp2_with fail
    refine (HW.out _).mono ?_
    rintro e w' ⟨rfl, rfl⟩
    go_wp2_with fail
    go_region
    all_goals
      go_wp2_with fail
      go_ret
      exact ⟨rfl, (Below.refl _ _).drew⟩
/-- How many random numbers a circle needs. -/
theorem c_Random (p need hold count : Nat) (w : World) (n2 : 1 ≤ need) (n3 : need ≤ 16) (hc : count ≤ 1000000) :
    Calls Tryz.prog 69 #[planV p need hold, .int .i64 (count : Int)] w fun e w' => e = .returned (.int .i64 ((count * (need - 1) : Nat) : Int)) ∧ Below w.heap.size w w' := by
  unfold planV
  have e : (count : Int) * ((need : Int) - 1) = ((count * (need - 1) : Nat) : Int) := by rw [Int.natCast_mul, Int.natCast_sub n2]; rfl
  have hb : count * (need - 1) ≤ 1000000 * 16 := Nat.mul_le_mul hc (by omega)
  have b0 : (0 : Int) ≤ (count : Int) * ((need : Int) - 1) := by omega
  have b1 : (count : Int) * ((need : Int) - 1) ≤ 16000000 := by omega
  have E := Lib.hid e
  clear e hb
  go_enter Tryz.func69, Tryz.ntmps69
  go_wp2_with fail
  go_ret
  exact ⟨ret_int E.out, (Below.refl _ _).alloc (Nat.le_refl _) _⟩
set_option maxHeartbeats 1000000 in
theorem f_Needs (p need hold : Nat) (w : World) (h2 : p ≤ 1073741824) (n2 : 1 ≤ need) (n3 : need ≤ 16) :
    Calls Tryz.prog 24 #[planV p need hold] w fun e w' => e = .returned (.int .i64 ((cntP p * (need - 1) : Nat) : Int)) ∧ Below w.heap.size w w' := by
  have hcl := cntP_le p
  have hc := fun W => p_Count p W h2
  have hr := fun W => c_Random p need hold (cntP p) W n2 n3 (by omega)
  have HC := Lib.hid hc
  have HR := Lib.hid hr
  clear hc hr
  unfold planV at *
  generalize cntP p = v at *
  have p1 : (w.alloc (.cells #[.int .i64 (p : Int), .int .i64 (need : Int), .int .i64 (hold : Int)] 34)).cell? ⟨w.heap.size, 0, none⟩ = some (.int .i64 (p : Int)) := by rw [World.cell?_alloc_new]; rfl
  have p2 : (w.alloc (.cells #[.int .i64 (p : Int), .int .i64 (need : Int), .int .i64 (hold : Int)] 34)).cell? ⟨w.heap.size, 1, none⟩ = some (.int .i64 (need : Int)) := by rw [World.cell?_alloc_new]; rfl
  have p3 : (w.alloc (.cells #[.int .i64 (p : Int), .int .i64 (need : Int), .int .i64 (hold : Int)] 34)).cell? ⟨w.heap.size, 2, none⟩ = some (.int .i64 (hold : Int)) := by rw [World.cell?_alloc_new]; rfl
  have HB := Lib.hid ((Below.refl w.heap.size w).alloc (Nat.le_refl _) (.cells #[.int .i64 (p : Int), .int .i64 (need : Int), .int .i64 (hold : Int)] 34))
  go_enter Tryz.func24, Tryz.ntmps24
  go_wp2_with fail
  generalize w.alloc (.cells #[.int .i64 (p : Int), .int .i64 (need : Int), .int .i64 (hold : Int)] 34) = w1 at *
  have hba := HB.out
  go_region_held3 (fun W => W.cell? ⟨w.heap.size, 0, none⟩ = some (.int .i64 (p : Int)) ∧ W.cell? ⟨w.heap.size, 1, none⟩ = some (.int .i64 (need : Int)) ∧ W.cell? ⟨w.heap.size, 2, none⟩ = some (.int .i64 (hold : Int)) ∧ Below w.heap.size w W)
    (first
      | exact ⟨p1, p2, p3, hba.drew⟩
      | (go_split_ands
         refine ⟨?_, ?_, ?_, ?_⟩
         · (rw [hbk.cell (World.block_lt_of_cell? _ _ ‹_›)]; assumption)
         · (rw [hbk.cell (World.block_lt_of_cell? _ _ ‹_›)]; assumption)
         · (rw [hbk.cell (World.block_lt_of_cell? _ _ ‹_›)]; assumption)
         · exact Below.trans ‹Below w.heap.size w _› (hbk.mono (‹Below w.heap.size w _›).size)))
    (first
      | (go_at_call 70; ((with_reducible refine (HC.out _).mono ?_); rintro e wk ⟨rfl, hbk⟩))
      | (go_at_call 69; ((with_reducible refine (HR.out _).mono ?_); rintro e wk ⟨rfl, hbk⟩)))
  all_goals
    go_split_ands
    have hbf : Below w.heap.size w wk := by assumption
    go_wp2_with fail
    go_ret
    exact ⟨rfl, hbf⟩
end Go.Proofs.YtjfphobfikadlaaGreatDoor
namespace Go.Proofs.YtjfphobfikadlaaGreatDoor
open Go.RowKit Num

theorem DealT.sh {w : World} {B g cap hold p k : Nat} {us : Nat → Value} {sec rnd : List Int} (h : DealT w B g cap hold us (fun j => (List.range sec.length).map (dealV p k (j + 1) sec rnd))) : OwnSh w B (.slice (some ⟨g, 0, none⟩) hold cap) (dealL p k sec rnd hold) := by
  have hl : (dealL p k sec rnd hold).length = hold := by simp [dealL]
  refine ⟨shCells us hold, by rw [hl]; exact h.row, fun j hj => ?_⟩
  rw [hl] at hj
  have hat : shAt (dealL p k sec rnd hold) j = (((j + 1 : Nat) : Int), (List.range sec.length).map (dealV p k (j + 1) sec rnd)) := by
    unfold dealL shAt; rw [List.getD_eq_getElem?_getD, List.getElem?_map, List.getElem?_range hj]; rfl
  rw [hat]
  exact ⟨us j, by rw [shCells_h us hold j hj]; rfl, shCells_v us hold j hj, h.own j hj⟩
theorem DealT.mono {w : World} {B B' g cap hold : Nat} {us : Nat → Value} {xs : Nat → List Int} (h : DealT w B g cap hold us xs) (hB : B' ≤ B) : DealT w B' g cap hold us xs :=
  ⟨own_mono h.row hB, fun k hk => own_mono (h.own k hk) hB, h.apart⟩
set_option maxRecDepth 100000 in
set_option maxHeartbeats 4000000 in
theorem s_Deal (p k hold : Nat) (sec rnd : List Int) (vs vr : Value) (w : World) (hw : BasesOk w) (hp : Prm p) (h2 : p ≤ 1073741824) (n2 : k + 1 ≤ hold) (n3 : hold ≤ 16) (n4 : hold < p)
    (hs : IntsAt w (Old w) vs sec) (hr : IntsAt w (Old w) vr rnd) (fs : InF p sec) (fr : InF p rnd) (ls : sec.length ≤ 2048) (lr : rnd.length = sec.length * k) :
    Calls Tryz.prog 68 #[planV p (k + 1) hold, vs, vr] w (DealPost p k hold sec rnd w) := by
  obtain ⟨i0, hi, hz0, hz1, hz2⟩ := info_parts infoI
  have hp1 : 1 ≤ p := by omega
  have lr2 : rnd.length ≤ 1000000 := by
    have : sec.length * k ≤ 2048 * 16 := Nat.mul_le_mul ls (by omega)
    omega
  obtain ⟨As, ns, cs, rfl, hns, hcs, hcells⟩ := id hs
  obtain ⟨Ar, nr, cr, rfl, hnr, hcr, hcellr⟩ := id hr
  have hrr := hr.reads (B := w.heap.size) (fun b hb => hb)
  have HNS := Lib.hid hns
  have HNR := Lib.hid hnr
  have HS := Lib.hid hs
  have HR := Lib.hid hr
  have HRR := Lib.hid hrr
  have LR := Lib.hid lr
  have lns : ns ≤ 2048 := by omega
  have lnr : nr ≤ 1000000 := by omega
  have hnn : nr = ns * k := by rw [hnr, lr, ← hns]
  have HNN := Lib.hid hnn
  have hvalid := fun W (hW : BasesOk W) => s_Valid p (k + 1) hold W hW hp h2 (by omega) n2 n3 n4
  have hes := fun W (hW : Below w.heap.size w W) => s_elements p (k + 1) hold (.slice As ns cs) sec _ W (hs.below hW) (fun b hb => Nat.lt_of_lt_of_le hb hW.size) (by omega) fs
  have her := fun W (hW : Below w.heap.size w W) => s_elements p (k + 1) hold (.slice Ar nr cr) rnd _ W (hr.below hW) (fun b hb => Nat.lt_of_lt_of_le hb hW.size) (by omega) fr
  have hrd := fun W => c_Random p (k + 1) hold ns W (by omega) (by omega) (by omega)
  have hnd := fun W => s_newDealer p (k + 1) hold W (by omega) n3
  unfold planV at hrd hnd
  rw [show ((k + 1 : Nat) : Int) = (k : Int) + 1 from rfl] at hvalid hes her hrd hnd
  rw [show k + 1 - 1 = k from rfl, ← hnn] at hrd
  unfold DealerPost at hnd
  rw [show ((k + 1 : Nat) : Int) = (k : Int) + 1 from rfl] at hnd
  have HVA := Lib.hid hvalid
  have HES := Lib.hid hes
  have HER := Lib.hid her
  have HRD := Lib.hid hrd
  have HND := Lib.hid hnd
  have hba := (Below.refl w.heap.size w).alloc (Nat.le_refl _) (.cells #[.int .i64 (p : Int), .int .i64 ((k : Int) + 1), .int .i64 (hold : Int)] 34)
  have kp : Blk (w.alloc (.cells #[.int .i64 (p : Int), .int .i64 ((k : Int) + 1), .int .i64 (hold : Int)] 34)) w.heap.size 34 #[.int .i64 (p : Int), .int .i64 ((k : Int) + 1), .int .i64 (hold : Int)] := Blk.new w _ _
  have hwa := hw.alloc (.cells #[.int .i64 (p : Int), .int .i64 ((k : Int) + 1), .int .i64 (hold : Int)] 34)
  have HBA := Lib.hid hba
  have KP := Lib.hid kp
  have HWA := Lib.hid hwa
  clear hns hnr hs hr hrr lr hvalid hes her hrd hnd hba kp hwa hnn hcells hcellr hw
  have epl : planV p (k + 1) hold = .agg #[.int .i64 (p : Int), .int .i64 ((k : Int) + 1), .int .i64 (hold : Int)] := rfl
  rw [epl]
  go_enter Tryz.func68, Tryz.ntmps68
  go_wp2_with fail
  refine (HVA.out _ HWA.out).mono ?_
  rintro e w1 ⟨rfl, hb1⟩
  have kp1 := KP.out.below hb1 KP.out.lt
  have hw1 := HBA.out.trans (hb1.mono HBA.out.size)
  have s0 : w1.cell? ⟨w.heap.size, 0, none⟩ = some (.int .i64 (p : Int)) := kp1.cell 0
  have s1 : w1.cell? ⟨w.heap.size, 1, none⟩ = some (.int .i64 ((k : Int) + 1)) := kp1.cell 1
  have s2 : w1.cell? ⟨w.heap.size, 2, none⟩ = some (.int .i64 (hold : Int)) := kp1.cell 2
  have KP1 := Lib.hid kp1
  have HW1 := Lib.hid hw1
  clear kp1 hw1 hb1 epl
  go_wp2_with fail
  refine (HES.out _ HW1.out).mono ?_
  rintro e w2 ⟨rfl, hb2⟩
  have kp2 := KP1.out.below hb2 KP1.out.lt
  have hw2 := HW1.out.trans (hb2.mono HW1.out.size)
  have t0 : w2.cell? ⟨w.heap.size, 0, none⟩ = some (.int .i64 (p : Int)) := kp2.cell 0
  have t1 : w2.cell? ⟨w.heap.size, 1, none⟩ = some (.int .i64 ((k : Int) + 1)) := kp2.cell 1
  have t2 : w2.cell? ⟨w.heap.size, 2, none⟩ = some (.int .i64 (hold : Int)) := kp2.cell 2
  have KP2 := Lib.hid kp2
  have HW2 := Lib.hid hw2
  clear kp2 hw2 hb2 s0 s1 s2
  go_wp2_with fail
  refine (HER.out _ HW2.out).mono ?_
  rintro e w3 ⟨rfl, hb3⟩
  have kp3 := KP2.out.below hb3 KP2.out.lt
  have hw3 := HW2.out.trans (hb3.mono HW2.out.size)
  have s0 : w3.cell? ⟨w.heap.size, 0, none⟩ = some (.int .i64 (p : Int)) := kp3.cell 0
  have s1 : w3.cell? ⟨w.heap.size, 1, none⟩ = some (.int .i64 ((k : Int) + 1)) := kp3.cell 1
  have s2 : w3.cell? ⟨w.heap.size, 2, none⟩ = some (.int .i64 (hold : Int)) := kp3.cell 2
  have KP3 := Lib.hid kp3
  have HW3 := Lib.hid hw3
  clear kp3 hw3 hb3 t0 t1 t2
  go_wp2_with fail
  refine (HRD.out _).mono ?_
  rintro e w4 ⟨rfl, hb4⟩
  have kp4 := KP3.out.below hb4 KP3.out.lt
  have hw4 := HW3.out.trans (hb4.mono HW3.out.size)
  have t0 : w4.cell? ⟨w.heap.size, 0, none⟩ = some (.int .i64 (p : Int)) := kp4.cell 0
  have t1 : w4.cell? ⟨w.heap.size, 1, none⟩ = some (.int .i64 ((k : Int) + 1)) := kp4.cell 1
  have t2 : w4.cell? ⟨w.heap.size, 2, none⟩ = some (.int .i64 (hold : Int)) := kp4.cell 2
  have KP4 := Lib.hid kp4
  have HW4 := Lib.hid hw4
  clear kp4 hw4 hb4 s0 s1 s2
  go_wp2_with fail
  refine (HND.out _).mono ?_
  rintro e w5 ⟨D, g, cap, rfl, hD, hbd, hdt, hb5⟩
  have z4 := KP4.out.lt
  have kp5 := KP4.out.below hb5 KP4.out.lt
  have hw5 := HW4.out.trans (hb5.mono HW4.out.size)
  have s1 : w5.cell? ⟨w.heap.size, 1, none⟩ = some (.int .i64 ((k : Int) + 1)) := kp5.cell 1
  have hsz4 := HW4.out.size
  have HBD := Lib.hid hbd
  have HDT := Lib.hid hdt
  have HW5 := Lib.hid hw5
  have HB5 := Lib.hid hb5
  clear kp5 hw5 hb5 hbd hdt t0 t1 t2
  have hgB : w4.heap.size ≤ g := (HDT.out.row.lt g rfl).1
  have hcap : hold ≤ cap := by
    rcases id HDT.out.row.2 with ⟨h, _⟩ | ⟨g', cap', cur, h, _, _, h3, _⟩
    · cases h
    · injection h with _ _ e3; omega
  go_wp2_with fail
  obtain ⟨B, hBe⟩ : ∃ B, w4.heap.size = B := ⟨_, rfl⟩
  rw [hBe] at hD hgB hsz4 z4 HDT
  have hw5s := HB5.out.size
  rw [hBe] at hw5s
  clear hBe HB5 KP4 KP3 KP2 KP1 HW4 HW3 HW2 HW1 KP HVA HES HER HRD HND HBA HWA s1
  go_loopw [47] (fun i wr => ∃ (t : Nat) (us : Nat → Value), t ≤ ns ∧ i = .int .i64 (t : Int) ∧ Blk wr D 138 #[.int .i64 (p : Int), .int .i64 ((k : Int) + 1), .int .i64 (hold : Int), .slice (some ⟨g, 0, none⟩) hold cap] ∧
    DealT wr B g cap hold us (fun j => (List.range t).map (dealV p k (j + 1) sec rnd)) ∧ Below w.heap.size w wr) (fun i _ => ns - (intOf i).toNat)
  case atStart => exact ⟨0, nilU, by omega, rfl, HBD.out, HDT.out, HW5.out⟩
  case round =>
    clear HBD HDT HW5
    obtain ⟨t, us, ht, rfl, hbd, hdt, hbl⟩ := hrel
    have hzz := hbl.size
    have zD := hbd.lt
    have zg := (hdt.row.lt g rfl).2
    by_cases htn : t < ns
    · have hsr := HS.out.below hbl
      obtain ⟨A', n', c', hv, e2, e3, hcs'⟩ := hsr
      injection hv with v1 v2 v3
      subst v1 v2 v3
      obtain ⟨b, off, rfl, hSo, hcell⟩ := hcs' (by omega)
      have ck := hcell t htn
      have hle : (t + 1) * k ≤ ns * k := Nat.mul_le_mul_right k htn
      have hle2 : t * k ≤ (t + 1) * k := Nat.mul_le_mul_right k (by omega)
      have g1 : (t : Int) * (k : Int) = ((t * k : Nat) : Int) := (Int.natCast_mul t k).symm
      have g2 : ((t : Int) + 1) * (k : Int) = (((t + 1) * k : Nat) : Int) := by rw [Int.natCast_mul]; rfl
      have hnn := HNN.out
      have m0 : 0 ≤ (t : Int) * (k : Int) := by omega
      have m1 : (t : Int) * (k : Int) ≤ ((t : Int) + 1) * (k : Int) := by omega
      have m2 : ((t : Int) + 1) * (k : Int) ≤ (cr : Int) := by omega
      have m3 : ((t : Int) * (k : Int)).toNat = t * k := by omega
      have m4 : (((t : Int) + 1) * (k : Int)).toNat = (t + 1) * k := by omega
      have m5 : ((t : Int) + 1) * (k : Int) ≤ 1000000 := by omega
      have q1 : (t : Int) < (ns : Int) := by omega
      have HBD := Lib.hid hbd
      have HDT := Lib.hid hdt
      have HBL := Lib.hid hbl
      have hsl := fun (W : World) => run_slice_lohi (P := Tryz.prog) W 24 3 i0 1 Tryz.underlying24 hi hz1 Ar nr cr (t * k) ((t + 1) * k) hle2 (by omega) ((t : Int) * (k : Int)) (((t : Int) + 1) * (k : Int)) g1 g2
      have hdk : (t + 1) * k - t * k = k := by rw [Nat.add_mul, Nat.one_mul, Nat.add_sub_cancel_left]
      simp only [hdk] at hsl
      obtain ⟨x, hx⟩ : ∃ x, sec.getD t 0 = x := ⟨_, rfl⟩
      obtain ⟨R, hR⟩ : ∃ R, (rnd.drop (t * k)).take k = R := ⟨_, rfl⟩
      rw [hx] at ck
      have hrd : Reads wr w.heap.size 1 (subA Ar cr (t * k) 1) k (R.map (Value.int .i64)) := by
        have := (HRR.out.below HBL.out).sub (lo := t * k) (hg := (t + 1) * k) (cap := cr) hle2 (by omega) hcr
        rw [hdk, Nat.mul_one, Nat.mul_one, ← List.map_drop, ← List.map_take, hR] at this
        exact this
      have hRl : R.length = k := by have := hrd.1; simpa using this
      have hval : ∀ j : Nat, dealV p k (j + 1) sec rnd t = ev (x :: R) ((j : Int) + 1) % (p : Int) := fun j => by unfold dealV; rw [hx, hR, evH_eq _ _ hp1]; rfl
      have hin : InF p (x :: R) := by
        intro i hi
        cases i with
        | zero => have := fs t (by have := HNS.out; omega); rw [hx] at this; exact this
        | succ i =>
          have hi' : i < R.length := by simpa using hi
          have h3 := LR.out
          have h5 := HNS.out
          have h4 := HNN.out
          have h6 := HNR.out
          have := fr (t * k + i) (by omega)
          have e : (x :: R).getD (i + 1) 0 = rnd.getD (t * k + i) 0 := by
            rw [List.getD_eq_getElem?_getD, List.getElem?_cons_succ, ← hR, List.getElem?_take, if_pos (by omega), List.getElem?_drop, ← List.getD_eq_getElem?_getD]
          rwa [e]
      have HRD := Lib.hid hrd
      have HVAL := Lib.hid hval
      have HIN := Lib.hid hin
      have kl : k ≤ 16 := by omega
      have lR : (x :: R).length ≤ 1000 := by simp; omega
      clear hbd hdt hbl hcell hcs' g1 g2 hnn e2 e3 hdk hrd hx hR hval hin
      go_wp2_with (at_builtin; refine wpList_append_any _ rfl (.tmp 54) (.tmp 63) _ rfl wr.heap.size 3 i0 _ 1 8 Tryz.underlying24 hi hz0 hz1 hz2 rfl (by omega) (.slice (some ⟨wr.heap.size, 0, none⟩) 1 1) 1 [.int .i64 x] rfl (own_built wr wr.heap.size 3 _ (Nat.le_refl _)) w.heap.size (subA Ar cr (t * k) 1) k (cr - t * k) (R.map (Value.int .i64)) rfl (HRD.out.alloc (by omega) _) (ints_oneCell .i64 _) (by simp only [maxLen]; omega) (by omega) (by simp) ?_)
      intro v' w6 hown' hgrow hloc
      have hg0 : wr.grownBy w6 (some wr.heap.size) := ⟨hgrow.os, hgrow.tape, hgrow.output, Nat.le_trans (by simp) hgrow.size, fun i hi hn => (hgrow.block i (by simp; omega) (by simpa [Value.ownBlock] using hn)).trans (Below.heap_alloc wr _ i hi)⟩
      have hb6' : Below wr.heap.size wr w6 := (Below.refl _ _).grown hg0 (Nat.le_refl _) (fun g hg => by injection hg with hg; omega)
      have hb6 := HBL.out.trans (hb6'.mono (by omega))
      have hbd6 := HBD.out.below hb6' zD
      have hdt6 := HDT.out.below hb6'
      have hpo : IntsAt w6 (fun b => wr.heap.size ≤ b ∧ b < w6.heap.size) v' (x :: R) := IntsAt.of_own (n := 1 + k) hown'
      have hzw6 := hb6'.size
      have hdl := s_deal p (k + 1) hold D B g cap us _ v' (x :: R) _ w6 hp1 h2 n3 hbd6 (by omega) hcap hdt6 hgB hpo (fun b hb => ⟨hb.2, by have := hb.1; omega, fun i hi e => by have := ((HDT.out.own i hi).lt b e).2; have := hb.1; omega⟩) lR HIN.out (fun j hj => by simp; omega)
      have HDL := Lib.hid hdl
      have HB6 := Lib.hid hb6
      clear hown' hgrow hloc hg0 hb6' hb6 hbd6 hdt6 hpo hsl hdl
      go_wp2_with fail
      refine HDL.out.mono ?_
      rintro e w7 ⟨us', rfl, hbd7, hdt7, hb7⟩
      have hb8 := HB6.out.trans (hb7.mono hsz4)
      have HBD7 := Lib.hid hbd7
      have HDT7 := Lib.hid hdt7
      have HB8 := Lib.hid hb8
      clear hbd7 hdt7 hb7 hb8
      go_wp2_with fail
      go_roundw
      case measure => simp [intOf]; omega
      case rel =>
        refine ⟨t + 1, us', by omega, by go_num, HBD7.out, ?_, HB8.out⟩
        have e : (fun j : Nat => (List.range (t + 1)).map (dealV p k (j + 1) sec rnd)) = fun j : Nat => (List.range t).map (dealV p k (j + 1) sec rnd) ++ [ev (x :: R) ((j : Int) + 1) % (p : Int)] := by
          funext j
          rw [List.range_succ, List.map_append, ← HVAL.out j]; rfl
        rw [e]
        exact HDT7.out
    · have htn' : t = ns := by omega
      subst htn'
      have c3 : wr.cell? ⟨D, 3, none⟩ = some (.slice (some ⟨g, 0, none⟩) hold cap) := hbd.cell 3
      have HDT := Lib.hid hdt
      have HBL := Lib.hid hbl
      clear hbd hdt hbl
      go_wp2_with fail
      go_ret2
      refine ⟨_, rfl, ?_, HBL.out⟩
      have h := (HDT.out.mono (B' := w.heap.size) hsz4)
      rw [HNS.out] at h
      exact h.sh
end Go.Proofs.YtjfphobfikadlaaGreatDoor
