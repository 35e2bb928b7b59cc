/- Contracts: whether shares are good in a plan (they are), and what is wrong with them (nothing). Contracts: shares are dealt, one element after the other. -/
import Derived.Test.YtjfphobfikadlaaGreatDoorX16
import Derived.Test.YtjfphobfikadlaaGreatDoorX08
import Derived.BigRegion
set_option linter.unusedVariables false
set_option linter.unusedSimpArgs false
namespace Go.Proofs.YtjfphobfikadlaaGreatDoor
open Go.RowKit Num

set_option maxRecDepth 100000 in
set_option maxHeartbeats 4000000 in
theorem s_Good (p need hold m : Nat) (v : Value) (L : List Sh) (S : Nat → Prop) (w : World) (n3 : hold ≤ 16)
    (hv : ShAt w S v L) (hS : ∀ b, S b → b < w.heap.size) (hl : L.length ≤ 16) (hm : m ≤ 2048) (ho : GoodSh p hold m L) :
    Calls Tryz.prog 159 #[.agg #[.int .i64 (p : Int), .int .i64 (need : Int), .int .i64 (hold : Int)], v] w (BoolBelow true w) := by
  obtain ⟨A, n, c, rfl, hn, hnc, hc⟩ := id hv
  have hn1 : n ≤ 16 := by omega
  have HV := Lib.hid hv
  have HN := Lib.hid hn
  have HO := Lib.hid ho
  have hst : ∀ (W : World) (h : Nat) (u : Value) (xs : List Int), IntsAt W (fun b => b < W.heap.size) u xs → xs.length = m → InF p xs → 1 ≤ h → h ≤ hold → Calls Tryz.prog 194 #[.agg #[.int .i64 (p : Int), .int .i64 (need : Int), .int .i64 (hold : Int)], .agg #[.int .i64 (h : Int), u]] W (BoolBelow true W) := fun W h u xs hu hx hf h1 h2 =>
    s_Stands p need hold h u xs _ W hu (fun b hb => hb) (by omega) hf h1 h2
  have HST := Lib.hid hst
  clear hv hn ho hc hst
  have kp0 : Blk ((w.alloc (.cells #[.int .i64 (p : Int), .int .i64 (need : Int), .int .i64 (hold : Int)] 34))) w.heap.size 34 #[.int .i64 (p : Int), .int .i64 (need : Int), .int .i64 (hold : Int)] := Blk.new w _ _
  have hb0 : Below w.heap.size w (w.alloc (.cells #[.int .i64 (p : Int), .int .i64 (need : Int), .int .i64 (hold : Int)] 34)) := (Below.refl _ _).alloc (Nat.le_refl _) _
  have hs0 : (w.alloc (.cells #[.int .i64 (p : Int), .int .i64 (need : Int), .int .i64 (hold : Int)] 34)).heap.size = w.heap.size + 1 := by simp
  have KP := Lib.hid kp0
  have HB0 := Lib.hid hb0
  clear kp0 hb0
  go_enter Tryz.func159, Tryz.ntmps159
  go_wp2_with fail
  generalize (w.alloc (.cells #[.int .i64 (p : Int), .int .i64 (need : Int), .int .i64 (hold : Int)] 34)) = w2 at *
  have HS0 := Lib.hid hs0
  have hsz2 : w.heap.size < w2.heap.size := by omega
  clear hs0
  go_loopw [10] (fun t wr => ∃ k : Nat, k ≤ n ∧ t = .int .i64 k ∧ ArrV wr (w.heap.size + 1) 17 (seenV L k) ∧ Below (w.heap.size + 1) w2 wr ∧ (w.heap.size + 1) < wr.heap.size) (fun t _ => n - (intOf t).toNat)
  case atStart =>
    have e2 := HS0.out
    rw [← e2]
    refine ⟨0, by omega, rfl, ⟨fun j hj => ?_, fun j hj => World.frozen?_alloc_new _ _ _ _⟩, (Below.refl _ _).alloc (Nat.le_refl _) _, by simp⟩
    rw [World.cell?_alloc_new]
    have e : seenV L 0 j = .bool false := by unfold seenV; exact congrArg Value.bool (decide_eq_false (fun ⟨i, hi, _⟩ => Nat.not_lt_zero i hi))
    rw [e]
    have : ∀ j : Nat, j < 17 → (Array.replicate 17 (Value.bool false))[j]? = some (.bool false) := fun j hj => by rw [Array.getElem?_eq_getElem (by simp; exact hj)]; simp
    exact this j hj
  case round =>
    obtain ⟨k, hk, rfl, harr, hbl, hz⟩ := hrel
    by_cases hlt : k < n
    · have hkl : k < L.length := by have := HN.out; omega
      obtain ⟨A1, n1', c1, hv1, e1, e2, hcs⟩ := HV.out
      injection hv1 with v1 v2 v3
      subst v1 v2 v3
      obtain ⟨b, off, rfl, hSb, hcell⟩ := hcs (by omega)
      obtain ⟨u, m0, m1, hu⟩ := hcell k hlt
      obtain ⟨u0, _, m3, hu0⟩ := hcell 0 (by omega)
      obtain ⟨Au, nu, cu, rfl, f1, f2, f3⟩ := id hu
      obtain ⟨Av, nv, cv, rfl, g1, g2, g3⟩ := id hu0
      have hone := HO.out.len k hkl
      have hone0 := HO.out.len 0 (by omega)
      have hin := HO.out.inF k hkl
      have hnu : nu = m := by omega
      have hnv : nv = m := by omega
      subst hnv
      subst hnu
      have hho := HO.out.holder k hkl
      obtain ⟨H, hH⟩ := Int.eq_ofNat_of_zero_le (show 0 ≤ (shAt L k).1 by omega)
      rw [hH] at m0 hho
      have bb : b < w.heap.size := hS b hSb
      have hww : Below w.heap.size w wr := HB0.out.trans (hbl.mono (by omega))
      have r0 := (hww.cell (p := ⟨b, off + k * 2, none⟩) bb).trans m0
      have r1 := (hww.cell (p := ⟨b, off + k * 2 + 1, none⟩) bb).trans m1
      have r2 := (hww.cell (p := ⟨b, off + 0 * 2 + 1, none⟩) bb).trans m3
      rw [Nat.zero_mul, Nat.add_zero] at r2
      have kp := KP.out.below hbl (by omega)
      have r3 : wr.cell? ⟨w.heap.size, 0, none⟩ = some (.int .i64 (p : Int)) := kp.cell 0
      have r4 : wr.cell? ⟨w.heap.size, 1, none⟩ = some (.int .i64 (need : Int)) := kp.cell 1
      have r5 : wr.cell? ⟨w.heap.size, 2, none⟩ = some (.int .i64 (hold : Int)) := kp.cell 2
      have r6 := harr.cell H (by omega)
      have e6 : seenV L k H = .bool false := by
        unfold seenV; congr 1
        refine decide_eq_false ?_
        rintro ⟨i, hi, hii⟩
        exact HO.out.once i k (by omega) hkl (by omega) (by rw [hii, hH])
      rw [e6] at r6
      have z1 : b < wr.heap.size := by omega
      have z3 : w.heap.size < wr.heap.size := by omega
      have qk : (k : Int) < (n : Int) := by omega
      have q0n : (0 : Int) < (n : Int) := by omega
      have q0m : 0 < n := by omega
      have hiu : ∀ W, Below wr.heap.size wr W → IntsAt W (fun b => b < W.heap.size) (.slice Au nu cu) (shAt L k).2 := fun W hW =>
        (hu.keep fun b hb => (hW.block b (by have := hS b hb; omega)).trans (hww.block b (hS b hb))).mono fun b hb => by have := hS b hb; have := hW.size; omega
      have hsd : ∀ W, Below wr.heap.size wr W → Calls Tryz.prog 194 #[.agg #[.int .i64 (p : Int), .int .i64 (need : Int), .int .i64 (hold : Int)], .agg #[.int .i64 (H : Int), .slice Au nu cu]] W (BoolBelow true W) := fun W hW =>
        HST.out W H _ _ (hiu W hW) hone hin (by omega) (by omega)
      have HSD := Lib.hid hsd
      have HH := Lib.hid hH
      have HBL := Lib.hid hbl
      have HARR := Lib.hid harr
      have hH1 : H < 17 := by omega
      clear hcell m0 m1 m3 kp e6 hH hbl harr hww hone hone0 hcs f1 f2 f3 e1 e2 g1 g2 g3 hu hu0 hin hho hiu hsd
      go_wp2_with fail
      have ha : Below wr.heap.size wr (wr.alloc (.cells #[.int .i64 (H : Int), .slice Au nu cu] 49)) := (Below.refl _ _).alloc (Nat.le_refl _) _
      have t0 : (wr.alloc (.cells #[.int .i64 (H : Int), .slice Au nu cu] 49)).cell? ⟨wr.heap.size, 0, none⟩ = some (.int .i64 (H : Int)) := by rw [World.cell?_alloc_new]; rfl
      have t1 : (wr.alloc (.cells #[.int .i64 (H : Int), .slice Au nu cu] 49)).cell? ⟨wr.heap.size, 1, none⟩ = some (.slice Au nu cu) := by rw [World.cell?_alloc_new]; rfl
      have t2 := (ha.cell (p := ⟨b, off + 1, none⟩) z1).trans r2
      have t3 := (ha.cell (p := ⟨w.heap.size, 0, none⟩) z3).trans r3
      have t4 := (ha.cell (p := ⟨w.heap.size, 1, none⟩) z3).trans r4
      have t5 := (ha.cell (p := ⟨w.heap.size, 2, none⟩) z3).trans r5
      have t6 := (ha.cell (p := ⟨w.heap.size + 1, H, none⟩) hz).trans r6
      have hsa : wr.heap.size < (wr.alloc (.cells #[.int .i64 (H : Int), .slice Au nu cu] 49)).heap.size := by simp
      generalize (wr.alloc (.cells #[.int .i64 (H : Int), .slice Au nu cu] 49)) = W1 at *
      clear r0 r1 r2 r3 r4 r5 r6
      have mk : ∀ W : World, Below W1.heap.size W1 W → W.cell? ⟨wr.heap.size, 0, none⟩ = some (.int .i64 (H : Int)) ∧ W.cell? ⟨wr.heap.size, 1, none⟩ = some (.slice Au nu cu) ∧ W.cell? ⟨b, off + 1, none⟩ = some (.slice Av nu cv) ∧ W.cell? ⟨w.heap.size, 0, none⟩ = some (.int .i64 (p : Int)) ∧ W.cell? ⟨w.heap.size, 1, none⟩ = some (.int .i64 (need : Int)) ∧ W.cell? ⟨w.heap.size, 2, none⟩ = some (.int .i64 (hold : Int)) ∧ W.cell? ⟨w.heap.size + 1, H, none⟩ = some (.bool false) ∧ Hid (Below W1.heap.size W1 W) := fun W hW =>
        ⟨(hW.cell (p := ⟨wr.heap.size, 0, none⟩) hsa).trans t0, (hW.cell (p := ⟨wr.heap.size, 1, none⟩) hsa).trans t1, (hW.cell (p := ⟨b, off + 1, none⟩) (by simp; omega)).trans t2, (hW.cell (p := ⟨w.heap.size, 0, none⟩) (by simp; omega)).trans t3, (hW.cell (p := ⟨w.heap.size, 1, none⟩) (by simp; omega)).trans t4, (hW.cell (p := ⟨w.heap.size, 2, none⟩) (by simp; omega)).trans t5, (hW.cell (p := ⟨w.heap.size + 1, H, none⟩) (by simp; omega)).trans t6, Lib.hid hW⟩
      have MK := Lib.hid mk
      have HA := Lib.hid ha
      have d3 : (H : Int) < 17 := by omega
      have d4 : (0 : Int) ≤ (H : Int) := by omega
      have d5 : decide ((2048 : Int) < (nu : Int)) = false := decide_eq_false (by omega)
      clear mk ha t0 t1 t2 t3 t4 t5 t6
      go_region_held3 (fun W => W.cell? ⟨wr.heap.size, 0, none⟩ = some (.int .i64 (H : Int)) ∧ W.cell? ⟨wr.heap.size, 1, none⟩ = some (.slice Au nu cu) ∧ W.cell? ⟨b, off + 1, none⟩ = some (.slice Av nu cv) ∧ W.cell? ⟨w.heap.size, 0, none⟩ = some (.int .i64 (p : Int)) ∧ W.cell? ⟨w.heap.size, 1, none⟩ = some (.int .i64 (need : Int)) ∧ W.cell? ⟨w.heap.size, 2, none⟩ = some (.int .i64 (hold : Int)) ∧ W.cell? ⟨w.heap.size + 1, H, none⟩ = some (.bool false) ∧ Hid (Below W1.heap.size W1 W))
        (first
          | exact HP.out
          | exact MK.out _ (Below.refl _ _).drew)
        (first
          | (go_at_call 194
             (with_reducible refine (HSD.out _ (HA.out.trans (((Below.refl W1.heap.size W1).drew).mono (Nat.le_of_lt hsa)))).mono ?_)
             rintro e wk ⟨rfl, hbk⟩
             have hbk' : Below W1.heap.size W1 wk := ((Below.refl W1.heap.size W1).drew).trans hbk
             have HB2 := Lib.hid hbk'
             have HP := Lib.hid (MK.out wk hbk')
             clear hbk hbk'))
      have HP2 := HP.out
      go_split_ands
      have hall : Below wr.heap.size wr wk := HA.out.trans (HB2.out.mono (by omega))
      have uf : wk.frozen? ⟨w.heap.size + 1, H, none⟩ = false := (hall.frozen (p := ⟨w.heap.size + 1, H, none⟩) hz).trans (HARR.out.live H hH1)
      have hak : ArrV wk (w.heap.size + 1) 17 (seenV L k) := ⟨fun j hj => (hall.cell (p := ⟨w.heap.size + 1, j, none⟩) hz).trans (HARR.out.cell j hj), fun j hj => (hall.frozen (p := ⟨w.heap.size + 1, j, none⟩) hz).trans (HARR.out.live j hj)⟩
      have hbk2 := HBL.out.trans (hall.mono (by omega))
      have hsk := hall.size
      have HAK := Lib.hid hak
      have HBK := Lib.hid hbk2
      clear hak hbk2 hall
      go_wp2_with fail
      go_roundw
      case measure => simp [intOf]; omega
      case rel =>
        refine ⟨k + 1, by omega, by go_num, ?_, HBK.out.setCell (p := ⟨w.heap.size + 1, H, none⟩) (Nat.le_refl _) _, by simp; omega⟩
        refine (HAK.out.upd (.bool true) hH1).congr fun j hj => ?_
        unfold updV
        by_cases hjH : j = H
        · rw [if_pos hjH]
          unfold seenV
          congr 1
          exact (decide_eq_true ⟨k, by omega, by rw [HH.out, hjH]⟩).symm
        · rw [if_neg hjH]
          unfold seenV
          congr 1
          rw [decide_eq_decide]
          constructor
          · rintro ⟨i, hi, hii⟩; exact ⟨i, by omega, hii⟩
          · rintro ⟨i, hi, hii⟩
            refine ⟨i, ?_, hii⟩
            rcases Nat.lt_or_ge i k with h | h
            · exact h
            · have : i = k := by omega
              subst this
              rw [HH.out] at hii; omega
    · have hkn : k = n := by omega
      subst hkn
      have hbf := HB0.out.trans (hbl.mono (by omega))
      have HBF := Lib.hid hbf
      clear hbl harr hbf
      go_wp2_with fail
      go_ret
      exact ⟨rfl, HBF.out⟩
end Go.Proofs.YtjfphobfikadlaaGreatDoor
namespace Go.Proofs.YtjfphobfikadlaaGreatDoor
open Go.RowKit Num

/-- The cells of the shares that are being dealt. -/
def shCells (us : Nat → Value) (n : Nat) : List Value := (List.range (2 * n)).map fun j => if j % 2 = 0 then .int .i64 (((j / 2 + 1 : Nat)) : Int) else us (j / 2)
theorem shCells_len (us : Nat → Value) (n : Nat) : (shCells us n).length = 2 * n := by simp [shCells]
theorem shCells_h (us : Nat → Value) (n k : Nat) (h : k < n) : (shCells us n)[2 * k]? = some (.int .i64 ((k : Int) + 1)) := by
  unfold shCells
  rw [List.getElem?_map, List.getElem?_range (by omega)]
  simp
theorem shCells_v (us : Nat → Value) (n k : Nat) (h : k < n) : (shCells us n)[2 * k + 1]? = some (us k) := by
  unfold shCells
  rw [List.getElem?_map, List.getElem?_range (by omega)]
  simp only [Option.map_some]
  rw [if_neg (by omega), show (2 * k + 1) / 2 = k by omega]
theorem shCells_set (us : Nat → Value) (n j : Nat) (v : Value) (h : j < n) : (shCells us n).set (2 * j + 1) v = shCells (fun k => if k = j then v else us k) n := by
  apply List.ext_getElem
  · rw [List.length_set, shCells_len, shCells_len]
  · intro i h1 h2
    rw [List.getElem_set]
    unfold shCells
    simp only [List.getElem_map, List.getElem_range]
    by_cases e : 2 * j + 1 = i
    · rw [if_pos e, if_neg (by omega), if_pos (by omega)]
    · rw [if_neg e]
      by_cases e2 : i % 2 = 0
      · rw [if_pos e2, if_pos e2]
      · rw [if_neg e2, if_neg e2, if_neg (by omega)]
/-- Shares that are being dealt: each has a row of values of its own. -/
structure DealT (w : World) (B g cap hold : Nat) (us : Nat → Value) (xs : Nat → List Int) : Prop where
  row : w.ownsRow B 49 2 (.slice (some ⟨g, 0, none⟩) hold cap) hold (shCells us hold)
  own : ∀ k, k < hold → w.ownsRow B 3 1 (us k) (xs k).length ((xs k).map (Value.int .i64))
  apart : ∀ k l, k < hold → l < hold → k ≠ l → (us k).ownBlock = none ∨ (us k).ownBlock ≠ (us l).ownBlock
section
variable {w w' : World} {B g cap hold : Nat} {us : Nat → Value} {xs : Nat → List Int}
theorem DealT.far (h : DealT w B g cap hold us xs) {k : Nat} (hk : k < hold) : (us k).ownBlock ≠ some g := by
  rcases own_ne (h.own k hk) h.row (by decide) with e | e
  · rw [e]; simp
  · exact e
theorem DealT.kept {r : Option Nat} (h : DealT w B g cap hold us xs) (hg : w.grownBy w' r) (h1 : some g ≠ r) (h2 : ∀ k, k < hold → (us k).ownBlock = none ∨ (us k).ownBlock ≠ r) : DealT w' B g cap hold us xs :=
  ⟨h.row.kept hg (.inr h1), fun k hk => (h.own k hk).kept hg (h2 k hk), h.apart⟩
theorem DealT.below (h : DealT w B g cap hold us xs) (hb : Below w.heap.size w w') : DealT w' B g cap hold us xs :=
  h.kept (only_of_below hb none) (by simp) (fun k _ => by cases (us k).ownBlock <;> simp)
theorem DealT.drew (h : DealT w B g cap hold us xs) : DealT w.drew B g cap hold us xs := ⟨h.row, h.own, h.apart⟩
/-- One share has one value more. -/
theorem DealT.put (h : DealT w B g cap hold us xs) {j : Nat} (hj : j < hold) {v' : Value} {y : Int} (hg : w.grownBy w' (us j).ownBlock)
    (hown : w'.ownsRow B 3 1 v' ((xs j).length + 1) ((xs j).map (Value.int .i64) ++ [.int .i64 y])) (hloc : v'.ownBlock = (us j).ownBlock ∨ ∃ H, v'.ownBlock = some H ∧ w.heap.size ≤ H) (hv : v'.oneCell' = true) :
    DealT (w'.setCell ⟨g, 2 * j + 1, none⟩ v') B g cap hold (fun k => if k = j then v' else us k) (fun k => if k = j then xs j ++ [y] else xs k) := by
  have hfar := h.far hj
  have hrow := h.row.kept hg (.inr (Ne.symm hfar))
  have hst := (World.ownsRow.stored hrow (2 * j + 1) v').1
  rw [shCells_set us hold j v' hj] at hst
  have hgs : w'.grownBy (w'.setCell ⟨g, 2 * j + 1, none⟩ v') (some g) := only_setCell (World.grownBy.refl w' _) (p := ⟨g, 2 * j + 1, none⟩) (.inl rfl) _
  refine ⟨hst, fun k hk => ?_, fun k l hk hl hkl => ?_⟩
  · by_cases e : k = j
    · subst e
      simp only [if_true]
      have := hown.kept hgs (own_ne hown hrow (by decide))
      simpa using this
    · simp only [if_neg e]
      have h1 := (h.own k hk).kept hg (h.apart k j hk hj e)
      exact h1.kept hgs (own_ne h1 hrow (by decide))
  · by_cases e : k = j
    · subst e
      simp only [if_true, if_neg (Ne.symm hkl)]
      rcases hloc with h1 | ⟨H, h1, h2⟩
      · rw [h1]; exact h.apart k l hk hl hkl
      · right; rw [h1]; intro e2
        have := ((h.own l hl).lt H e2.symm).2; omega
    · by_cases e2 : l = j
      · subst e2
        simp only [if_true, if_neg e]
        rcases hloc with h1 | ⟨H, h1, h2⟩
        · rw [h1]; exact h.apart k l hk hl hkl
        · rcases hv2 : (us k).ownBlock with _ | a
          · exact .inl rfl
          · right; rw [h1]; intro e3
            injection e3 with e3
            have := ((h.own k hk).lt a hv2).2; omega
      · simp only [if_neg e, if_neg e2]; exact h.apart k l hk hl hkl
end
theorem evH_eq (p : Nat) (x : Int) (hp : 1 ≤ p) (l : List Int) : evH p x l = ev l x % (p : Int) := by
  have h := evH_cg p x l
  have b := evH_bd p x hp l
  unfold Cg at h
  rw [← h, Int.emod_eq_of_lt b.1 b.2]
theorem gb_tr {a b c : World} {r : Option Nat} (h : a.grownBy b r) (k : b.grownBy c r) : a.grownBy c r :=
  ⟨k.os.trans h.os, k.tape.trans h.tape, k.output.trans h.output, Nat.le_trans h.size k.size, fun i hi hn => (k.block i (Nat.lt_of_lt_of_le hi h.size) hn).trans (h.block i hi hn)⟩
def nilU (_ : Nat) : Value := .slice none 0 0
theorem shCells_more (n : Nat) : shCells nilU (n + 1) = shCells nilU n ++ [.int .i64 ((n : Int) + 1), .slice none 0 0] := by
  show (List.range (2 * n + 1 + 1)).map _ = _
  rw [List.range_succ, List.range_succ, List.map_append, List.map_append, List.append_assoc]
  congr 1
  simp only [List.map_cons, List.map_nil, List.cons_append, List.nil_append]
  rw [if_pos (by omega), if_neg (by omega), show 2 * n / 2 = n by omega]
  rfl
def DealerPost (p need hold : Nat) (w : World) (e : Ending) (w' : World) : Prop :=
  ∃ D g cap, e = .returned (.pointer (some ⟨D, 0, none⟩)) ∧ w.heap.size ≤ D ∧ Blk w' D 138 #[.int .i64 (p : Int), .int .i64 (need : Int), .int .i64 (hold : Int), .slice (some ⟨g, 0, none⟩) hold cap] ∧
    DealT w' w.heap.size g cap hold nilU (fun _ => []) ∧ Below w.heap.size w w'
set_option maxRecDepth 100000 in
set_option maxHeartbeats 1000000 in
theorem s_newDealer (p need hold : Nat) (w : World) (h0 : 0 < hold) (h1 : hold ≤ 16) :
    Calls Tryz.prog 121 #[planV p need hold] w (DealerPost p need hold w) := by
  obtain ⟨j0, hj, hy0, hy1, hy2⟩ := info_parts infoS
  unfold planV
  have hA : Below w.heap.size w ((w.alloc (.cells #[.int .i64 (p : Int), .int .i64 (need : Int), .int .i64 (hold : Int)] 34)).alloc (.cells #[.int .i64 (p : Int), .int .i64 (need : Int), .int .i64 (hold : Int), .slice none 0 0] 138)) := ((Below.refl _ _).alloc (Nat.le_refl _) _).alloc (by simp) _
  have hD : Blk ((w.alloc (.cells #[.int .i64 (p : Int), .int .i64 (need : Int), .int .i64 (hold : Int)] 34)).alloc (.cells #[.int .i64 (p : Int), .int .i64 (need : Int), .int .i64 (hold : Int), .slice none 0 0] 138)) (w.heap.size + 1) 138 #[.int .i64 (p : Int), .int .i64 (need : Int), .int .i64 (hold : Int), .slice none 0 0] := by
    have := Blk.new (w.alloc (.cells #[.int .i64 (p : Int), .int .i64 (need : Int), .int .i64 (hold : Int)] 34)) 138 #[.int .i64 (p : Int), .int .i64 (need : Int), .int .i64 (hold : Int), .slice none 0 0]
    simpa using this
  have HA := Lib.hid hA
  have HD := Lib.hid hD
  clear hA hD
  go_enter Tryz.func121, Tryz.ntmps121
  go_wp2_with fail
  generalize (w.alloc (.cells #[.int .i64 (p : Int), .int .i64 (need : Int), .int .i64 (hold : Int)] 34)).alloc (.cells #[.int .i64 (p : Int), .int .i64 (need : Int), .int .i64 (hold : Int), .slice none 0 0] 138) = w2 at *
  go_loopw [10] (fun t wr => ∃ (k : Nat) (v : Value), k ≤ hold ∧ t = .int .i64 (k : Int) ∧ Blk wr (w.heap.size + 1) 138 #[.int .i64 (p : Int), .int .i64 (need : Int), .int .i64 (hold : Int), v] ∧ wr.ownsRow w.heap.size 49 2 v k (shCells nilU k) ∧ Below w.heap.size w wr) (fun t _ => hold - (intOf t).toNat)
  case atStart => exact ⟨0, .slice none 0 0, by omega, rfl, HD.out, World.ownsRow_nil _ _ _ _, HA.out⟩
  case round =>
    obtain ⟨k, v, hk, rfl, hbk, hown, hbl⟩ := hrel
    clear HA HD
    have hlt0 := hbk.lt
    by_cases hlt : k < hold
    · have qk : (k : Int) < (hold : Int) := by omega
      have c3 : wr.cell? ⟨w.heap.size + 1, 3, none⟩ = some v := hbk.cell 3
      have f3 : wr.frozen? ⟨w.heap.size + 1, 3, none⟩ = false := hbk.frozen 3
      have hne := own_blk_ne hown hbk (by decide)
      have HBK := Lib.hid hbk
      have HBL := Lib.hid hbl
      have HOWN := Lib.hid hown
      clear hbk hbl
      go_wp2_with (at_builtin; refine wpList_append_own _ rfl _ _ 41 rfl w.heap.size 49 j0 _ 2 32 Tryz.underlying41 hj hy0 hy1 hy2 rfl (by decide) _ _ _ rfl (hown.alloc _) ⟨wr.heap.size, 0, none⟩ 1 1 [.int .i64 ((k : Int) + 1), .slice none 0 0] rfl rfl (World.news_of_block (cs := #[.int .i64 ((k : Int) + 1), .slice none 0 0]) (t := 49) (fr := (0, 0)) (heap_alloc_new wr _)) (one2 rfl rfl) (by simp only [maxLen]; omega) (by omega) (by simp; omega) ?_)
      intro v5 w5 hown5 hgrow5 _
      have hg5 := grown_past hgrow5
      have hul : ∀ g, v.ownBlock = some g → w.heap.size ≤ g := fun g hg => (HOWN.out.lt g hg).1
      have hb5 := HBL.out.grown hg5 (by omega) hul
      have hbk5 := HBK.out.grown hg5 (Ne.symm hne)
      have hne5 := own_blk_ne hown5 hbk5 (by decide)
      have z3 := hbk5.lt
      have d3 : w5.cell? ⟨w.heap.size + 1, 3, none⟩ = some v := hbk5.cell 3
      have g3 : w5.frozen? ⟨w.heap.size + 1, 3, none⟩ = false := hbk5.frozen 3
      rw [← shCells_more] at hown5
      rcases id hown5.2 with ⟨rfl, h0'⟩ | ⟨g5, cap5, cur5, rfl, _⟩
      · omega
      have HO5 := Lib.hid hown5
      have HB5 := Lib.hid hb5
      have HK5 := Lib.hid hbk5
      clear hown5 hgrow5 hg5 hul hb5 hbk5 hown c3 f3
      go_wp2_with fail
      go_roundw
      case measure => simp [intOf]; omega
      case rel =>
        refine ⟨k + 1, .slice (some ⟨g5, 0, none⟩) (k + 1) cap5, by omega, by go_num, HK5.out.set_ 3 _, ?_, HB5.out.setCell (p := ⟨w.heap.size + 1, 3, none⟩) (by simp) _⟩
        exact HO5.out.kept (only_setCell (World.grownBy.refl w5 _) (p := ⟨w.heap.size + 1, 3, none⟩) (.inl rfl) _) (.inr hne5)
    · have hkn : k = hold := by omega
      subst hkn
      have HBK := Lib.hid hbk
      have HBL := Lib.hid hbl
      have HOWN := Lib.hid hown
      clear hbk hbl hown
      go_wp2_with fail
      go_ret
      rcases id HOWN.out.2 with ⟨rfl, h0'⟩ | ⟨g, cap, cur, rfl, _⟩
      · omega
      · exact ⟨w.heap.size + 1, g, cap, rfl, by omega, HBK.out, ⟨HOWN.out, fun i hi => World.ownsRow_nil _ _ _ _, fun i l _ _ _ => .inl rfl⟩, HBL.out⟩
set_option maxRecDepth 100000 in
set_option maxHeartbeats 4000000 in
theorem s_deal (p need hold D B g cap : Nat) (us : Nat → Value) (xs : Nat → List Int) (v : Value) (fs : List Int) (S : Nat → Prop) (w : World) (hp1 : 1 ≤ p) (h2 : p ≤ 1073741824) (h1 : hold ≤ 16)
    (hd : Blk w D 138 #[.int .i64 (p : Int), .int .i64 (need : Int), .int .i64 (hold : Int), .slice (some ⟨g, 0, none⟩) hold cap]) (hB : B ≤ D) (hcap : hold ≤ cap) (ht : DealT w B g cap hold us xs) (hgB : B ≤ g)
    (hv : IntsAt w S v fs) (hS : ∀ b, S b → b < w.heap.size ∧ b ≠ g ∧ ∀ k, k < hold → (us k).ownBlock ≠ some b) (hl : fs.length ≤ 1000) (hin : InF p fs) (hx : ∀ k, k < hold → (xs k).length ≤ 4000) :
    Calls Tryz.prog 122 #[.pointer (some ⟨D, 0, none⟩), v] w fun e w' => ∃ us', e = .returned (.tuple #[]) ∧ Blk w' D 138 #[.int .i64 (p : Int), .int .i64 (need : Int), .int .i64 (hold : Int), .slice (some ⟨g, 0, none⟩) hold cap] ∧
      DealT w' B g cap hold us' (fun k => xs k ++ [ev fs ((k : Int) + 1) % (p : Int)]) ∧ Below B w w' := by
  obtain ⟨i0, hi, hz0, hz1, hz2⟩ := info_parts infoI
  have hBw : B ≤ w.heap.size := Nat.le_of_lt (Nat.lt_of_le_of_lt hB hd.lt)
  have c3 : w.cell? ⟨D, 3, none⟩ = some (.slice (some ⟨g, 0, none⟩) hold cap) := hd.cell 3
  have HD := Lib.hid hd
  have HT := Lib.hid ht
  have HV := Lib.hid hv
  have HS := Lib.hid hS
  have HIN := Lib.hid hin
  have HX := Lib.hid hx
  clear hd ht hv hS hin hx
  obtain ⟨A, n, c, rfl, hn, hnc, hcc⟩ := id HV.out
  clear hn hnc hcc
  go_enter Tryz.func122, Tryz.ntmps122
  go_wp2_with fail
  go_loopw [11] (fun t wr => ∃ (k : Nat) (us' : Nat → Value), k ≤ hold ∧ t = .int .i64 (k : Int) ∧ Blk wr D 138 #[.int .i64 (p : Int), .int .i64 (need : Int), .int .i64 (hold : Int), .slice (some ⟨g, 0, none⟩) hold cap] ∧
    DealT wr B g cap hold us' (fun i => if i < k then xs i ++ [ev fs ((i : Int) + 1) % (p : Int)] else xs i) ∧ Below B w wr ∧ IntsAt wr S (.slice A n c) fs ∧ (∀ b, S b → ∀ i, i < hold → (us' i).ownBlock ≠ some b)) (fun t _ => hold - (intOf t).toNat)
  case atStart => exact ⟨0, us, by omega, rfl, HD.out, by simpa using HT.out, Below.refl _ _, HV.out, fun b hb i hi => (HS.out b hb).2.2 i hi⟩
  case round =>
    clear c3
    obtain ⟨k, us', hk, rfl, hdk, htk, hbl, hvk, hsk⟩ := hrel
    have hsz := hbl.size
    by_cases hlt : k < hold
    · have qk : (k : Int) < (hold : Int) := by omega
      have c3 : wr.cell? ⟨D, 3, none⟩ = some (.slice (some ⟨g, 0, none⟩) hold cap) := hdk.cell 3
      have c0 : wr.cell? ⟨D, 0, none⟩ = some (.int .i64 (p : Int)) := hdk.cell 0
      have m0 : wr.cell? ⟨g, k * 2, none⟩ = some (.int .i64 ((k : Int) + 1)) := by rw [htk.row.cellAt _ (by omega), Nat.mul_comm, shCells_h us' hold k hlt]
      have m1 : wr.cell? ⟨g, k * 2 + 1, none⟩ = some (us' k) := by rw [htk.row.cellAt _ (by omega), Nat.mul_comm, shCells_v us' hold k hlt]
      have mf : wr.frozen? ⟨g, k * 2 + 1, none⟩ = false := htk.row.frozenAt _
      have hok := htk.own k hlt
      simp only [if_neg (Nat.lt_irrefl k)] at hok
      have zD := hdk.lt
      have zg : g < wr.heap.size := (htk.row.lt g rfl).2
      have hev : ∀ W, Below wr.heap.size wr W → Calls Tryz.prog 97 #[.int .i64 (p : Int), .slice A n c, .int .i64 ((k : Int) + 1)] W (IntB (ev fs ((k : Int) + 1) % (p : Int)) W) := fun W hW =>
        p_Eval p _ _ fs S W hp1 h2 (by omega) (by omega) (hvk.keep fun b hb => hW.block b (by have := (HS.out b hb).1; omega)) (fun b hb => by have := (HS.out b hb).1; have := hW.size; omega) (by omega) HIN.out
      have hlen := HX.out k hlt
      obtain ⟨y, hy⟩ : ∃ y, ev fs ((k : Int) + 1) % (p : Int) = y := ⟨_, rfl⟩
      rw [hy] at hev
      obtain ⟨u, hu⟩ : ∃ u, us' k = u := ⟨_, rfl⟩
      rw [hu] at m1 hok
      obtain ⟨len, hle⟩ : ∃ len, (xs k).length = len := ⟨_, rfl⟩
      rw [hle] at hok hlen
      have mk : ∀ W, Below wr.heap.size wr W → W.cell? ⟨D, 0, none⟩ = some (.int .i64 (p : Int)) ∧ W.cell? ⟨g, k * 2, none⟩ = some (.int .i64 ((k : Int) + 1)) ∧ W.cell? ⟨g, k * 2 + 1, none⟩ = some u ∧ W.frozen? ⟨g, k * 2 + 1, none⟩ = false ∧ W.ownsRow B 3 1 u len ((xs k).map (Value.int .i64)) := fun W hW =>
        ⟨(hW.cell (p := ⟨D, 0, none⟩) zD).trans c0, (hW.cell (p := ⟨g, k * 2, none⟩) zg).trans m0, (hW.cell (p := ⟨g, k * 2 + 1, none⟩) zg).trans m1, (hW.frozen (p := ⟨g, k * 2 + 1, none⟩) zg).trans mf, hok.kept (only_of_below hW none) (by cases u.ownBlock <;> simp)⟩
      have MK := Lib.hid mk
      have HEV := Lib.hid hev
      have HY := Lib.hid hy
      have HU := Lib.hid hu
      have HLE := Lib.hid hle
      have HTK := Lib.hid htk
      have HDK := Lib.hid hdk
      have HBL := Lib.hid hbl
      have HVK := Lib.hid hvk
      have HSK := Lib.hid hsk
      have hfar : u.ownBlock ≠ some g := by rw [← hu]; exact htk.far hlt
      have hdu : u.ownBlock ≠ some D := own_blk_ne hok hdk (by decide)
      clear mk hev hy hu hle htk hdk hbl hvk hsk hok
      go_wp2_with fail
      go_region_law (first
        | (refine step_append_lies _ (by rfl) _ _ _ (by rfl) B 3 i0 _ 1 8 Tryz.underlying24 hi hz0 hz1 hz2 rfl (by omega) u len _ (by rfl) (E4.out.alloc _) ⟨wk.heap.size, 0, none⟩ 1 1 [.int .i64 y] (by rfl) (by rfl) (cell_one_new _ _ _) (ints_oneCell .i64 [_]) (by omega) (by simp only [maxLen]; omega) (by omega) (by simp; omega) (wk.heap.size + 1) (by simp) ?_; intro gg cap4 w4 hown4 hgrow4 hat4 hlt4; have c4 : w4.cell? ⟨g, k * 2 + 1, none⟩ = some u := (hgrow4.cell_far _ (by simp; omega) (Ne.symm hfar)).trans (K0.out _); have f4 : w4.frozen? ⟨g, k * 2 + 1, none⟩ = false := (hgrow4.frozen_far _ (by simp; omega) (Ne.symm hfar)).trans (K1.out _))
        | (go_simp; go_at_call 97; ((with_reducible refine (HEV.out _ ((Below.refl _ _).drew)).mono ?_); rintro e wk ⟨rfl, hbk⟩; have hbk' : Below wr.heap.size wr wk := ((Below.refl wr.heap.size wr).drew).trans hbk; have hskk := hbk'.size; obtain ⟨e0, e1, e2, e3, e4⟩ := MK.out wk hbk'; have zgk : g < wk.heap.size := (by omega); have k0 : ∀ o : Obj, (wk.alloc o).cell? ⟨g, k * 2 + 1, none⟩ = some u := (fun o => (((Below.refl wk.heap.size wk).alloc (Nat.le_refl _) o).cell (p := ⟨g, k * 2 + 1, none⟩) zgk).trans e2); have k1 : ∀ o : Obj, (wk.alloc o).frozen? ⟨g, k * 2 + 1, none⟩ = false := (fun o => (((Below.refl wk.heap.size wk).alloc (Nat.le_refl _) o).frozen (p := ⟨g, k * 2 + 1, none⟩) zgk).trans e3); have K0 := Lib.hid k0; have K1 := Lib.hid k1; have E4 := Lib.hid e4; have HBK := Lib.hid hbk'; clear e4 hbk hbk'; go_simp)))
      all_goals
        have hg1 : wk.grownBy w4 u.ownBlock := grown_past hgrow4
        have hgT : wr.grownBy w4 u.ownBlock := gb_tr (only_of_below HBK.out _) hg1
        have hul : ∀ b, u.ownBlock = some b → B ≤ b := fun b hb => (E4.out.lt b hb).1
        have hb4 : Below B w w4 := HBL.out.grown hgT (by omega) hul
        have hd4 := HDK.out.grown hgT (Ne.symm hdu)
        have hput := HTK.out.put (w' := w4) hlt (v' := .slice (some ⟨gg, 0, none⟩) (len + 1) cap4) (y := y) (by rw [HU.out]; exact hgT) (by simp only [if_neg (Nat.lt_irrefl k)]; rw [HLE.out]; exact hown4) (by
          rw [HU.out]
          rcases hat4 with h | h
          · left; rw [h]; rfl
          · right; exact ⟨gg, rfl, by omega⟩) rfl
        have HPUT := Lib.hid hput
        have HB4 := Lib.hid hb4
        have HD4 := Lib.hid hd4
        have HG4 := Lib.hid hgT
        have HAT := Lib.hid hat4
        clear hgrow4 hown4 hg1 hgT hul hb4 hd4 hput hat4
        go_wp2_with fail
        go_roundw
        case measure => simp [intOf]; omega
        case rel =>
          refine ⟨k + 1, fun i => if i = k then .slice (some ⟨gg, 0, none⟩) (len + 1) cap4 else us' i, by omega, by go_num, HD4.out.far (p := ⟨g, k * 2 + 1, none⟩) ?hne _, ?hdt, HB4.out.setCell (p := ⟨g, k * 2 + 1, none⟩) hgB _, ?hiv, ?hsv⟩
          case hdt =>
            have h := HPUT.out
            rw [Nat.mul_comm 2 k] at h
            refine ⟨h.row, fun i hi => ?_, h.apart⟩
            have := h.own i hi
            by_cases e : i = k
            · subst e
              simp only [if_true, if_neg (Nat.lt_irrefl i)] at this
              simp only [if_true, if_pos (Nat.lt_succ_self i)]
              rw [HY.out]; exact this
            · simp only [if_neg e] at this ⊢
              by_cases e2 : i < k
              · simp only [if_pos e2] at this; simp only [if_pos (Nat.lt_succ_of_lt e2)]; exact this
              · simp only [if_neg e2] at this; simp only [if_neg (show ¬ i < k + 1 by omega)]; exact this
          case hne =>
            have := own_blk_ne HTK.out.row HDK.out (by decide)
            intro e; exact this (by rw [e]; rfl)
          case hiv =>
            have hv4 : IntsAt w4 S (.slice A n c) fs := HVK.out.keep fun b hb => HG4.out.block b (by have := (HS.out b hb).1; omega) (fun e => HSK.out b hb k hlt (by rw [HU.out]; exact e.symm))
            exact hv4.keep fun b hb => Below.heap_setCell _ _ _ _ (fun e => (HS.out b hb).2.1 e)
          case hsv =>
            intro b hb i hi
            by_cases e : i = k
            · simp only [if_pos e]
              intro e2
              injection e2 with e2
              have e3 : gg = b := e2
              rcases HAT.out with h | h
              · exact HSK.out b hb k hlt (by rw [HU.out, h]; exact congrArg some e2)
              · have := (HS.out b hb).1; omega
            · simp only [if_neg e]; exact HSK.out b hb i hi
    · have hkn : k = hold := by omega
      subst hkn
      have HTK := Lib.hid htk
      have HDK := Lib.hid hdk
      have HBL := Lib.hid hbl
      clear htk hdk hbl hvk hsk
      go_wp2_with fail
      go_end0
      refine ⟨us', rfl, HDK.out, ?_, HBL.out⟩
      refine ⟨HTK.out.row, fun i hi => ?_, HTK.out.apart⟩
      have := HTK.out.own i hi
      simpa [hi] using this
end Go.Proofs.YtjfphobfikadlaaGreatDoor
