/- Contracts: the program's bytes of bits. -/
import Derived.Test.YtjfphobfikadlaaGreatDoorW24
import Derived.Test.YtjfphobfikadlaaGreatDoorW21
import Derived.BigRegion
set_option linter.unusedVariables false
set_option linter.unusedSimpArgs false
namespace Go.Proofs.YtjfphobfikadlaaGreatDoor
open Go.RowKit Num

/-- The bytes as they stand behind the first k bits. -/
def bitN (bl : List UInt8) (k : Nat) : List Int := (List.range 16).map fun j => (((bl.getD j 0).toNat / 2 ^ (8 * (j + 1) - k) * 2 ^ (8 * (j + 1) - k) : Nat) : Int)
theorem bitN_len (bl : List UInt8) (k : Nat) : (bitN bl k).length = 16 := by simp [bitN]
theorem bitN_get (bl : List UInt8) (k j : Nat) (h : j < 16) : (bitN bl k)[j]? = some ((((bl.getD j 0).toNat / 2 ^ (8 * (j + 1) - k) * 2 ^ (8 * (j + 1) - k) : Nat) : Int)) := by
  unfold bitN; rw [List.getElem?_map, List.getElem?_range h]; rfl
theorem bitN_zero (bl : List UInt8) : bitN bl 0 = List.replicate 16 0 := by
  apply List.ext_getElem?
  intro j
  by_cases hj : j < 16
  · rw [bitN_get bl 0 j hj, List.getElem?_replicate, if_pos hj]
    have hc := (bl.getD j 0).toNat_lt
    have h8 : (bl.getD j 0).toNat / 2 ^ (8 * (j + 1) - 0) = 0 := Nat.div_eq_of_lt (Nat.lt_of_lt_of_le hc (by
      exact Nat.pow_le_pow_right (by decide) (by omega)))
    rw [h8]; simp
  · rw [List.getElem?_eq_none (by rw [bitN_len]; omega), List.getElem?_eq_none (by simp; omega)]
theorem bitN_end (bl : List UInt8) (hb : bl.length = 16) : (bitN bl 128).map (Value.int .u8) = Lib.byteCells bl := by
  apply List.ext_getElem?
  intro j
  by_cases hj : j < 16
  · rw [List.getElem?_map, bitN_get _ _ _ hj, show 8 * (j + 1) - 128 = 0 by omega]
    unfold Lib.byteCells
    rw [List.getElem?_map, List.getElem?_eq_getElem (by omega), List.getD_eq_getElem?_getD, List.getElem?_eq_getElem (by omega)]
    simp
  · rw [List.getElem?_eq_none (by rw [List.length_map, bitN_len]; omega), List.getElem?_eq_none (by unfold Lib.byteCells; rw [List.length_map]; omega)]
theorem bitN_next (bl : List UInt8) (k : Nat) (hk : k < 128) : (bitN bl k).set (k / 8) ((((bl.getD (k / 8) 0).toNat / 2 ^ (8 - k % 8) : Nat) : Int) * ((2 ^ (8 - k % 8) : Nat) : Int) + (((bl.getD (k / 8) 0).toNat / 2 ^ (7 - k % 8) % 2 : Nat) : Int) * ((2 ^ (7 - k % 8) : Nat) : Int)) = bitN bl (k + 1) := by
  apply List.ext_getElem?
  intro j
  rw [List.getElem?_set]
  rcases Nat.lt_trichotomy j (k / 8) with hj | hj | hj
  · rw [if_neg (by omega), bitN_get _ _ _ (by omega), bitN_get _ _ _ (by omega), show 8 * (j + 1) - k = 0 by omega, show 8 * (j + 1) - (k + 1) = 0 by omega]
  · subst hj
    rw [if_pos rfl, if_pos (by rw [bitN_len]; omega), bitN_get _ _ _ (by omega), show 8 * (k / 8 + 1) - (k + 1) = 7 - k % 8 by omega, show 8 - k % 8 = (7 - k % 8) + 1 by omega]
    congr 1
    generalize 7 - k % 8 = m
    generalize (bl.getD (k / 8) 0).toNat = c
    rw [Nat.pow_succ, ← Nat.div_div_eq_div_mul]
    generalize 2 ^ m = z
    have h1 : c / z = c / z / 2 * 2 + c / z % 2 := by omega
    have h2 : c / z * z = (c / z / 2 * 2 + c / z % 2) * z := by rw [← h1]
    rw [h2, Nat.add_mul, Nat.mul_assoc, Nat.mul_comm 2 z]
    simp
  · by_cases hj2 : j < 16
    · rw [if_neg (by omega), bitN_get _ _ _ hj2, bitN_get _ _ _ hj2]
      have hz : ∀ m, 8 ≤ m → (bl.getD j 0).toNat / 2 ^ m = 0 := fun m hm => Nat.div_eq_of_lt (Nat.lt_of_lt_of_le (bl.getD j 0).toNat_lt (by
        exact Nat.pow_le_pow_right (by decide) hm))
      rw [hz _ (by omega), hz _ (by omega)]; simp
    · rw [if_neg (by omega), List.getElem?_eq_none (by rw [bitN_len]; omega), List.getElem?_eq_none (by rw [bitN_len]; omega)]
set_option maxRecDepth 100000 in
set_option maxHeartbeats 8000000 in
theorem p_byBits (v : Value) (bl : List UInt8) (S : Nat → Prop) (w : World) (hv : IntsAt w S v (bitsL bl)) (hS : ∀ b, S b → b < w.heap.size) (hb : bl.length = 16) :
    Calls Tryz.prog 129 #[v] w fun e w' => e = .returned (.tuple #[.string ⟨bl.toArray⟩, .bool true]) ∧ Below w.heap.size w w' := by
  have hbl0 : (bitsL bl).length = 128 := by rw [bitsL_len, hb]
  obtain ⟨A, n, c, rfl, hn, hnc, hcc⟩ := hv
  obtain ⟨i0, hi, hz0, hz1, hz2⟩ := info_parts infoB
  have hn6 : n = 128 := by rw [hn, hbl0]
  subst hn6
  have HCC := Lib.hid hcc
  have HB := Lib.hid hb
  have hmk := fun (W : World) => run_make (P := Tryz.prog) W 91 5 i0 (.int .u8 0) Tryz.underlying91 hi hz0 .i64 .i64 16 16 (by decide) (by decide) (by rw [hz2]; decide) (by decide)
  clear hn hcc hb hbl0
  go_enter Tryz.func129, Tryz.ntmps129
  go_wp2_with fail
  go_loopw [13] (fun t wr => ∃ k : Nat, k ≤ 128 ∧ t = .int .i64 (k : Int) ∧ wr.ownsRow w.heap.size 5 1 (.slice (some ⟨w.heap.size, 0, none⟩) 16 16) 16 ((bitN bl k).map (Value.int .u8)) ∧ Below w.heap.size w wr) (fun t _ => 128 - (intOf t).toNat)
  case atStart =>
    refine ⟨0, by omega, rfl, ?_, ?_⟩
    · have h9 := World.ownsRow_lit (e := 5) (base := w.heap.size) (size := 1) w (madeCells #[.int .u8 0] 16) 16 (Nat.le_refl _) (by decide) (by rw [size_madeCells])
      rw [toList_madeCells_one] at h9
      rw [bitN_zero, List.map_replicate]
      exact h9
    · exact (Below.refl _ _).alloc (Nat.le_refl _) _
  case round =>
    obtain ⟨k, hk, rfl, hown, hbl⟩ := hrel
    have hzz := hbl.size
    by_cases hlt : k < 128
    · have hBg : w.heap.size ≤ w.heap.size := Nat.le_refl _
      obtain ⟨b, off, rfl, hSb, hcell⟩ := HCC.out (by decide)
      have ck := (hbl.cell (p := ⟨b, off + k, none⟩) (hS b hSb)).trans (hcell k hlt)
      have hbg := bit_get bl (k / 8) (k % 8) (by rw [HB.out]; omega) (by omega)
      rw [show 8 * (k / 8) + k % 8 = k by omega] at hbg
      have hgd : bl[k / 8]'(by rw [HB.out]; omega) = bl.getD (k / 8) 0 := by rw [List.getD_eq_getElem?_getD, List.getElem?_eq_getElem (by rw [HB.out]; omega)]; rfl
      rw [hgd] at hbg
      rw [hbg] at ck
      have hx3 : (bl.getD (k / 8) 0).toNat / 2 ^ (7 - k % 8) % 2 < 2 := Nat.mod_lt _ (by decide)
      have hst := bitN_next bl k hlt
      have hgq := bitN_get bl k (k / 8) (by omega)
      rw [show 8 * (k / 8 + 1) - k = 8 - k % 8 by omega] at hgq
      have hc8 := (bl.getD (k / 8) 0).toNat_lt
      have qk : (k : Int) < 128 := by omega
      have qk0 : (0 : Int) ≤ (k : Int) := by omega
      rcases (show k % 8 = 0 ∨ k % 8 = 1 ∨ k % 8 = 2 ∨ k % 8 = 3 ∨ k % 8 = 4 ∨ k % 8 = 5 ∨ k % 8 = 6 ∨ k % 8 = 7 by omega) with hr8 | hr8 | hr8 | hr8 | hr8 | hr8 | hr8 | hr8
      · have hr : k % 8 = 0 := hr8
        have hm : (k : Int) % 8 = 0 := by omega
        have hx2 := hx3
        rw [hr] at hst hgq hx2
        simp only [show 7 - 0 = 7 from rfl, show 8 - 0 = 8 from rfl, show (2 : Nat) ^ 7 = 128 from rfl, show (2 : Nat) ^ 8 = 256 from rfl] at hst hgq hx2
        obtain ⟨x, hx⟩ : ∃ x, (bl.getD (k / 8) 0).toNat / 128 % 2 = x := ⟨_, rfl⟩
        obtain ⟨y, hy⟩ : ∃ y, (bl.getD (k / 8) 0).toNat / 256 = y := ⟨_, rfl⟩
        have hyb : y < 1 := by omega
        rw [hr] at ck
        simp only [show 7 - 0 = 7 from rfl, show (2 : Nat) ^ 7 = 128 from rfl] at ck
        rw [hx] at ck hst hx2
        rw [hy] at hst hgq
        have hor : bits .or .u8 ((y : Int) * 256) ((x : Int) * 128) = (y : Int) * 256 + (x : Int) * 128 := bits_join .u8 8 (by decide) wraps_u8 8 _ _ (by omega) (by omega) (by omega) (by omega) (by omega) (by omega)
        have hs1 : IntKind.i64.wrap ((x : Int) * 128) = (x : Int) * 128 := IntWalk.i64_in _ ⟨by omega, by omega⟩
        have hs2 : IntKind.u8.wrap ((x : Int) * 128) = (x : Int) * 128 := wraps_u8 _ (by omega) (by omega)
        have t0 : ((x : Int) != 0) = decide (x = 1) := by rcases (show x = 0 ∨ x = 1 by omega) with rfl | rfl <;> rfl
        have t1 : ((x : Int) != 1) = decide (x = 0) := by rcases (show x = 0 ∨ x = 1 by omega) with rfl | rfl <;> rfl
        obtain ⟨q, hq⟩ : ∃ q, k / 8 = q := ⟨_, rfl⟩
        have hqi : (k : Int) / 8 = (q : Int) := by omega
        have hq9 : (q : Int) < 16 := by omega
        have hq0 : (0 : Int) ≤ (q : Int) := by omega
        have hq16 : q < 16 := by omega
        rw [hq] at hst hgq
        have cx : wr.cell? ⟨w.heap.size, q, none⟩ = some (.int .u8 ((y : Int) * 256)) := by
          rw [hown.cellAt q (by omega), List.getElem?_map, hgq]; rfl
        have fx := hown.frozenAt q
        have hst5 := (World.ownsRow.stored hown q (.int .u8 ((y : Int) * 256 + (x : Int) * 128))).1
        have e5 : ((bitN bl k).map (Value.int .u8)).set q (Value.int .u8 ((y : Int) * 256 + (x : Int) * 128)) = (bitN bl (k + 1)).map (Value.int .u8) := by
          have h9 := congrArg (List.map (Value.int .u8)) hst
          rw [List.map_set] at h9
          exact h9
        rw [e5] at hst5
        have HO5 := Lib.hid hst5
        have HB5 := Lib.hid (hbl.setCell (p := ⟨w.heap.size, q, none⟩) hBg (.int .u8 ((y : Int) * 256 + (x : Int) * 128)))
        rcases (show x = 0 ∨ x = 1 by omega) with hx01 | hx01
        all_goals
          subst hx01
          simp only [Int.natCast_zero, Int.natCast_one, Int.zero_mul, Int.one_mul, Int.add_zero] at hor hs1 hs2 ck HO5 HB5
          clear t0 t1 hst hx hy hbg hgd hcell hbl hc8 hgq hst5 e5 hown hr hr8 hx2 hx3 hq hyb
          go_wp2_with fail
          go_region
          all_goals
            go_wp2_with fail
            go_roundw
            case measure => simp [intOf]; omega
            case rel => exact ⟨k + 1, by omega, by go_num, HO5.out, HB5.out.drew⟩
      · have hr : k % 8 = 1 := hr8
        have hm : (k : Int) % 8 = 1 := by omega
        have hx2 := hx3
        rw [hr] at hst hgq hx2
        simp only [show 7 - 1 = 6 from rfl, show 8 - 1 = 7 from rfl, show (2 : Nat) ^ 6 = 64 from rfl, show (2 : Nat) ^ 7 = 128 from rfl] at hst hgq hx2
        obtain ⟨x, hx⟩ : ∃ x, (bl.getD (k / 8) 0).toNat / 64 % 2 = x := ⟨_, rfl⟩
        obtain ⟨y, hy⟩ : ∃ y, (bl.getD (k / 8) 0).toNat / 128 = y := ⟨_, rfl⟩
        have hyb : y < 2 := by omega
        rw [hr] at ck
        simp only [show 7 - 1 = 6 from rfl, show (2 : Nat) ^ 6 = 64 from rfl] at ck
        rw [hx] at ck hst hx2
        rw [hy] at hst hgq
        have hor : bits .or .u8 ((y : Int) * 128) ((x : Int) * 64) = (y : Int) * 128 + (x : Int) * 64 := bits_join .u8 8 (by decide) wraps_u8 7 _ _ (by omega) (by omega) (by omega) (by omega) (by omega) (by omega)
        have hs1 : IntKind.i64.wrap ((x : Int) * 64) = (x : Int) * 64 := IntWalk.i64_in _ ⟨by omega, by omega⟩
        have hs2 : IntKind.u8.wrap ((x : Int) * 64) = (x : Int) * 64 := wraps_u8 _ (by omega) (by omega)
        have t0 : ((x : Int) != 0) = decide (x = 1) := by rcases (show x = 0 ∨ x = 1 by omega) with rfl | rfl <;> rfl
        have t1 : ((x : Int) != 1) = decide (x = 0) := by rcases (show x = 0 ∨ x = 1 by omega) with rfl | rfl <;> rfl
        obtain ⟨q, hq⟩ : ∃ q, k / 8 = q := ⟨_, rfl⟩
        have hqi : (k : Int) / 8 = (q : Int) := by omega
        have hq9 : (q : Int) < 16 := by omega
        have hq0 : (0 : Int) ≤ (q : Int) := by omega
        have hq16 : q < 16 := by omega
        rw [hq] at hst hgq
        have cx : wr.cell? ⟨w.heap.size, q, none⟩ = some (.int .u8 ((y : Int) * 128)) := by
          rw [hown.cellAt q (by omega), List.getElem?_map, hgq]; rfl
        have fx := hown.frozenAt q
        have hst5 := (World.ownsRow.stored hown q (.int .u8 ((y : Int) * 128 + (x : Int) * 64))).1
        have e5 : ((bitN bl k).map (Value.int .u8)).set q (Value.int .u8 ((y : Int) * 128 + (x : Int) * 64)) = (bitN bl (k + 1)).map (Value.int .u8) := by
          have h9 := congrArg (List.map (Value.int .u8)) hst
          rw [List.map_set] at h9
          exact h9
        rw [e5] at hst5
        have HO5 := Lib.hid hst5
        have HB5 := Lib.hid (hbl.setCell (p := ⟨w.heap.size, q, none⟩) hBg (.int .u8 ((y : Int) * 128 + (x : Int) * 64)))
        rcases (show x = 0 ∨ x = 1 by omega) with hx01 | hx01
        all_goals
          subst hx01
          simp only [Int.natCast_zero, Int.natCast_one, Int.zero_mul, Int.one_mul, Int.add_zero] at hor hs1 hs2 ck HO5 HB5
          clear t0 t1 hst hx hy hbg hgd hcell hbl hc8 hgq hst5 e5 hown hr hr8 hx2 hx3 hq hyb
          go_wp2_with fail
          go_region
          all_goals
            go_wp2_with fail
            go_roundw
            case measure => simp [intOf]; omega
            case rel => exact ⟨k + 1, by omega, by go_num, HO5.out, HB5.out.drew⟩
      · have hr : k % 8 = 2 := hr8
        have hm : (k : Int) % 8 = 2 := by omega
        have hx2 := hx3
        rw [hr] at hst hgq hx2
        simp only [show 7 - 2 = 5 from rfl, show 8 - 2 = 6 from rfl, show (2 : Nat) ^ 5 = 32 from rfl, show (2 : Nat) ^ 6 = 64 from rfl] at hst hgq hx2
        obtain ⟨x, hx⟩ : ∃ x, (bl.getD (k / 8) 0).toNat / 32 % 2 = x := ⟨_, rfl⟩
        obtain ⟨y, hy⟩ : ∃ y, (bl.getD (k / 8) 0).toNat / 64 = y := ⟨_, rfl⟩
        have hyb : y < 4 := by omega
        rw [hr] at ck
        simp only [show 7 - 2 = 5 from rfl, show (2 : Nat) ^ 5 = 32 from rfl] at ck
        rw [hx] at ck hst hx2
        rw [hy] at hst hgq
        have hor : bits .or .u8 ((y : Int) * 64) ((x : Int) * 32) = (y : Int) * 64 + (x : Int) * 32 := bits_join .u8 8 (by decide) wraps_u8 6 _ _ (by omega) (by omega) (by omega) (by omega) (by omega) (by omega)
        have hs1 : IntKind.i64.wrap ((x : Int) * 32) = (x : Int) * 32 := IntWalk.i64_in _ ⟨by omega, by omega⟩
        have hs2 : IntKind.u8.wrap ((x : Int) * 32) = (x : Int) * 32 := wraps_u8 _ (by omega) (by omega)
        have t0 : ((x : Int) != 0) = decide (x = 1) := by rcases (show x = 0 ∨ x = 1 by omega) with rfl | rfl <;> rfl
        have t1 : ((x : Int) != 1) = decide (x = 0) := by rcases (show x = 0 ∨ x = 1 by omega) with rfl | rfl <;> rfl
        obtain ⟨q, hq⟩ : ∃ q, k / 8 = q := ⟨_, rfl⟩
        have hqi : (k : Int) / 8 = (q : Int) := by omega
        have hq9 : (q : Int) < 16 := by omega
        have hq0 : (0 : Int) ≤ (q : Int) := by omega
        have hq16 : q < 16 := by omega
        rw [hq] at hst hgq
        have cx : wr.cell? ⟨w.heap.size, q, none⟩ = some (.int .u8 ((y : Int) * 64)) := by
          rw [hown.cellAt q (by omega), List.getElem?_map, hgq]; rfl
        have fx := hown.frozenAt q
        have hst5 := (World.ownsRow.stored hown q (.int .u8 ((y : Int) * 64 + (x : Int) * 32))).1
        have e5 : ((bitN bl k).map (Value.int .u8)).set q (Value.int .u8 ((y : Int) * 64 + (x : Int) * 32)) = (bitN bl (k + 1)).map (Value.int .u8) := by
          have h9 := congrArg (List.map (Value.int .u8)) hst
          rw [List.map_set] at h9
          exact h9
        rw [e5] at hst5
        have HO5 := Lib.hid hst5
        have HB5 := Lib.hid (hbl.setCell (p := ⟨w.heap.size, q, none⟩) hBg (.int .u8 ((y : Int) * 64 + (x : Int) * 32)))
        rcases (show x = 0 ∨ x = 1 by omega) with hx01 | hx01
        all_goals
          subst hx01
          simp only [Int.natCast_zero, Int.natCast_one, Int.zero_mul, Int.one_mul, Int.add_zero] at hor hs1 hs2 ck HO5 HB5
          clear t0 t1 hst hx hy hbg hgd hcell hbl hc8 hgq hst5 e5 hown hr hr8 hx2 hx3 hq hyb
          go_wp2_with fail
          go_region
          all_goals
            go_wp2_with fail
            go_roundw
            case measure => simp [intOf]; omega
            case rel => exact ⟨k + 1, by omega, by go_num, HO5.out, HB5.out.drew⟩
      · have hr : k % 8 = 3 := hr8
        have hm : (k : Int) % 8 = 3 := by omega
        have hx2 := hx3
        rw [hr] at hst hgq hx2
        simp only [show 7 - 3 = 4 from rfl, show 8 - 3 = 5 from rfl, show (2 : Nat) ^ 4 = 16 from rfl, show (2 : Nat) ^ 5 = 32 from rfl] at hst hgq hx2
        obtain ⟨x, hx⟩ : ∃ x, (bl.getD (k / 8) 0).toNat / 16 % 2 = x := ⟨_, rfl⟩
        obtain ⟨y, hy⟩ : ∃ y, (bl.getD (k / 8) 0).toNat / 32 = y := ⟨_, rfl⟩
        have hyb : y < 8 := by omega
        rw [hr] at ck
        simp only [show 7 - 3 = 4 from rfl, show (2 : Nat) ^ 4 = 16 from rfl] at ck
        rw [hx] at ck hst hx2
        rw [hy] at hst hgq
        have hor : bits .or .u8 ((y : Int) * 32) ((x : Int) * 16) = (y : Int) * 32 + (x : Int) * 16 := bits_join .u8 8 (by decide) wraps_u8 5 _ _ (by omega) (by omega) (by omega) (by omega) (by omega) (by omega)
        have hs1 : IntKind.i64.wrap ((x : Int) * 16) = (x : Int) * 16 := IntWalk.i64_in _ ⟨by omega, by omega⟩
        have hs2 : IntKind.u8.wrap ((x : Int) * 16) = (x : Int) * 16 := wraps_u8 _ (by omega) (by omega)
        have t0 : ((x : Int) != 0) = decide (x = 1) := by rcases (show x = 0 ∨ x = 1 by omega) with rfl | rfl <;> rfl
        have t1 : ((x : Int) != 1) = decide (x = 0) := by rcases (show x = 0 ∨ x = 1 by omega) with rfl | rfl <;> rfl
        obtain ⟨q, hq⟩ : ∃ q, k / 8 = q := ⟨_, rfl⟩
        have hqi : (k : Int) / 8 = (q : Int) := by omega
        have hq9 : (q : Int) < 16 := by omega
        have hq0 : (0 : Int) ≤ (q : Int) := by omega
        have hq16 : q < 16 := by omega
        rw [hq] at hst hgq
        have cx : wr.cell? ⟨w.heap.size, q, none⟩ = some (.int .u8 ((y : Int) * 32)) := by
          rw [hown.cellAt q (by omega), List.getElem?_map, hgq]; rfl
        have fx := hown.frozenAt q
        have hst5 := (World.ownsRow.stored hown q (.int .u8 ((y : Int) * 32 + (x : Int) * 16))).1
        have e5 : ((bitN bl k).map (Value.int .u8)).set q (Value.int .u8 ((y : Int) * 32 + (x : Int) * 16)) = (bitN bl (k + 1)).map (Value.int .u8) := by
          have h9 := congrArg (List.map (Value.int .u8)) hst
          rw [List.map_set] at h9
          exact h9
        rw [e5] at hst5
        have HO5 := Lib.hid hst5
        have HB5 := Lib.hid (hbl.setCell (p := ⟨w.heap.size, q, none⟩) hBg (.int .u8 ((y : Int) * 32 + (x : Int) * 16)))
        rcases (show x = 0 ∨ x = 1 by omega) with hx01 | hx01
        all_goals
          subst hx01
          simp only [Int.natCast_zero, Int.natCast_one, Int.zero_mul, Int.one_mul, Int.add_zero] at hor hs1 hs2 ck HO5 HB5
          clear t0 t1 hst hx hy hbg hgd hcell hbl hc8 hgq hst5 e5 hown hr hr8 hx2 hx3 hq hyb
          go_wp2_with fail
          go_region
          all_goals
            go_wp2_with fail
            go_roundw
            case measure => simp [intOf]; omega
            case rel => exact ⟨k + 1, by omega, by go_num, HO5.out, HB5.out.drew⟩
      · have hr : k % 8 = 4 := hr8
        have hm : (k : Int) % 8 = 4 := by omega
        have hx2 := hx3
        rw [hr] at hst hgq hx2
        simp only [show 7 - 4 = 3 from rfl, show 8 - 4 = 4 from rfl, show (2 : Nat) ^ 3 = 8 from rfl, show (2 : Nat) ^ 4 = 16 from rfl] at hst hgq hx2
        obtain ⟨x, hx⟩ : ∃ x, (bl.getD (k / 8) 0).toNat / 8 % 2 = x := ⟨_, rfl⟩
        obtain ⟨y, hy⟩ : ∃ y, (bl.getD (k / 8) 0).toNat / 16 = y := ⟨_, rfl⟩
        have hyb : y < 16 := by omega
        rw [hr] at ck
        simp only [show 7 - 4 = 3 from rfl, show (2 : Nat) ^ 3 = 8 from rfl] at ck
        rw [hx] at ck hst hx2
        rw [hy] at hst hgq
        have hor : bits .or .u8 ((y : Int) * 16) ((x : Int) * 8) = (y : Int) * 16 + (x : Int) * 8 := bits_join .u8 8 (by decide) wraps_u8 4 _ _ (by omega) (by omega) (by omega) (by omega) (by omega) (by omega)
        have hs1 : IntKind.i64.wrap ((x : Int) * 8) = (x : Int) * 8 := IntWalk.i64_in _ ⟨by omega, by omega⟩
        have hs2 : IntKind.u8.wrap ((x : Int) * 8) = (x : Int) * 8 := wraps_u8 _ (by omega) (by omega)
        have t0 : ((x : Int) != 0) = decide (x = 1) := by rcases (show x = 0 ∨ x = 1 by omega) with rfl | rfl <;> rfl
        have t1 : ((x : Int) != 1) = decide (x = 0) := by rcases (show x = 0 ∨ x = 1 by omega) with rfl | rfl <;> rfl
        obtain ⟨q, hq⟩ : ∃ q, k / 8 = q := ⟨_, rfl⟩
        have hqi : (k : Int) / 8 = (q : Int) := by omega
        have hq9 : (q : Int) < 16 := by omega
        have hq0 : (0 : Int) ≤ (q : Int) := by omega
        have hq16 : q < 16 := by omega
        rw [hq] at hst hgq
        have cx : wr.cell? ⟨w.heap.size, q, none⟩ = some (.int .u8 ((y : Int) * 16)) := by
          rw [hown.cellAt q (by omega), List.getElem?_map, hgq]; rfl
        have fx := hown.frozenAt q
        have hst5 := (World.ownsRow.stored hown q (.int .u8 ((y : Int) * 16 + (x : Int) * 8))).1
        have e5 : ((bitN bl k).map (Value.int .u8)).set q (Value.int .u8 ((y : Int) * 16 + (x : Int) * 8)) = (bitN bl (k + 1)).map (Value.int .u8) := by
          have h9 := congrArg (List.map (Value.int .u8)) hst
          rw [List.map_set] at h9
          exact h9
        rw [e5] at hst5
        have HO5 := Lib.hid hst5
        have HB5 := Lib.hid (hbl.setCell (p := ⟨w.heap.size, q, none⟩) hBg (.int .u8 ((y : Int) * 16 + (x : Int) * 8)))
        rcases (show x = 0 ∨ x = 1 by omega) with hx01 | hx01
        all_goals
          subst hx01
          simp only [Int.natCast_zero, Int.natCast_one, Int.zero_mul, Int.one_mul, Int.add_zero] at hor hs1 hs2 ck HO5 HB5
          clear t0 t1 hst hx hy hbg hgd hcell hbl hc8 hgq hst5 e5 hown hr hr8 hx2 hx3 hq hyb
          go_wp2_with fail
          go_region
          all_goals
            go_wp2_with fail
            go_roundw
            case measure => simp [intOf]; omega
            case rel => exact ⟨k + 1, by omega, by go_num, HO5.out, HB5.out.drew⟩
      · have hr : k % 8 = 5 := hr8
        have hm : (k : Int) % 8 = 5 := by omega
        have hx2 := hx3
        rw [hr] at hst hgq hx2
        simp only [show 7 - 5 = 2 from rfl, show 8 - 5 = 3 from rfl, show (2 : Nat) ^ 2 = 4 from rfl, show (2 : Nat) ^ 3 = 8 from rfl] at hst hgq hx2
        obtain ⟨x, hx⟩ : ∃ x, (bl.getD (k / 8) 0).toNat / 4 % 2 = x := ⟨_, rfl⟩
        obtain ⟨y, hy⟩ : ∃ y, (bl.getD (k / 8) 0).toNat / 8 = y := ⟨_, rfl⟩
        have hyb : y < 32 := by omega
        rw [hr] at ck
        simp only [show 7 - 5 = 2 from rfl, show (2 : Nat) ^ 2 = 4 from rfl] at ck
        rw [hx] at ck hst hx2
        rw [hy] at hst hgq
        have hor : bits .or .u8 ((y : Int) * 8) ((x : Int) * 4) = (y : Int) * 8 + (x : Int) * 4 := bits_join .u8 8 (by decide) wraps_u8 3 _ _ (by omega) (by omega) (by omega) (by omega) (by omega) (by omega)
        have hs1 : IntKind.i64.wrap ((x : Int) * 4) = (x : Int) * 4 := IntWalk.i64_in _ ⟨by omega, by omega⟩
        have hs2 : IntKind.u8.wrap ((x : Int) * 4) = (x : Int) * 4 := wraps_u8 _ (by omega) (by omega)
        have t0 : ((x : Int) != 0) = decide (x = 1) := by rcases (show x = 0 ∨ x = 1 by omega) with rfl | rfl <;> rfl
        have t1 : ((x : Int) != 1) = decide (x = 0) := by rcases (show x = 0 ∨ x = 1 by omega) with rfl | rfl <;> rfl
        obtain ⟨q, hq⟩ : ∃ q, k / 8 = q := ⟨_, rfl⟩
        have hqi : (k : Int) / 8 = (q : Int) := by omega
        have hq9 : (q : Int) < 16 := by omega
        have hq0 : (0 : Int) ≤ (q : Int) := by omega
        have hq16 : q < 16 := by omega
        rw [hq] at hst hgq
        have cx : wr.cell? ⟨w.heap.size, q, none⟩ = some (.int .u8 ((y : Int) * 8)) := by
          rw [hown.cellAt q (by omega), List.getElem?_map, hgq]; rfl
        have fx := hown.frozenAt q
        have hst5 := (World.ownsRow.stored hown q (.int .u8 ((y : Int) * 8 + (x : Int) * 4))).1
        have e5 : ((bitN bl k).map (Value.int .u8)).set q (Value.int .u8 ((y : Int) * 8 + (x : Int) * 4)) = (bitN bl (k + 1)).map (Value.int .u8) := by
          have h9 := congrArg (List.map (Value.int .u8)) hst
          rw [List.map_set] at h9
          exact h9
        rw [e5] at hst5
        have HO5 := Lib.hid hst5
        have HB5 := Lib.hid (hbl.setCell (p := ⟨w.heap.size, q, none⟩) hBg (.int .u8 ((y : Int) * 8 + (x : Int) * 4)))
        rcases (show x = 0 ∨ x = 1 by omega) with hx01 | hx01
        all_goals
          subst hx01
          simp only [Int.natCast_zero, Int.natCast_one, Int.zero_mul, Int.one_mul, Int.add_zero] at hor hs1 hs2 ck HO5 HB5
          clear t0 t1 hst hx hy hbg hgd hcell hbl hc8 hgq hst5 e5 hown hr hr8 hx2 hx3 hq hyb
          go_wp2_with fail
          go_region
          all_goals
            go_wp2_with fail
            go_roundw
            case measure => simp [intOf]; omega
            case rel => exact ⟨k + 1, by omega, by go_num, HO5.out, HB5.out.drew⟩
      · have hr : k % 8 = 6 := hr8
        have hm : (k : Int) % 8 = 6 := by omega
        have hx2 := hx3
        rw [hr] at hst hgq hx2
        simp only [show 7 - 6 = 1 from rfl, show 8 - 6 = 2 from rfl, show (2 : Nat) ^ 1 = 2 from rfl, show (2 : Nat) ^ 2 = 4 from rfl] at hst hgq hx2
        obtain ⟨x, hx⟩ : ∃ x, (bl.getD (k / 8) 0).toNat / 2 % 2 = x := ⟨_, rfl⟩
        obtain ⟨y, hy⟩ : ∃ y, (bl.getD (k / 8) 0).toNat / 4 = y := ⟨_, rfl⟩
        have hyb : y < 64 := by omega
        rw [hr] at ck
        simp only [show 7 - 6 = 1 from rfl, show (2 : Nat) ^ 1 = 2 from rfl] at ck
        rw [hx] at ck hst hx2
        rw [hy] at hst hgq
        have hor : bits .or .u8 ((y : Int) * 4) ((x : Int) * 2) = (y : Int) * 4 + (x : Int) * 2 := bits_join .u8 8 (by decide) wraps_u8 2 _ _ (by omega) (by omega) (by omega) (by omega) (by omega) (by omega)
        have hs1 : IntKind.i64.wrap ((x : Int) * 2) = (x : Int) * 2 := IntWalk.i64_in _ ⟨by omega, by omega⟩
        have hs2 : IntKind.u8.wrap ((x : Int) * 2) = (x : Int) * 2 := wraps_u8 _ (by omega) (by omega)
        have t0 : ((x : Int) != 0) = decide (x = 1) := by rcases (show x = 0 ∨ x = 1 by omega) with rfl | rfl <;> rfl
        have t1 : ((x : Int) != 1) = decide (x = 0) := by rcases (show x = 0 ∨ x = 1 by omega) with rfl | rfl <;> rfl
        obtain ⟨q, hq⟩ : ∃ q, k / 8 = q := ⟨_, rfl⟩
        have hqi : (k : Int) / 8 = (q : Int) := by omega
        have hq9 : (q : Int) < 16 := by omega
        have hq0 : (0 : Int) ≤ (q : Int) := by omega
        have hq16 : q < 16 := by omega
        rw [hq] at hst hgq
        have cx : wr.cell? ⟨w.heap.size, q, none⟩ = some (.int .u8 ((y : Int) * 4)) := by
          rw [hown.cellAt q (by omega), List.getElem?_map, hgq]; rfl
        have fx := hown.frozenAt q
        have hst5 := (World.ownsRow.stored hown q (.int .u8 ((y : Int) * 4 + (x : Int) * 2))).1
        have e5 : ((bitN bl k).map (Value.int .u8)).set q (Value.int .u8 ((y : Int) * 4 + (x : Int) * 2)) = (bitN bl (k + 1)).map (Value.int .u8) := by
          have h9 := congrArg (List.map (Value.int .u8)) hst
          rw [List.map_set] at h9
          exact h9
        rw [e5] at hst5
        have HO5 := Lib.hid hst5
        have HB5 := Lib.hid (hbl.setCell (p := ⟨w.heap.size, q, none⟩) hBg (.int .u8 ((y : Int) * 4 + (x : Int) * 2)))
        rcases (show x = 0 ∨ x = 1 by omega) with hx01 | hx01
        all_goals
          subst hx01
          simp only [Int.natCast_zero, Int.natCast_one, Int.zero_mul, Int.one_mul, Int.add_zero] at hor hs1 hs2 ck HO5 HB5
          clear t0 t1 hst hx hy hbg hgd hcell hbl hc8 hgq hst5 e5 hown hr hr8 hx2 hx3 hq hyb
          go_wp2_with fail
          go_region
          all_goals
            go_wp2_with fail
            go_roundw
            case measure => simp [intOf]; omega
            case rel => exact ⟨k + 1, by omega, by go_num, HO5.out, HB5.out.drew⟩
      · have hr : k % 8 = 7 := hr8
        have hm : (k : Int) % 8 = 7 := by omega
        have hx2 := hx3
        rw [hr] at hst hgq hx2
        simp only [show 7 - 7 = 0 from rfl, show 8 - 7 = 1 from rfl, show (2 : Nat) ^ 0 = 1 from rfl, show (2 : Nat) ^ 1 = 2 from rfl] at hst hgq hx2
        obtain ⟨x, hx⟩ : ∃ x, (bl.getD (k / 8) 0).toNat / 1 % 2 = x := ⟨_, rfl⟩
        obtain ⟨y, hy⟩ : ∃ y, (bl.getD (k / 8) 0).toNat / 2 = y := ⟨_, rfl⟩
        have hyb : y < 128 := by omega
        rw [hr] at ck
        simp only [show 7 - 7 = 0 from rfl, show (2 : Nat) ^ 0 = 1 from rfl] at ck
        rw [hx] at ck hst hx2
        rw [hy] at hst hgq
        have hor : bits .or .u8 ((y : Int) * 2) ((x : Int) * 1) = (y : Int) * 2 + (x : Int) * 1 := bits_join .u8 8 (by decide) wraps_u8 1 _ _ (by omega) (by omega) (by omega) (by omega) (by omega) (by omega)
        have hs1 : IntKind.i64.wrap ((x : Int) * 1) = (x : Int) * 1 := IntWalk.i64_in _ ⟨by omega, by omega⟩
        have hs2 : IntKind.u8.wrap ((x : Int) * 1) = (x : Int) * 1 := wraps_u8 _ (by omega) (by omega)
        have t0 : ((x : Int) != 0) = decide (x = 1) := by rcases (show x = 0 ∨ x = 1 by omega) with rfl | rfl <;> rfl
        have t1 : ((x : Int) != 1) = decide (x = 0) := by rcases (show x = 0 ∨ x = 1 by omega) with rfl | rfl <;> rfl
        obtain ⟨q, hq⟩ : ∃ q, k / 8 = q := ⟨_, rfl⟩
        have hqi : (k : Int) / 8 = (q : Int) := by omega
        have hq9 : (q : Int) < 16 := by omega
        have hq0 : (0 : Int) ≤ (q : Int) := by omega
        have hq16 : q < 16 := by omega
        rw [hq] at hst hgq
        have cx : wr.cell? ⟨w.heap.size, q, none⟩ = some (.int .u8 ((y : Int) * 2)) := by
          rw [hown.cellAt q (by omega), List.getElem?_map, hgq]; rfl
        have fx := hown.frozenAt q
        have hst5 := (World.ownsRow.stored hown q (.int .u8 ((y : Int) * 2 + (x : Int) * 1))).1
        have e5 : ((bitN bl k).map (Value.int .u8)).set q (Value.int .u8 ((y : Int) * 2 + (x : Int) * 1)) = (bitN bl (k + 1)).map (Value.int .u8) := by
          have h9 := congrArg (List.map (Value.int .u8)) hst
          rw [List.map_set] at h9
          exact h9
        rw [e5] at hst5
        have HO5 := Lib.hid hst5
        have HB5 := Lib.hid (hbl.setCell (p := ⟨w.heap.size, q, none⟩) hBg (.int .u8 ((y : Int) * 2 + (x : Int) * 1)))
        rcases (show x = 0 ∨ x = 1 by omega) with hx01 | hx01
        all_goals
          subst hx01
          simp only [Int.natCast_zero, Int.natCast_one, Int.zero_mul, Int.one_mul, Int.add_zero] at hor hs1 hs2 ck HO5 HB5
          clear t0 t1 hst hx hy hbg hgd hcell hbl hc8 hgq hst5 e5 hown hr hr8 hx2 hx3 hq hyb
          go_wp2_with fail
          go_region
          all_goals
            go_wp2_with fail
            go_roundw
            case measure => simp [intOf]; omega
            case rel => exact ⟨k + 1, by omega, by go_num, HO5.out, HB5.out.drew⟩
    · have hk6 : k = 128 := by omega
      subst hk6
      rw [bitN_end bl HB.out] at hown
      have hcv := row_string wr w.heap.size w.heap.size 16 bl 16 hown HB.out
      have HBL := Lib.hid hbl
      clear hown hbl
      go_wp2_with fail
      go_ret2
      exact ⟨rfl, HBL.out⟩
set_option maxRecDepth 100000 in
set_option maxHeartbeats 1000000 in
theorem p_Unpack0 (p : Nat) (v : Value) (bl : List UInt8) (S : Nat → Prop) (w : World) (hw : BasesOk w) (hp : Prm p) (h1 : p < 256) (hv : IntsAt w S v (bitsL bl)) (hS : ∀ b, S b → b < w.heap.size) (hb : bl.length = 16) :
    Calls Tryz.prog 73 #[.int .i64 (p : Int), v, .int .i64 16] w fun e w' => e = .returned (.tuple #[.string ⟨bl.toArray⟩, .int .i64 0]) ∧ Below w.heap.size w w' := by
  obtain ⟨A, n, c, rfl, hn, -⟩ := id hv
  have hn6 : n = 128 := by rw [hn, bitsL_len, hb]
  subst hn6
  have hvl := f_Valid p w hw hp (by omega)
  have hwid := fun W => p_Width p W (by omega)
  rw [wid0 h1] at hwid
  have hcnt := fun W => p_Count p W (by omega)
  rw [cnt0 h1] at hcnt
  have hbb := fun (W : World) (hW : Below w.heap.size w W) => p_byBits (.slice A 128 c) bl S W (hv.keep fun b hb => hW.block b (hS b hb)) (fun b hb => Nat.lt_of_lt_of_le (hS b hb) hW.size) hb
  have HV := Lib.hid hvl
  have HWID := Lib.hid hwid
  have HCNT := Lib.hid hcnt
  have HBB := Lib.hid hbb
  clear hvl hwid hcnt hbb hv hn hb hw
  go_enter Tryz.func73, Tryz.ntmps73
  go_wp2_with fail
  refine HV.out.mono ?_
  rintro e w' ⟨rfl, rfl⟩
  go_wp2_with fail
  refine (HCNT.out _).mono ?_
  rintro e w1 ⟨rfl, hb1⟩
  have HB1 := Lib.hid hb1
  clear hb1
  go_wp2_with fail
  refine (HWID.out _).mono ?_
  rintro e w' ⟨rfl, rfl⟩
  go_wp2_with fail
  refine (HBB.out _ HB1.out).mono ?_
  rintro e w2 ⟨rfl, hb2⟩
  have HB2 := Lib.hid (HB1.out.trans (hb2.mono HB1.out.size))
  clear hb2
  go_wp2_with fail
  go_ret2
  exact ⟨rfl, HB2.out⟩
end Go.Proofs.YtjfphobfikadlaaGreatDoor
