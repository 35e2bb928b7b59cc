/- Contracts: sixteen bytes as bits. -/
import Derived.Test.YtjfphobfikadlaaGreatDoorY27
set_option linter.unusedVariables false
set_option linter.unusedSimpArgs false
namespace Go.Proofs.YtjfphobfikadlaaGreatDoor
open Go.RowKit Num

/-- The bits of bytes, the greatest first. -/
def bitsL (l : List UInt8) : List Int := (List.range (8 * l.length)).map fun i => (((l.getD (i / 8) 0).toNat / 2 ^ (7 - i % 8) % 2 : Nat) : Int)
theorem bitsL_len (l : List UInt8) : (bitsL l).length = 8 * l.length := by simp [bitsL]
theorem bit_get (l : List UInt8) (k j : Nat) (hk : k < l.length) (hj : j < 8) : (bitsL l).getD (8 * k + j) 0 = (((l[k]).toNat / 2 ^ (7 - j) % 2 : Nat) : Int) := by
  unfold bitsL
  rw [List.getD_eq_getElem?_getD, List.getElem?_map, List.getElem?_range (by omega)]
  simp only [Option.map_some, Option.getD_some]
  rw [show (8 * k + j) / 8 = k by omega, show (8 * k + j) % 8 = j by omega, List.getD_eq_getElem?_getD, List.getElem?_eq_getElem hk]; rfl
theorem take_more (l : List Int) (k : Nat) (h : k < l.length) : l.take (k + 1) = l.take k ++ [l.getD k 0] := by
  rw [List.take_succ_eq_append_getElem h, List.getD_eq_getElem?_getD, List.getElem?_eq_getElem h]; rfl
set_option maxRecDepth 100000 in
theorem and_1B : ∀ a : Fin 256, bits .and .u8 ((a.val : Nat) : Int) 1 = ((a.val % 2 : Nat) : Int) := by decide
theorem and_one (x : Nat) (h : x < 256) : bits .and .u8 ((x : Nat) : Int) 1 = ((x % 2 : Nat) : Int) := and_1B ⟨x, h⟩
theorem wid0 {p : Nat} (h : p < 256) : widP p = 0 := by unfold widP; rw [if_pos h]
theorem cnt0 {p : Nat} (h : p < 256) : cntP p = 128 := by unfold cntP; rw [wid0 h]; rfl
set_option maxRecDepth 100000 in
set_option maxHeartbeats 4000000 in
theorem p_Pack0 (p : Nat) (s : ByteArray) (w : World) (hw : BasesOk w) (hp : Prm p) (h2 : p < 256) (hs : s.size = 16) :
    Calls Tryz.prog 67 #[.int .i64 (p : Int), .string s] w (IntsPost2 (bitsL s.data.toList) w) := by
  obtain ⟨i0, hi, hz0, hz1, hz2⟩ := info_parts infoI
  have hv := f_Valid p w hw hp (by omega)
  have hwid := fun W => p_Width p W (by omega)
  rw [wid0 h2] at hwid
  have hcnt := fun W => p_Count p W (by omega)
  rw [cnt0 h2] at hcnt
  have hll : s.data.toList.length = 16 := by simpa using hs
  have hcp := fun W => conv_part W s s.data.toList 16 rfl hll
  have HV := Lib.hid hv
  have HWID := Lib.hid hwid
  have HCNT := Lib.hid hcnt
  have HLL := Lib.hid hll
  have HCP := Lib.hid hcp
  clear hv hwid hcnt hw hll hcp
  go_enter Tryz.func67, Tryz.ntmps67
  go_wp2_with fail
  refine HV.out.mono ?_
  rintro e w' ⟨rfl, rfl⟩
  go_wp2_with fail
  refine (HCNT.out _).mono ?_
  rintro e w1 ⟨rfl, hb1⟩
  have HB1 := Lib.hid hb1
  clear hb1
  go_wp2_with fail
  refine (HWID.out _).mono ?_
  rintro e w' ⟨rfl, rfl⟩
  obtain ⟨cap, w2, hcv, hcap, hb2, hcell⟩ := HCP.out w1
  have HCL := Lib.hid hcell
  have HB2 := Lib.hid (HB1.out.trans (hb2.mono HB1.out.size))
  have hz1w := HB1.out.size
  have hz2w := hb2.size
  clear hcell hb2 hs
  go_wp2_with fail
  go_loopw [31, 6] (fun t o wr => ∃ k : Nat, k ≤ 16 ∧ t = .int .i64 (k : Int) ∧ wr.ownsRow w2.heap.size 3 1 o (8 * k) (((bitsL s.data.toList).take (8 * k)).map (Value.int .i64)) ∧ Below w2.heap.size w2 wr) (fun t _ _ => 16 - (intOf t).toNat)
  case atStart => exact ⟨0, by omega, rfl, World.ownsRow_nil _ _ _ _, Below.refl _ _⟩
  case round =>
    obtain ⟨k, hk, rfl, hown, hbl⟩ := hrel
    have hzz := hbl.size
    by_cases hlt : k < 16
    · have hkl : k < s.data.toList.length := by rw [HLL.out]; exact hlt
      have hcx0 := HCL.out k _ (List.getElem?_eq_getElem hkl)
      have hcx1 := (hbl.cell (p := ⟨w1.heap.size, k, none⟩) (World.block_lt_of_cell? _ _ hcx0)).trans hcx0
      have hc8 := (s.data.toList[k]).toNat_lt
      obtain ⟨c, hcx⟩ : ∃ c, (s.data.toList[k]).toNat = c := ⟨_, rfl⟩
      rw [hcx] at hcx1 hc8
      have qk : (k : Int) < 16 := by omega
      have HOWN := Lib.hid hown
      have HBL := Lib.hid hbl
      have HCX := Lib.hid hcx
      clear hown hbl hcx0 hcx
      obtain ⟨wo, hwo⟩ : ∃ wo : World, wo = wr := ⟨_, rfl⟩
      subst hwo
      go_wp2_with fail
      go_loopw [10, 6] (fun t o wr => ∃ j : Nat, j ≤ 8 ∧ t = .int .i64 (7 - (j : Int)) ∧ wr.ownsRow w2.heap.size 3 1 o (8 * k + j) (((bitsL s.data.toList).take (8 * k + j)).map (Value.int .i64)) ∧ Below w2.heap.size w2 wr) (fun t _ _ => (intOf t + 1).toNat)
      case atStart => exact ⟨0, by omega, rfl, HOWN.out, HBL.out⟩
      case round =>
        obtain ⟨j, hj, rfl, hownj, hblj⟩ := hrel
        have hzj := hblj.size
        have hcx := HCX.out
        have HOJ := Lib.hid hownj
        have HBJ := Lib.hid hblj
        clear hblj hownj
        rcases (show j = 0 ∨ j = 1 ∨ j = 2 ∨ j = 3 ∨ j = 4 ∨ j = 5 ∨ j = 6 ∨ j = 7 ∨ j = 8 by omega) with rfl | rfl | rfl | rfl | rfl | rfl | rfl | rfl | rfl
        · have hbit := bit_get s.data.toList k 0 hkl (by decide)
          rw [hcx] at hbit
          clear hcx
          have hst := take_more (bitsL s.data.toList) (8 * k + 0) (by rw [bitsL_len, HLL.out]; omega)
          rw [hbit] at hst
          have hand : bits .and .u8 (((c / 128 : Nat)) : Int) 1 = ((c / 128 % 2 : Nat) : Int) := and_one _ (by omega)
          have hdiv : (c : Int) / 128 = ((c / 128 : Nat) : Int) := by omega
          obtain ⟨y, hy⟩ : ∃ y, c / 128 % 2 = y := ⟨_, rfl⟩
          rw [show c / 2 ^ (7 - 0) % 2 = y from hy] at hst
          rw [hy] at hand
          rw [← hdiv] at hand
          have HST := Lib.hid hst
          have hy2 : y < 2 := by omega
          clear hst hbit hy hdiv
          go_wp2_with (at_builtin; refine wpList_append_own _ rfl _ _ 24 rfl w2.heap.size 3 i0 (.int .i64 0) 1 8 Tryz.underlying24 hi hz0 hz1 hz2 rfl (by decide) _ _ _ rfl (HOJ.out.alloc _) ⟨wr.heap.size, 0, none⟩ 1 1 [.int .i64 (y : Int)] rfl rfl (fun j u hj => by have := cell_one_new wr (.int .i64 (y : Int)) 3 j u hj; simpa using this) (ints_oneCell .i64 [_]) (by unfold maxLen; omega) (by omega) (by simp; omega) ?_)
          intro v' w5 hown' hgrow _
          have hg := grown_past hgrow
          have hown2 : w5.ownsRow w2.heap.size 3 1 v' (8 * k + 1) (((bitsL s.data.toList).take (8 * k + 1)).map (Value.int .i64)) := by
            rw [show 8 * k + 1 = 8 * k + 0 + 1 from rfl, HST.out, List.map_append]; simpa using hown'
          have hul : ∀ g, (u6 : Value).ownBlock = some g → w2.heap.size ≤ g := fun g hg => (HOJ.out.lt g hg).1
          have HO5 := Lib.hid hown2
          have HB5 := Lib.hid (HBJ.out.grown hg hzj hul)
          clear hown' hgrow hg hown2 hul
          go_wp2_with fail
          go_roundw
          case measure => simp [intOf]
          case rel => exact ⟨1, by omega, rfl, HO5.out, HB5.out⟩
        · have hbit := bit_get s.data.toList k 1 hkl (by decide)
          rw [hcx] at hbit
          clear hcx
          have hst := take_more (bitsL s.data.toList) (8 * k + 1) (by rw [bitsL_len, HLL.out]; omega)
          rw [hbit] at hst
          have hand : bits .and .u8 (((c / 64 : Nat)) : Int) 1 = ((c / 64 % 2 : Nat) : Int) := and_one _ (by omega)
          have hdiv : (c : Int) / 64 = ((c / 64 : Nat) : Int) := by omega
          obtain ⟨y, hy⟩ : ∃ y, c / 64 % 2 = y := ⟨_, rfl⟩
          rw [show c / 2 ^ (7 - 1) % 2 = y from hy] at hst
          rw [hy] at hand
          rw [← hdiv] at hand
          have HST := Lib.hid hst
          have hy2 : y < 2 := by omega
          clear hst hbit hy hdiv
          go_wp2_with (at_builtin; refine wpList_append_own _ rfl _ _ 24 rfl w2.heap.size 3 i0 (.int .i64 0) 1 8 Tryz.underlying24 hi hz0 hz1 hz2 rfl (by decide) _ _ _ rfl (HOJ.out.alloc _) ⟨wr.heap.size, 0, none⟩ 1 1 [.int .i64 (y : Int)] rfl rfl (fun j u hj => by have := cell_one_new wr (.int .i64 (y : Int)) 3 j u hj; simpa using this) (ints_oneCell .i64 [_]) (by unfold maxLen; omega) (by omega) (by simp; omega) ?_)
          intro v' w5 hown' hgrow _
          have hg := grown_past hgrow
          have hown2 : w5.ownsRow w2.heap.size 3 1 v' (8 * k + 2) (((bitsL s.data.toList).take (8 * k + 2)).map (Value.int .i64)) := by
            rw [show 8 * k + 2 = 8 * k + 1 + 1 from rfl, HST.out, List.map_append]; simpa using hown'
          have hul : ∀ g, (u6 : Value).ownBlock = some g → w2.heap.size ≤ g := fun g hg => (HOJ.out.lt g hg).1
          have HO5 := Lib.hid hown2
          have HB5 := Lib.hid (HBJ.out.grown hg hzj hul)
          clear hown' hgrow hg hown2 hul
          go_wp2_with fail
          go_roundw
          case measure => simp [intOf]
          case rel => exact ⟨2, by omega, rfl, HO5.out, HB5.out⟩
        · have hbit := bit_get s.data.toList k 2 hkl (by decide)
          rw [hcx] at hbit
          clear hcx
          have hst := take_more (bitsL s.data.toList) (8 * k + 2) (by rw [bitsL_len, HLL.out]; omega)
          rw [hbit] at hst
          have hand : bits .and .u8 (((c / 32 : Nat)) : Int) 1 = ((c / 32 % 2 : Nat) : Int) := and_one _ (by omega)
          have hdiv : (c : Int) / 32 = ((c / 32 : Nat) : Int) := by omega
          obtain ⟨y, hy⟩ : ∃ y, c / 32 % 2 = y := ⟨_, rfl⟩
          rw [show c / 2 ^ (7 - 2) % 2 = y from hy] at hst
          rw [hy] at hand
          rw [← hdiv] at hand
          have HST := Lib.hid hst
          have hy2 : y < 2 := by omega
          clear hst hbit hy hdiv
          go_wp2_with (at_builtin; refine wpList_append_own _ rfl _ _ 24 rfl w2.heap.size 3 i0 (.int .i64 0) 1 8 Tryz.underlying24 hi hz0 hz1 hz2 rfl (by decide) _ _ _ rfl (HOJ.out.alloc _) ⟨wr.heap.size, 0, none⟩ 1 1 [.int .i64 (y : Int)] rfl rfl (fun j u hj => by have := cell_one_new wr (.int .i64 (y : Int)) 3 j u hj; simpa using this) (ints_oneCell .i64 [_]) (by unfold maxLen; omega) (by omega) (by simp; omega) ?_)
          intro v' w5 hown' hgrow _
          have hg := grown_past hgrow
          have hown2 : w5.ownsRow w2.heap.size 3 1 v' (8 * k + 3) (((bitsL s.data.toList).take (8 * k + 3)).map (Value.int .i64)) := by
            rw [show 8 * k + 3 = 8 * k + 2 + 1 from rfl, HST.out, List.map_append]; simpa using hown'
          have hul : ∀ g, (u6 : Value).ownBlock = some g → w2.heap.size ≤ g := fun g hg => (HOJ.out.lt g hg).1
          have HO5 := Lib.hid hown2
          have HB5 := Lib.hid (HBJ.out.grown hg hzj hul)
          clear hown' hgrow hg hown2 hul
          go_wp2_with fail
          go_roundw
          case measure => simp [intOf]
          case rel => exact ⟨3, by omega, rfl, HO5.out, HB5.out⟩
        · have hbit := bit_get s.data.toList k 3 hkl (by decide)
          rw [hcx] at hbit
          clear hcx
          have hst := take_more (bitsL s.data.toList) (8 * k + 3) (by rw [bitsL_len, HLL.out]; omega)
          rw [hbit] at hst
          have hand : bits .and .u8 (((c / 16 : Nat)) : Int) 1 = ((c / 16 % 2 : Nat) : Int) := and_one _ (by omega)
          have hdiv : (c : Int) / 16 = ((c / 16 : Nat) : Int) := by omega
          obtain ⟨y, hy⟩ : ∃ y, c / 16 % 2 = y := ⟨_, rfl⟩
          rw [show c / 2 ^ (7 - 3) % 2 = y from hy] at hst
          rw [hy] at hand
          rw [← hdiv] at hand
          have HST := Lib.hid hst
          have hy2 : y < 2 := by omega
          clear hst hbit hy hdiv
          go_wp2_with (at_builtin; refine wpList_append_own _ rfl _ _ 24 rfl w2.heap.size 3 i0 (.int .i64 0) 1 8 Tryz.underlying24 hi hz0 hz1 hz2 rfl (by decide) _ _ _ rfl (HOJ.out.alloc _) ⟨wr.heap.size, 0, none⟩ 1 1 [.int .i64 (y : Int)] rfl rfl (fun j u hj => by have := cell_one_new wr (.int .i64 (y : Int)) 3 j u hj; simpa using this) (ints_oneCell .i64 [_]) (by unfold maxLen; omega) (by omega) (by simp; omega) ?_)
          intro v' w5 hown' hgrow _
          have hg := grown_past hgrow
          have hown2 : w5.ownsRow w2.heap.size 3 1 v' (8 * k + 4) (((bitsL s.data.toList).take (8 * k + 4)).map (Value.int .i64)) := by
            rw [show 8 * k + 4 = 8 * k + 3 + 1 from rfl, HST.out, List.map_append]; simpa using hown'
          have hul : ∀ g, (u6 : Value).ownBlock = some g → w2.heap.size ≤ g := fun g hg => (HOJ.out.lt g hg).1
          have HO5 := Lib.hid hown2
          have HB5 := Lib.hid (HBJ.out.grown hg hzj hul)
          clear hown' hgrow hg hown2 hul
          go_wp2_with fail
          go_roundw
          case measure => simp [intOf]
          case rel => exact ⟨4, by omega, rfl, HO5.out, HB5.out⟩
        · have hbit := bit_get s.data.toList k 4 hkl (by decide)
          rw [hcx] at hbit
          clear hcx
          have hst := take_more (bitsL s.data.toList) (8 * k + 4) (by rw [bitsL_len, HLL.out]; omega)
          rw [hbit] at hst
          have hand : bits .and .u8 (((c / 8 : Nat)) : Int) 1 = ((c / 8 % 2 : Nat) : Int) := and_one _ (by omega)
          have hdiv : (c : Int) / 8 = ((c / 8 : Nat) : Int) := by omega
          obtain ⟨y, hy⟩ : ∃ y, c / 8 % 2 = y := ⟨_, rfl⟩
          rw [show c / 2 ^ (7 - 4) % 2 = y from hy] at hst
          rw [hy] at hand
          rw [← hdiv] at hand
          have HST := Lib.hid hst
          have hy2 : y < 2 := by omega
          clear hst hbit hy hdiv
          go_wp2_with (at_builtin; refine wpList_append_own _ rfl _ _ 24 rfl w2.heap.size 3 i0 (.int .i64 0) 1 8 Tryz.underlying24 hi hz0 hz1 hz2 rfl (by decide) _ _ _ rfl (HOJ.out.alloc _) ⟨wr.heap.size, 0, none⟩ 1 1 [.int .i64 (y : Int)] rfl rfl (fun j u hj => by have := cell_one_new wr (.int .i64 (y : Int)) 3 j u hj; simpa using this) (ints_oneCell .i64 [_]) (by unfold maxLen; omega) (by omega) (by simp; omega) ?_)
          intro v' w5 hown' hgrow _
          have hg := grown_past hgrow
          have hown2 : w5.ownsRow w2.heap.size 3 1 v' (8 * k + 5) (((bitsL s.data.toList).take (8 * k + 5)).map (Value.int .i64)) := by
            rw [show 8 * k + 5 = 8 * k + 4 + 1 from rfl, HST.out, List.map_append]; simpa using hown'
          have hul : ∀ g, (u6 : Value).ownBlock = some g → w2.heap.size ≤ g := fun g hg => (HOJ.out.lt g hg).1
          have HO5 := Lib.hid hown2
          have HB5 := Lib.hid (HBJ.out.grown hg hzj hul)
          clear hown' hgrow hg hown2 hul
          go_wp2_with fail
          go_roundw
          case measure => simp [intOf]
          case rel => exact ⟨5, by omega, rfl, HO5.out, HB5.out⟩
        · have hbit := bit_get s.data.toList k 5 hkl (by decide)
          rw [hcx] at hbit
          clear hcx
          have hst := take_more (bitsL s.data.toList) (8 * k + 5) (by rw [bitsL_len, HLL.out]; omega)
          rw [hbit] at hst
          have hand : bits .and .u8 (((c / 4 : Nat)) : Int) 1 = ((c / 4 % 2 : Nat) : Int) := and_one _ (by omega)
          have hdiv : (c : Int) / 4 = ((c / 4 : Nat) : Int) := by omega
          obtain ⟨y, hy⟩ : ∃ y, c / 4 % 2 = y := ⟨_, rfl⟩
          rw [show c / 2 ^ (7 - 5) % 2 = y from hy] at hst
          rw [hy] at hand
          rw [← hdiv] at hand
          have HST := Lib.hid hst
          have hy2 : y < 2 := by omega
          clear hst hbit hy hdiv
          go_wp2_with (at_builtin; refine wpList_append_own _ rfl _ _ 24 rfl w2.heap.size 3 i0 (.int .i64 0) 1 8 Tryz.underlying24 hi hz0 hz1 hz2 rfl (by decide) _ _ _ rfl (HOJ.out.alloc _) ⟨wr.heap.size, 0, none⟩ 1 1 [.int .i64 (y : Int)] rfl rfl (fun j u hj => by have := cell_one_new wr (.int .i64 (y : Int)) 3 j u hj; simpa using this) (ints_oneCell .i64 [_]) (by unfold maxLen; omega) (by omega) (by simp; omega) ?_)
          intro v' w5 hown' hgrow _
          have hg := grown_past hgrow
          have hown2 : w5.ownsRow w2.heap.size 3 1 v' (8 * k + 6) (((bitsL s.data.toList).take (8 * k + 6)).map (Value.int .i64)) := by
            rw [show 8 * k + 6 = 8 * k + 5 + 1 from rfl, HST.out, List.map_append]; simpa using hown'
          have hul : ∀ g, (u6 : Value).ownBlock = some g → w2.heap.size ≤ g := fun g hg => (HOJ.out.lt g hg).1
          have HO5 := Lib.hid hown2
          have HB5 := Lib.hid (HBJ.out.grown hg hzj hul)
          clear hown' hgrow hg hown2 hul
          go_wp2_with fail
          go_roundw
          case measure => simp [intOf]
          case rel => exact ⟨6, by omega, rfl, HO5.out, HB5.out⟩
        · have hbit := bit_get s.data.toList k 6 hkl (by decide)
          rw [hcx] at hbit
          clear hcx
          have hst := take_more (bitsL s.data.toList) (8 * k + 6) (by rw [bitsL_len, HLL.out]; omega)
          rw [hbit] at hst
          have hand : bits .and .u8 (((c / 2 : Nat)) : Int) 1 = ((c / 2 % 2 : Nat) : Int) := and_one _ (by omega)
          have hdiv : (c : Int) / 2 = ((c / 2 : Nat) : Int) := by omega
          obtain ⟨y, hy⟩ : ∃ y, c / 2 % 2 = y := ⟨_, rfl⟩
          rw [show c / 2 ^ (7 - 6) % 2 = y from hy] at hst
          rw [hy] at hand
          rw [← hdiv] at hand
          have HST := Lib.hid hst
          have hy2 : y < 2 := by omega
          clear hst hbit hy hdiv
          go_wp2_with (at_builtin; refine wpList_append_own _ rfl _ _ 24 rfl w2.heap.size 3 i0 (.int .i64 0) 1 8 Tryz.underlying24 hi hz0 hz1 hz2 rfl (by decide) _ _ _ rfl (HOJ.out.alloc _) ⟨wr.heap.size, 0, none⟩ 1 1 [.int .i64 (y : Int)] rfl rfl (fun j u hj => by have := cell_one_new wr (.int .i64 (y : Int)) 3 j u hj; simpa using this) (ints_oneCell .i64 [_]) (by unfold maxLen; omega) (by omega) (by simp; omega) ?_)
          intro v' w5 hown' hgrow _
          have hg := grown_past hgrow
          have hown2 : w5.ownsRow w2.heap.size 3 1 v' (8 * k + 7) (((bitsL s.data.toList).take (8 * k + 7)).map (Value.int .i64)) := by
            rw [show 8 * k + 7 = 8 * k + 6 + 1 from rfl, HST.out, List.map_append]; simpa using hown'
          have hul : ∀ g, (u6 : Value).ownBlock = some g → w2.heap.size ≤ g := fun g hg => (HOJ.out.lt g hg).1
          have HO5 := Lib.hid hown2
          have HB5 := Lib.hid (HBJ.out.grown hg hzj hul)
          clear hown' hgrow hg hown2 hul
          go_wp2_with fail
          go_roundw
          case measure => simp [intOf]
          case rel => exact ⟨7, by omega, rfl, HO5.out, HB5.out⟩
        · have hbit := bit_get s.data.toList k 7 hkl (by decide)
          rw [hcx] at hbit
          clear hcx
          have hst := take_more (bitsL s.data.toList) (8 * k + 7) (by rw [bitsL_len, HLL.out]; omega)
          rw [hbit] at hst
          have hand : bits .and .u8 ((c : Nat) : Int) 1 = ((c / 1 % 2 : Nat) : Int) := by rw [Nat.div_one]; exact and_one _ (by omega)
          have hdiv : (c : Int) / 1 = ((c / 1 : Nat) : Int) := by omega
          obtain ⟨y, hy⟩ : ∃ y, c / 1 % 2 = y := ⟨_, rfl⟩
          rw [show c / 2 ^ (7 - 7) % 2 = y from hy] at hst
          rw [hy] at hand
          skip
          have HST := Lib.hid hst
          have hy2 : y < 2 := by omega
          clear hst hbit hy hdiv
          go_wp2_with (at_builtin; refine wpList_append_own _ rfl _ _ 24 rfl w2.heap.size 3 i0 (.int .i64 0) 1 8 Tryz.underlying24 hi hz0 hz1 hz2 rfl (by decide) _ _ _ rfl (HOJ.out.alloc _) ⟨wr.heap.size, 0, none⟩ 1 1 [.int .i64 (y : Int)] rfl rfl (fun j u hj => by have := cell_one_new wr (.int .i64 (y : Int)) 3 j u hj; simpa using this) (ints_oneCell .i64 [_]) (by unfold maxLen; omega) (by omega) (by simp; omega) ?_)
          intro v' w5 hown' hgrow _
          have hg := grown_past hgrow
          have hown2 : w5.ownsRow w2.heap.size 3 1 v' (8 * k + 8) (((bitsL s.data.toList).take (8 * k + 8)).map (Value.int .i64)) := by
            rw [show 8 * k + 8 = 8 * k + 7 + 1 from rfl, HST.out, List.map_append]; simpa using hown'
          have hul : ∀ g, (u6 : Value).ownBlock = some g → w2.heap.size ≤ g := fun g hg => (HOJ.out.lt g hg).1
          have HO5 := Lib.hid hown2
          have HB5 := Lib.hid (HBJ.out.grown hg hzj hul)
          clear hown' hgrow hg hown2 hul
          go_wp2_with fail
          go_roundw
          case measure => simp [intOf]
          case rel => exact ⟨8, by omega, rfl, HO5.out, HB5.out⟩
        · clear hcx
          go_wp2_with fail
          go_roundw
          case measure => simp [intOf]; omega
          case rel => exact ⟨k + 1, by omega, by go_num, HOJ.out, HBJ.out⟩
    · have hk6 : k = 16 := by omega
      subst hk6
      have HOWN := Lib.hid hown
      have HBL := Lib.hid hbl
      clear hown hbl
      go_wp2_with fail
      go_ret2
      have h := HOWN.out
      rw [List.take_of_length_le (by rw [bitsL_len, HLL.out]; decide)] at h
      exact ⟨_, rfl, (IntsAt.of_own h).mono (fun b hb => ⟨by have := hb.1; omega, hb.2⟩), HB2.out.trans (HBL.out.mono HB2.out.size)⟩
end Go.Proofs.YtjfphobfikadlaaGreatDoor
