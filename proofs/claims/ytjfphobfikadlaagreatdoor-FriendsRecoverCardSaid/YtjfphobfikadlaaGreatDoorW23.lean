/- Contracts: the reference's bytes as elements: of three bytes each, or bits. Contracts: the kit's Word; two lists of numbers, whether they are equal. -/
import Derived.Test.YtjfphobfikadlaaGreatDoorW22
import Derived.Test.YtjfphobfikadlaaGreatDoorW14
import Derived.Test.YtjfphobfikadlaaGreatDoorW03
import Derived.BigRegion
set_option linter.unusedVariables false
set_option linter.unusedSimpArgs false
namespace Go.Proofs.YtjfphobfikadlaaGreatDoor
open Go.RowKit Num

set_option maxHeartbeats 1000000 in
theorem r_Width (p : Nat) (w : World) (h2 : p ≤ 1073741824) :
    Calls Tryz.prog 81 #[.int .i64 (p : Int)] w fun e w' => e = .returned (.int .i64 ((widP p : Nat) : Int)) ∧ w = w' := by
  obtain ⟨v, hv⟩ : ∃ v, widP p = v := ⟨_, rfl⟩
  have hc : (v = 0 ∧ p < 256) ∨ (v = 1 ∧ 256 ≤ p ∧ p < 65536) ∨ (v = 2 ∧ 65536 ≤ p ∧ p < 16777216) ∨ (v = 3 ∧ 16777216 ≤ p) := by
    unfold widP at hv; repeat' split at hv
    all_goals omega
  rw [hv]
  clear hv
  go_enter Tryz.func81, Tryz.ntmps81
  go_wp2_with fail
  go_loopw [3, 4] (fun x t wr => ∃ k : Nat, k ≤ v ∧ x = .int .i64 (k : Int) ∧ t = .int .i64 ((256 ^ (k + 1) : Nat) : Int) ∧ w = wr) (fun x _ _ => 3 - (intOf x).toNat)
  case atStart => exact ⟨0, by omega, rfl, rfl, rfl⟩
  case round =>
    obtain ⟨k, hk, rfl, rfl, rfl⟩ := hrel
    rcases (show (k = 0 ∧ v = 0) ∨ (k = 0 ∧ 0 < v) ∨ (k = 1 ∧ v = 1) ∨ (k = 1 ∧ 1 < v) ∨ (k = 2 ∧ v = 2) ∨ (k = 2 ∧ 2 < v) ∨ (k = 3 ∧ v = 3) by omega) with ⟨rfl, rfl⟩ | ⟨rfl, hv⟩ | ⟨rfl, rfl⟩ | ⟨rfl, hv⟩ | ⟨rfl, rfl⟩ | ⟨rfl, hv⟩ | ⟨rfl, rfl⟩
    · have t : decide ((256 : Int) ≤ (p : Int)) = false := decide_eq_false (by omega)
      go_wp2_with fail
      go_ret
      exact ⟨rfl, rfl⟩
    · have t : decide ((256 : Int) ≤ (p : Int)) = true := decide_eq_true (by omega)
      go_wp2_with fail
      go_roundw
      case measure => simp [intOf]
      case rel => exact ⟨1, by omega, rfl, rfl, trivial⟩
    · have t : decide ((65536 : Int) ≤ (p : Int)) = false := decide_eq_false (by omega)
      go_wp2_with fail
      go_ret
      exact ⟨rfl, rfl⟩
    · have t : decide ((65536 : Int) ≤ (p : Int)) = true := decide_eq_true (by omega)
      go_wp2_with fail
      go_roundw
      case measure => simp [intOf]
      case rel => exact ⟨2, by omega, rfl, rfl, trivial⟩
    · have t : decide ((16777216 : Int) ≤ (p : Int)) = false := decide_eq_false (by omega)
      go_wp2_with fail
      go_ret
      exact ⟨rfl, rfl⟩
    · have t : decide ((16777216 : Int) ≤ (p : Int)) = true := decide_eq_true (by omega)
      go_wp2_with fail
      go_roundw
      case measure => simp [intOf]
      case rel => exact ⟨3, by omega, rfl, rfl, trivial⟩
    · go_wp2_with fail
      go_ret
      exact ⟨rfl, rfl⟩
set_option maxHeartbeats 1000000 in
theorem r_Count (p : Nat) (w : World) (h2 : p ≤ 1073741824) :
    Calls Tryz.prog 75 #[.int .i64 (p : Int), .int .i64 16] w (IntBelowM ((cntP p : Nat) : Int) w) := by
  have hw := fun W => r_Width p W h2
  have hle := widP_le p
  unfold cntP
  obtain ⟨v, hv⟩ : ∃ v, widP p = v := ⟨_, rfl⟩
  rw [hv] at hw hle ⊢
  have HW := Lib.hid hw
  clear hw hv
  rcases (show v = 0 ∨ v = 1 ∨ v = 2 ∨ v = 3 by omega) with rfl | rfl | rfl | rfl
  · go_enter Tryz.func75, Tryz.ntmps75
    go_wp2_with fail
    refine (HW.out _).mono ?_
    rintro e w' ⟨rfl, rfl⟩
    go_wp2_with fail
    go_ret
    exact ⟨rfl, Below.refl _ _⟩
  all_goals
    go_enter Tryz.func75, Tryz.ntmps75
    go_wp2_with fail
    refine (HW.out _).mono ?_
    rintro e w' ⟨rfl, rfl⟩
    go_wp2_with fail
    go_ret
    exact ⟨rfl, Below.refl _ _⟩
theorem pk3_take (l : List UInt8) (i k : Nat) : pk3 (l.take i) k = chunkN ((l.drop (3 * k)).take (min 3 (i - 3 * k))) := by
  unfold pk3; rw [List.drop_take, List.take_take]
theorem pack3_el (l : List UInt8) (k : Nat) (h : k < (pack3 l).length) : (pack3 l)[k] = ((pk3 l k : Nat) : Int) := by
  have e := pack3_get l k (by rw [pack3_len] at h; exact h)
  rw [List.getD_eq_getElem?_getD, List.getElem?_eq_getElem h] at e
  exact e
theorem drop_takes (l : List UInt8) (a r : Nat) (h : a + r < l.length) : (l.drop a).take (r + 1) = (l.drop a).take r ++ [l[a + r]] := by
  rw [List.take_succ_eq_append_getElem (by rw [List.length_drop]; omega), List.getElem_drop]
/-- One byte more: a new element. -/
theorem pack3_next0 (l : List UInt8) (i : Nat) (hi : i < l.length) (h : i % 3 = 0) : pack3 (l.take (i + 1)) = pack3 (l.take i) ++ [((l[i]).toNat : Int)] := by
  have h1 : (l.take i).length = i := by rw [List.length_take]; omega
  have h2 : (l.take (i + 1)).length = i + 1 := by rw [List.length_take]; omega
  apply List.ext_getElem
  · rw [List.length_append, pack3_len, pack3_len, h1, h2]; simp; omega
  · intro k a b
    rw [pack3_len, h2] at a
    rw [pack3_el, List.getElem_append]
    by_cases hk : k < (pack3 (l.take i)).length
    · rw [dif_pos hk, pack3_el]
      rw [pack3_len, h1] at hk
      rw [pk3_take, pk3_take, show min 3 (i + 1 - 3 * k) = min 3 (i - 3 * k) by omega]
    · rw [dif_neg hk]
      rw [pack3_len, h1] at hk
      have hk3 : 3 * k = i := by omega
      simp only [List.getElem_singleton]
      rw [pk3_take, hk3, show min 3 (i + 1 - i) = 0 + 1 by omega, drop_takes l i 0 (by omega)]
      simp [chunkN]
/-- One byte more: in the last element. -/
theorem pack3_next1 (l : List UInt8) (i : Nat) (hi : i < l.length) (h : i % 3 ≠ 0) : pack3 (l.take (i + 1)) = (pack3 (l.take i)).set (i / 3) (((pk3 (l.take i) (i / 3) * 256 + (l[i]).toNat : Nat)) : Int) := by
  have h1 : (l.take i).length = i := by rw [List.length_take]; omega
  have h2 : (l.take (i + 1)).length = i + 1 := by rw [List.length_take]; omega
  apply List.ext_getElem
  · rw [List.length_set, pack3_len, pack3_len, h1, h2]; omega
  · intro k a b
    rw [pack3_len, h2] at a
    rw [List.length_set] at b
    rw [pack3_el, List.getElem_set]
    by_cases hk : i / 3 = k
    · rw [if_pos hk]
      subst hk
      rw [pk3_take, pk3_take, show min 3 (i + 1 - 3 * (i / 3)) = (i - 3 * (i / 3)) + 1 by omega, show min 3 (i - 3 * (i / 3)) = i - 3 * (i / 3) by omega, drop_takes l _ _ (by omega), chunk_snoc]
      have e : 3 * (i / 3) + (i - 3 * (i / 3)) = i := by omega
      simp only [e]
    · rw [if_neg hk, pack3_el]
      rw [pack3_len, h1] at b
      rw [pk3_take, pk3_take, show min 3 (i + 1 - 3 * k) = min 3 (i - 3 * k) by omega]
theorem byteAt_of (s : ByteArray) (i : Nat) (h : i < s.data.toList.length) : byteAt s i = ((s.data.toList[i]).toNat : Int) := by
  unfold byteAt
  have h' : i < s.data.size := by simpa using h
  rw [Array.getElem?_eq_getElem h']; rfl
set_option maxRecDepth 100000 in
set_option maxHeartbeats 4000000 in
theorem r_pack3 (p : Nat) (s : ByteArray) (w : World) (h1 : 16777216 ≤ p) (h2 : p ≤ 1073741824) (hs : s.size ≤ 16) :
    Calls Tryz.prog 76 #[.int .i64 (p : Int), .string s] w (IntsPost (pack3 s.data.toList) w) := by
  obtain ⟨i0, hi, hz0, hz1, hz2⟩ := info_parts infoI
  have hwid := fun W => r_Width p W h2
  rw [wid3 h1] at hwid
  have hll : s.data.toList.length = s.size := rfl
  have hix := fun k (h : k < s.size) W => index_byte s k h W
  obtain ⟨n, hn⟩ : ∃ n, s.size = n := ⟨_, rfl⟩
  rw [hn] at hll hs hix
  have HWID := Lib.hid hwid
  have HLL := Lib.hid hll
  have HIX := Lib.hid hix
  clear hwid hll hix
  go_enter Tryz.func76, Tryz.ntmps76
  go_wp2_with fail
  refine (HWID.out _).mono ?_
  rintro e w' ⟨rfl, rfl⟩
  go_wp2_with fail
  go_loopw [13, 6] (fun t o wr => ∃ k : Nat, k ≤ n ∧ t = .int .i64 (k : Int) ∧ wr.ownsRow w.heap.size 3 1 o ((k + 2) / 3) ((pack3 (s.data.toList.take k)).map (Value.int .i64)) ∧ Below w.heap.size w wr) (fun t _ _ => n - (intOf t).toNat)
  case atStart => exact ⟨0, by omega, rfl, by simpa [pack3] using World.ownsRow_nil _ _ _ _, Below.refl _ _⟩
  case round =>
    obtain ⟨k, hk, rfl, hown, hbl⟩ := hrel
    have hzz := hbl.size
    by_cases hlt : k < n
    · have hkl : k < s.data.toList.length := by rw [HLL.out]; exact hlt
      have ix := HIX.out k hlt
      have hbe := byteAt_of s k hkl
      have hc8 := (s.data.toList[k]).toNat_lt
      have qk : (k : Int) < (n : Int) := by omega
      have hn0 := fun h => pack3_next0 s.data.toList k hkl h
      have hn1 := fun h => pack3_next1 s.data.toList k hkl h
      obtain ⟨c, hc⟩ : ∃ c, (s.data.toList[k]).toNat = c := ⟨_, rfl⟩
      rw [hc] at hbe hc8 hn0 hn1
      rw [hbe] at ix
      have HOWN := Lib.hid hown
      have HBL := Lib.hid hbl
      have HN0 := Lib.hid hn0
      have HN1 := Lib.hid hn1
      clear hn0 hn1 hbe hc hbl
      by_cases h3 : k % 3 = 0
      · have t0 : ((k : Int) % 3 == 0) = true := by simp; omega
        have hst := HN0.out h3
        have HST := Lib.hid hst
        have hq : (k + 1 + 2) / 3 = (k + 2) / 3 + 1 := by omega
        have HQ := Lib.hid hq
        have hq6 : (k + 2) / 3 ≤ 6 := by omega
        obtain ⟨q, hqe⟩ : ∃ q, (k + 2) / 3 = q := ⟨_, rfl⟩
        rw [hqe] at hown hq hq6 HOWN HQ
        clear hst h3 hq hqe
        go_wp2_with (at_builtin; refine wpList_append_own _ rfl _ _ 24 rfl w.heap.size 3 i0 (.int .i64 0) 1 8 Tryz.underlying24 hi hz0 hz1 hz2 rfl (by decide) _ _ _ rfl (hown.alloc _) ⟨wr.heap.size, 0, none⟩ 1 1 [.int .i64 (c : Int)] rfl rfl (fun j u hj => by have := cell_one_new wr (.int .i64 (c : Int)) 3 j u hj; simpa using this) (ints_oneCell .i64 [_]) (by unfold maxLen; omega) (by omega) (by simp; omega) ?_)
        intro v' w5 hown' hgrow _
        have hg := grown_past hgrow
        have hown2 : w5.ownsRow w.heap.size 3 1 v' ((k + 1 + 2) / 3) ((pack3 (s.data.toList.take (k + 1))).map (Value.int .i64)) := by
          rw [HQ.out, HST.out, List.map_append]; simpa using hown'
        have hul : ∀ g, (u6 : Value).ownBlock = some g → w.heap.size ≤ g := fun g hg => (hown.lt g hg).1
        have HO5 := Lib.hid hown2
        have HB5 := Lib.hid (HBL.out.grown hg hzz hul)
        clear hown' hgrow hg hown2 hul hown
        go_wp2_with fail
        go_roundw
        case measure => simp [intOf]; omega
        case rel => exact ⟨k + 1, by omega, by go_num, HO5.out, HB5.out⟩
      · have t0 : ((k : Int) % 3 == 0) = false := by simp; omega
        have hst := HN1.out h3
        have hq : (k + 2) / 3 = k / 3 + 1 := by omega
        have hq2 : (k + 1 + 2) / 3 = k / 3 + 1 := by omega
        have hq6 : k / 3 ≤ 5 := by omega
        have hvl : (pack3 (s.data.toList.take k))[k / 3]? = some ((pk3 (s.data.toList.take k) (k / 3) : Nat) : Int) := by
          have hlk : k / 3 < (pack3 (s.data.toList.take k)).length := by rw [pack3_len, List.length_take]; omega
          rw [List.getElem?_eq_getElem hlk, pack3_el]
        have hvb := pk3_lt (s.data.toList.take k) (k / 3)
        have hvb2 : pk3 (s.data.toList.take k) (k / 3) < 65536 := by
          refine Nat.lt_of_lt_of_le hvb (Nat.le_trans (Nat.pow_le_pow_right (by decide) (show _ ≤ 2 by rw [List.length_take]; omega)) (by decide))
        have HST := Lib.hid hst
        obtain ⟨x, hx⟩ : ∃ x, pk3 (s.data.toList.take k) (k / 3) = x := ⟨_, rfl⟩
        obtain ⟨q, hqe⟩ : ∃ q, k / 3 = q := ⟨_, rfl⟩
        rw [hx] at hvl hvb2
        rw [hqe] at hq hq2 hq6 hvl
        rw [hq] at hown
        rcases id hown.2 with ⟨h0, h0'⟩ | ⟨g, cap, cur, rfl, hB, -, hncap, -⟩
        · omega
        have cx : wr.cell? ⟨g, q, none⟩ = some (.int .i64 (x : Int)) := by rw [hown.cellAt q (by omega), List.getElem?_map, hvl]; rfl
        have fx := hown.frozenAt q
        have hor := or_byte (x : Int) (c : Int) (by omega) (by omega) (by omega) (by omega)
        have hst2 := World.ownsRow.stored hown q (.int .i64 ((x : Int) * 256 + (c : Int)))
        have HS2 := Lib.hid hst2
        have HX := Lib.hid hx
        have HQE := Lib.hid hqe
        have HQ2 := Lib.hid hq2
        have zg := (hown.lt g rfl).2
        clear hown hst hvl hvb hx hqe hq2 hq h3 hst2
        go_wp2_with fail
        go_region
        all_goals
          go_wp2_with fail
          go_roundw
          case measure => simp [intOf]; omega
          case rel =>
            refine ⟨k + 1, by omega, by go_num, ?_, ?_⟩
            · have hx' := HX.out
              rw [HQE.out] at hx'
              have e : ((x * 256 + c : Nat) : Int) = (x : Int) * 256 + (c : Int) := by omega
              rw [HQ2.out, HST.out, HQE.out, hx', List.map_set, e]
              exact HS2.out.1
            · exact (HBL.out.setCell (p := ⟨g, q, none⟩) hB _).drew
    · have hkn : k = n := by omega
      subst hkn
      have HBL := Lib.hid hbl
      have HOWN := Lib.hid hown
      clear hbl hown
      go_wp2_with fail
      go_ret
      have h := HOWN.out
      rw [List.take_of_length_le (by rw [HLL.out]; exact Nat.le_refl _)] at h
      exact ⟨_, rfl, IntsAt.of_own h, HBL.out⟩
set_option maxRecDepth 100000 in
set_option maxHeartbeats 4000000 in
theorem r_pack0 (p : Nat) (s : ByteArray) (w : World) (h2 : p < 256) (hs : s.size = 16) :
    Calls Tryz.prog 76 #[.int .i64 (p : Int), .string s] w (IntsPost (bitsL s.data.toList) w) := by
  obtain ⟨i0, hi, hz0, hz1, hz2⟩ := info_parts infoI
  have hwid := fun W => r_Width p W (by omega)
  rw [wid0 h2] at hwid
  have hll : s.data.toList.length = 16 := by simpa using hs
  have hix := fun k (h : k < s.size) W => index_byte s k h W
  rw [hs] at hix
  have HWID := Lib.hid hwid
  have HLL := Lib.hid hll
  have HIX := Lib.hid hix
  clear hwid hll hix
  go_enter Tryz.func76, Tryz.ntmps76
  go_wp2_with fail
  refine (HWID.out _).mono ?_
  rintro e w' ⟨rfl, rfl⟩
  go_wp2_with fail
  go_loopw [13, 6] (fun t o wr => ∃ k : Nat, k ≤ 16 ∧ t = .int .i64 (k : Int) ∧ wr.ownsRow w.heap.size 3 1 o (8 * k) (((bitsL s.data.toList).take (8 * k)).map (Value.int .i64)) ∧ Below w.heap.size w wr) (fun t _ _ => 16 - (intOf t).toNat)
  case atStart => exact ⟨0, by omega, rfl, World.ownsRow_nil _ _ _ _, Below.refl _ _⟩
  case round =>
    obtain ⟨k, hk, rfl, hown, hbl⟩ := hrel
    have hzz := hbl.size
    by_cases hlt : k < 16
    · have hkl : k < s.data.toList.length := by rw [HLL.out]; exact hlt
      have ix := HIX.out k hlt
      have hbe := byteAt_of s k hkl
      have hc8 := (s.data.toList[k]).toNat_lt
      obtain ⟨c, hcx⟩ : ∃ c, (s.data.toList[k]).toNat = c := ⟨_, rfl⟩
      rw [hcx] at hbe hc8
      rw [hbe] at ix
      have qk : (k : Int) < 16 := by omega
      have HOWN := Lib.hid hown
      have HBL := Lib.hid hbl
      have HCX := Lib.hid hcx
      clear hown hbl hcx hbe
      obtain ⟨wo, hwo⟩ : ∃ wo : World, wo = wr := ⟨_, rfl⟩
      subst hwo
      go_wp2_with fail
      go_loopw [8, 6] (fun t o wr => ∃ j : Nat, j ≤ 8 ∧ t = .int .i64 (7 - (j : Int)) ∧ wr.ownsRow w.heap.size 3 1 o (8 * k + j) (((bitsL s.data.toList).take (8 * k + j)).map (Value.int .i64)) ∧ Below w.heap.size w wr) (fun t _ _ => (intOf t + 1).toNat)
      case atStart => exact ⟨0, by omega, rfl, HOWN.out, HBL.out⟩
      case round =>
        obtain ⟨j, hj, rfl, hownj, hblj⟩ := hrel
        have hzj := hblj.size
        have hcx := HCX.out
        have HOJ := Lib.hid hownj
        have HBJ := Lib.hid hblj
        clear hblj hownj
        rcases (show j = 0 ∨ j = 1 ∨ j = 2 ∨ j = 3 ∨ j = 4 ∨ j = 5 ∨ j = 6 ∨ j = 7 ∨ j = 8 by omega) with rfl | rfl | rfl | rfl | rfl | rfl | rfl | rfl | rfl
        · have hbit := bit_get s.data.toList k 0 hkl (by decide)
          rw [hcx] at hbit
          clear hcx
          have hst := take_more (bitsL s.data.toList) (8 * k + 0) (by rw [bitsL_len, HLL.out]; omega)
          rw [hbit] at hst
          have hand : bits .and .u8 (((c / 128 : Nat)) : Int) 1 = ((c / 128 % 2 : Nat) : Int) := and_one _ (by omega)
          have hdiv : (c : Int) / 128 = ((c / 128 : Nat) : Int) := by omega
          obtain ⟨y, hy⟩ : ∃ y, c / 128 % 2 = y := ⟨_, rfl⟩
          rw [show c / 2 ^ (7 - 0) % 2 = y from hy] at hst
          rw [hy] at hand
          rw [← hdiv] at hand
          have HST := Lib.hid hst
          have hy2 : y < 2 := by omega
          clear hst hbit hy hdiv
          go_wp2_with (at_builtin; refine wpList_append_own _ rfl _ _ 24 rfl w.heap.size 3 i0 (.int .i64 0) 1 8 Tryz.underlying24 hi hz0 hz1 hz2 rfl (by decide) _ _ _ rfl (HOJ.out.alloc _) ⟨wr.heap.size, 0, none⟩ 1 1 [.int .i64 (y : Int)] rfl rfl (fun j u hj => by have := cell_one_new wr (.int .i64 (y : Int)) 3 j u hj; simpa using this) (ints_oneCell .i64 [_]) (by unfold maxLen; omega) (by omega) (by simp; omega) ?_)
          intro v' w5 hown' hgrow _
          have hg := grown_past hgrow
          have hown2 : w5.ownsRow w.heap.size 3 1 v' (8 * k + 1) (((bitsL s.data.toList).take (8 * k + 1)).map (Value.int .i64)) := by
            rw [show 8 * k + 1 = 8 * k + 0 + 1 from rfl, HST.out, List.map_append]; simpa using hown'
          have hul : ∀ g, (u6 : Value).ownBlock = some g → w.heap.size ≤ g := fun g hg => (HOJ.out.lt g hg).1
          have HO5 := Lib.hid hown2
          have HB5 := Lib.hid (HBJ.out.grown hg hzj hul)
          clear hown' hgrow hg hown2 hul
          go_wp2_with fail
          go_roundw
          case measure => simp [intOf]
          case rel => exact ⟨1, by omega, rfl, HO5.out, HB5.out⟩
        · have hbit := bit_get s.data.toList k 1 hkl (by decide)
          rw [hcx] at hbit
          clear hcx
          have hst := take_more (bitsL s.data.toList) (8 * k + 1) (by rw [bitsL_len, HLL.out]; omega)
          rw [hbit] at hst
          have hand : bits .and .u8 (((c / 64 : Nat)) : Int) 1 = ((c / 64 % 2 : Nat) : Int) := and_one _ (by omega)
          have hdiv : (c : Int) / 64 = ((c / 64 : Nat) : Int) := by omega
          obtain ⟨y, hy⟩ : ∃ y, c / 64 % 2 = y := ⟨_, rfl⟩
          rw [show c / 2 ^ (7 - 1) % 2 = y from hy] at hst
          rw [hy] at hand
          rw [← hdiv] at hand
          have HST := Lib.hid hst
          have hy2 : y < 2 := by omega
          clear hst hbit hy hdiv
          go_wp2_with (at_builtin; refine wpList_append_own _ rfl _ _ 24 rfl w.heap.size 3 i0 (.int .i64 0) 1 8 Tryz.underlying24 hi hz0 hz1 hz2 rfl (by decide) _ _ _ rfl (HOJ.out.alloc _) ⟨wr.heap.size, 0, none⟩ 1 1 [.int .i64 (y : Int)] rfl rfl (fun j u hj => by have := cell_one_new wr (.int .i64 (y : Int)) 3 j u hj; simpa using this) (ints_oneCell .i64 [_]) (by unfold maxLen; omega) (by omega) (by simp; omega) ?_)
          intro v' w5 hown' hgrow _
          have hg := grown_past hgrow
          have hown2 : w5.ownsRow w.heap.size 3 1 v' (8 * k + 2) (((bitsL s.data.toList).take (8 * k + 2)).map (Value.int .i64)) := by
            rw [show 8 * k + 2 = 8 * k + 1 + 1 from rfl, HST.out, List.map_append]; simpa using hown'
          have hul : ∀ g, (u6 : Value).ownBlock = some g → w.heap.size ≤ g := fun g hg => (HOJ.out.lt g hg).1
          have HO5 := Lib.hid hown2
          have HB5 := Lib.hid (HBJ.out.grown hg hzj hul)
          clear hown' hgrow hg hown2 hul
          go_wp2_with fail
          go_roundw
          case measure => simp [intOf]
          case rel => exact ⟨2, by omega, rfl, HO5.out, HB5.out⟩
        · have hbit := bit_get s.data.toList k 2 hkl (by decide)
          rw [hcx] at hbit
          clear hcx
          have hst := take_more (bitsL s.data.toList) (8 * k + 2) (by rw [bitsL_len, HLL.out]; omega)
          rw [hbit] at hst
          have hand : bits .and .u8 (((c / 32 : Nat)) : Int) 1 = ((c / 32 % 2 : Nat) : Int) := and_one _ (by omega)
          have hdiv : (c : Int) / 32 = ((c / 32 : Nat) : Int) := by omega
          obtain ⟨y, hy⟩ : ∃ y, c / 32 % 2 = y := ⟨_, rfl⟩
          rw [show c / 2 ^ (7 - 2) % 2 = y from hy] at hst
          rw [hy] at hand
          rw [← hdiv] at hand
          have HST := Lib.hid hst
          have hy2 : y < 2 := by omega
          clear hst hbit hy hdiv
          go_wp2_with (at_builtin; refine wpList_append_own _ rfl _ _ 24 rfl w.heap.size 3 i0 (.int .i64 0) 1 8 Tryz.underlying24 hi hz0 hz1 hz2 rfl (by decide) _ _ _ rfl (HOJ.out.alloc _) ⟨wr.heap.size, 0, none⟩ 1 1 [.int .i64 (y : Int)] rfl rfl (fun j u hj => by have := cell_one_new wr (.int .i64 (y : Int)) 3 j u hj; simpa using this) (ints_oneCell .i64 [_]) (by unfold maxLen; omega) (by omega) (by simp; omega) ?_)
          intro v' w5 hown' hgrow _
          have hg := grown_past hgrow
          have hown2 : w5.ownsRow w.heap.size 3 1 v' (8 * k + 3) (((bitsL s.data.toList).take (8 * k + 3)).map (Value.int .i64)) := by
            rw [show 8 * k + 3 = 8 * k + 2 + 1 from rfl, HST.out, List.map_append]; simpa using hown'
          have hul : ∀ g, (u6 : Value).ownBlock = some g → w.heap.size ≤ g := fun g hg => (HOJ.out.lt g hg).1
          have HO5 := Lib.hid hown2
          have HB5 := Lib.hid (HBJ.out.grown hg hzj hul)
          clear hown' hgrow hg hown2 hul
          go_wp2_with fail
          go_roundw
          case measure => simp [intOf]
          case rel => exact ⟨3, by omega, rfl, HO5.out, HB5.out⟩
        · have hbit := bit_get s.data.toList k 3 hkl (by decide)
          rw [hcx] at hbit
          clear hcx
          have hst := take_more (bitsL s.data.toList) (8 * k + 3) (by rw [bitsL_len, HLL.out]; omega)
          rw [hbit] at hst
          have hand : bits .and .u8 (((c / 16 : Nat)) : Int) 1 = ((c / 16 % 2 : Nat) : Int) := and_one _ (by omega)
          have hdiv : (c : Int) / 16 = ((c / 16 : Nat) : Int) := by omega
          obtain ⟨y, hy⟩ : ∃ y, c / 16 % 2 = y := ⟨_, rfl⟩
          rw [show c / 2 ^ (7 - 3) % 2 = y from hy] at hst
          rw [hy] at hand
          rw [← hdiv] at hand
          have HST := Lib.hid hst
          have hy2 : y < 2 := by omega
          clear hst hbit hy hdiv
          go_wp2_with (at_builtin; refine wpList_append_own _ rfl _ _ 24 rfl w.heap.size 3 i0 (.int .i64 0) 1 8 Tryz.underlying24 hi hz0 hz1 hz2 rfl (by decide) _ _ _ rfl (HOJ.out.alloc _) ⟨wr.heap.size, 0, none⟩ 1 1 [.int .i64 (y : Int)] rfl rfl (fun j u hj => by have := cell_one_new wr (.int .i64 (y : Int)) 3 j u hj; simpa using this) (ints_oneCell .i64 [_]) (by unfold maxLen; omega) (by omega) (by simp; omega) ?_)
          intro v' w5 hown' hgrow _
          have hg := grown_past hgrow
          have hown2 : w5.ownsRow w.heap.size 3 1 v' (8 * k + 4) (((bitsL s.data.toList).take (8 * k + 4)).map (Value.int .i64)) := by
            rw [show 8 * k + 4 = 8 * k + 3 + 1 from rfl, HST.out, List.map_append]; simpa using hown'
          have hul : ∀ g, (u6 : Value).ownBlock = some g → w.heap.size ≤ g := fun g hg => (HOJ.out.lt g hg).1
          have HO5 := Lib.hid hown2
          have HB5 := Lib.hid (HBJ.out.grown hg hzj hul)
          clear hown' hgrow hg hown2 hul
          go_wp2_with fail
          go_roundw
          case measure => simp [intOf]
          case rel => exact ⟨4, by omega, rfl, HO5.out, HB5.out⟩
        · have hbit := bit_get s.data.toList k 4 hkl (by decide)
          rw [hcx] at hbit
          clear hcx
          have hst := take_more (bitsL s.data.toList) (8 * k + 4) (by rw [bitsL_len, HLL.out]; omega)
          rw [hbit] at hst
          have hand : bits .and .u8 (((c / 8 : Nat)) : Int) 1 = ((c / 8 % 2 : Nat) : Int) := and_one _ (by omega)
          have hdiv : (c : Int) / 8 = ((c / 8 : Nat) : Int) := by omega
          obtain ⟨y, hy⟩ : ∃ y, c / 8 % 2 = y := ⟨_, rfl⟩
          rw [show c / 2 ^ (7 - 4) % 2 = y from hy] at hst
          rw [hy] at hand
          rw [← hdiv] at hand
          have HST := Lib.hid hst
          have hy2 : y < 2 := by omega
          clear hst hbit hy hdiv
          go_wp2_with (at_builtin; refine wpList_append_own _ rfl _ _ 24 rfl w.heap.size 3 i0 (.int .i64 0) 1 8 Tryz.underlying24 hi hz0 hz1 hz2 rfl (by decide) _ _ _ rfl (HOJ.out.alloc _) ⟨wr.heap.size, 0, none⟩ 1 1 [.int .i64 (y : Int)] rfl rfl (fun j u hj => by have := cell_one_new wr (.int .i64 (y : Int)) 3 j u hj; simpa using this) (ints_oneCell .i64 [_]) (by unfold maxLen; omega) (by omega) (by simp; omega) ?_)
          intro v' w5 hown' hgrow _
          have hg := grown_past hgrow
          have hown2 : w5.ownsRow w.heap.size 3 1 v' (8 * k + 5) (((bitsL s.data.toList).take (8 * k + 5)).map (Value.int .i64)) := by
            rw [show 8 * k + 5 = 8 * k + 4 + 1 from rfl, HST.out, List.map_append]; simpa using hown'
          have hul : ∀ g, (u6 : Value).ownBlock = some g → w.heap.size ≤ g := fun g hg => (HOJ.out.lt g hg).1
          have HO5 := Lib.hid hown2
          have HB5 := Lib.hid (HBJ.out.grown hg hzj hul)
          clear hown' hgrow hg hown2 hul
          go_wp2_with fail
          go_roundw
          case measure => simp [intOf]
          case rel => exact ⟨5, by omega, rfl, HO5.out, HB5.out⟩
        · have hbit := bit_get s.data.toList k 5 hkl (by decide)
          rw [hcx] at hbit
          clear hcx
          have hst := take_more (bitsL s.data.toList) (8 * k + 5) (by rw [bitsL_len, HLL.out]; omega)
          rw [hbit] at hst
          have hand : bits .and .u8 (((c / 4 : Nat)) : Int) 1 = ((c / 4 % 2 : Nat) : Int) := and_one _ (by omega)
          have hdiv : (c : Int) / 4 = ((c / 4 : Nat) : Int) := by omega
          obtain ⟨y, hy⟩ : ∃ y, c / 4 % 2 = y := ⟨_, rfl⟩
          rw [show c / 2 ^ (7 - 5) % 2 = y from hy] at hst
          rw [hy] at hand
          rw [← hdiv] at hand
          have HST := Lib.hid hst
          have hy2 : y < 2 := by omega
          clear hst hbit hy hdiv
          go_wp2_with (at_builtin; refine wpList_append_own _ rfl _ _ 24 rfl w.heap.size 3 i0 (.int .i64 0) 1 8 Tryz.underlying24 hi hz0 hz1 hz2 rfl (by decide) _ _ _ rfl (HOJ.out.alloc _) ⟨wr.heap.size, 0, none⟩ 1 1 [.int .i64 (y : Int)] rfl rfl (fun j u hj => by have := cell_one_new wr (.int .i64 (y : Int)) 3 j u hj; simpa using this) (ints_oneCell .i64 [_]) (by unfold maxLen; omega) (by omega) (by simp; omega) ?_)
          intro v' w5 hown' hgrow _
          have hg := grown_past hgrow
          have hown2 : w5.ownsRow w.heap.size 3 1 v' (8 * k + 6) (((bitsL s.data.toList).take (8 * k + 6)).map (Value.int .i64)) := by
            rw [show 8 * k + 6 = 8 * k + 5 + 1 from rfl, HST.out, List.map_append]; simpa using hown'
          have hul : ∀ g, (u6 : Value).ownBlock = some g → w.heap.size ≤ g := fun g hg => (HOJ.out.lt g hg).1
          have HO5 := Lib.hid hown2
          have HB5 := Lib.hid (HBJ.out.grown hg hzj hul)
          clear hown' hgrow hg hown2 hul
          go_wp2_with fail
          go_roundw
          case measure => simp [intOf]
          case rel => exact ⟨6, by omega, rfl, HO5.out, HB5.out⟩
        · have hbit := bit_get s.data.toList k 6 hkl (by decide)
          rw [hcx] at hbit
          clear hcx
          have hst := take_more (bitsL s.data.toList) (8 * k + 6) (by rw [bitsL_len, HLL.out]; omega)
          rw [hbit] at hst
          have hand : bits .and .u8 (((c / 2 : Nat)) : Int) 1 = ((c / 2 % 2 : Nat) : Int) := and_one _ (by omega)
          have hdiv : (c : Int) / 2 = ((c / 2 : Nat) : Int) := by omega
          obtain ⟨y, hy⟩ : ∃ y, c / 2 % 2 = y := ⟨_, rfl⟩
          rw [show c / 2 ^ (7 - 6) % 2 = y from hy] at hst
          rw [hy] at hand
          rw [← hdiv] at hand
          have HST := Lib.hid hst
          have hy2 : y < 2 := by omega
          clear hst hbit hy hdiv
          go_wp2_with (at_builtin; refine wpList_append_own _ rfl _ _ 24 rfl w.heap.size 3 i0 (.int .i64 0) 1 8 Tryz.underlying24 hi hz0 hz1 hz2 rfl (by decide) _ _ _ rfl (HOJ.out.alloc _) ⟨wr.heap.size, 0, none⟩ 1 1 [.int .i64 (y : Int)] rfl rfl (fun j u hj => by have := cell_one_new wr (.int .i64 (y : Int)) 3 j u hj; simpa using this) (ints_oneCell .i64 [_]) (by unfold maxLen; omega) (by omega) (by simp; omega) ?_)
          intro v' w5 hown' hgrow _
          have hg := grown_past hgrow
          have hown2 : w5.ownsRow w.heap.size 3 1 v' (8 * k + 7) (((bitsL s.data.toList).take (8 * k + 7)).map (Value.int .i64)) := by
            rw [show 8 * k + 7 = 8 * k + 6 + 1 from rfl, HST.out, List.map_append]; simpa using hown'
          have hul : ∀ g, (u6 : Value).ownBlock = some g → w.heap.size ≤ g := fun g hg => (HOJ.out.lt g hg).1
          have HO5 := Lib.hid hown2
          have HB5 := Lib.hid (HBJ.out.grown hg hzj hul)
          clear hown' hgrow hg hown2 hul
          go_wp2_with fail
          go_roundw
          case measure => simp [intOf]
          case rel => exact ⟨7, by omega, rfl, HO5.out, HB5.out⟩
        · have hbit := bit_get s.data.toList k 7 hkl (by decide)
          rw [hcx] at hbit
          clear hcx
          have hst := take_more (bitsL s.data.toList) (8 * k + 7) (by rw [bitsL_len, HLL.out]; omega)
          rw [hbit] at hst
          have hand : bits .and .u8 ((c : Nat) : Int) 1 = ((c / 1 % 2 : Nat) : Int) := by rw [Nat.div_one]; exact and_one _ (by omega)
          have hdiv : (c : Int) / 1 = ((c / 1 : Nat) : Int) := by omega
          obtain ⟨y, hy⟩ : ∃ y, c / 1 % 2 = y := ⟨_, rfl⟩
          rw [show c / 2 ^ (7 - 7) % 2 = y from hy] at hst
          rw [hy] at hand
          skip
          have HST := Lib.hid hst
          have hy2 : y < 2 := by omega
          clear hst hbit hy hdiv
          go_wp2_with (at_builtin; refine wpList_append_own _ rfl _ _ 24 rfl w.heap.size 3 i0 (.int .i64 0) 1 8 Tryz.underlying24 hi hz0 hz1 hz2 rfl (by decide) _ _ _ rfl (HOJ.out.alloc _) ⟨wr.heap.size, 0, none⟩ 1 1 [.int .i64 (y : Int)] rfl rfl (fun j u hj => by have := cell_one_new wr (.int .i64 (y : Int)) 3 j u hj; simpa using this) (ints_oneCell .i64 [_]) (by unfold maxLen; omega) (by omega) (by simp; omega) ?_)
          intro v' w5 hown' hgrow _
          have hg := grown_past hgrow
          have hown2 : w5.ownsRow w.heap.size 3 1 v' (8 * k + 8) (((bitsL s.data.toList).take (8 * k + 8)).map (Value.int .i64)) := by
            rw [show 8 * k + 8 = 8 * k + 7 + 1 from rfl, HST.out, List.map_append]; simpa using hown'
          have hul : ∀ g, (u6 : Value).ownBlock = some g → w.heap.size ≤ g := fun g hg => (HOJ.out.lt g hg).1
          have HO5 := Lib.hid hown2
          have HB5 := Lib.hid (HBJ.out.grown hg hzj hul)
          clear hown' hgrow hg hown2 hul
          go_wp2_with fail
          go_roundw
          case measure => simp [intOf]
          case rel => exact ⟨8, by omega, rfl, HO5.out, HB5.out⟩
        · clear hcx
          go_wp2_with fail
          go_roundw
          case measure => simp [intOf]; omega
          case rel => exact ⟨k + 1, by omega, by go_num, HOJ.out, HBJ.out⟩
    · have hk6 : k = 16 := by omega
      subst hk6
      have HOWN := Lib.hid hown
      have HBL := Lib.hid hbl
      clear hown hbl
      go_wp2_with fail
      go_ret
      have h := HOWN.out
      rw [List.take_of_length_le (by rw [bitsL_len, HLL.out]; decide)] at h
      exact ⟨_, rfl, IntsAt.of_own h, HBL.out⟩
/-- The elements of sixteen bytes. -/
def packP (p : Nat) (l : List UInt8) : List Int := if p < 256 then bitsL l else pack3 l
/-- The primes of the plays hold no byte, or three. -/
theorem r_packP (p : Nat) (s : ByteArray) (w : World) (hp : p < 256 ∨ 16777216 ≤ p) (h2 : p ≤ 1073741824) (hs : s.size = 16) :
    Calls Tryz.prog 76 #[.int .i64 (p : Int), .string s] w (IntsPost (packP p s.data.toList) w) := by
  unfold packP
  by_cases h : p < 256
  · rw [if_pos h]; exact r_pack0 p s w h hs
  · rw [if_neg h]; exact r_pack3 p s w (by omega) h2 (by omega)
theorem p_PackP (p : Nat) (s : ByteArray) (w : World) (hw : BasesOk w) (hpp : Prm p) (hp : p < 256 ∨ 16777216 ≤ p) (h2 : p ≤ 1073741824) (hs : s.size = 16) :
    Calls Tryz.prog 67 #[.int .i64 (p : Int), .string s] w (IntsPost2 (packP p s.data.toList) w) := by
  unfold packP
  by_cases h : p < 256
  · rw [if_pos h]; exact p_Pack0 p s w hw hpp h hs
  · rw [if_neg h]; exact p_Pack3 p s w hw hpp (by omega) h2 hs
set_option maxHeartbeats 1000000 in
theorem r_Pack (p : Nat) (s : ByteArray) (w : World) (hpp : Prm p) (hp : p < 256 ∨ 16777216 ≤ p) (h2 : p ≤ 1073741824) (hs : s.size = 16) :
    Calls Tryz.prog 28 #[.int .i64 (p : Int), .string s] w (IntsPost2 (packP p s.data.toList) w) := by
  have hv := fun W => r_Valid p W hpp h2
  have hc := fun W => r_Count p W h2
  have hcl := cntP_le p
  have hk := fun W => r_packP p s W hp h2 hs
  have hs' : (s.size : Int) = 16 := by omega
  have HV := Lib.hid hv
  have HC := Lib.hid hc
  have HK := Lib.hid hk
  generalize cntP p = ct at *
  have t1 : decide ((2048 : Int) < (ct : Int)) = false := decide_eq_false (by omega)
  clear hv hc hk hs hcl
  go_enter Tryz.func28, Tryz.ntmps28
  go_wp2_with fail
  refine (HV.out _).mono ?_
  rintro e w' ⟨rfl, rfl⟩
  go_wp2_with fail
  refine (HC.out _).mono ?_
  rintro e w1 ⟨rfl, hb1⟩
  have HB1 := Lib.hid hb1
  clear hb1
  go_wp2_with fail
  refine (HK.out _).mono ?_
  rintro e w2 ⟨v, rfl, hv, hb2⟩
  go_wp2_with fail
  go_ret2
  exact ⟨_, rfl, hv.mono (fun b hb => ⟨by have := hb.1; have := HB1.out.size; omega, hb.2⟩), HB1.out.trans (hb2.mono HB1.out.size)⟩
end Go.Proofs.YtjfphobfikadlaaGreatDoor
namespace Go.Proofs.YtjfphobfikadlaaGreatDoor
open Go.RowKit Num

def WordPost (b n : Nat) (ss : Nat → ByteArray) (w : World) (e : Ending) (w' : World) : Prop := ∃ r : Nat, r < n ∧ e = .returned (.string (ss r)) ∧ Dc w' b ∧ w.grownBy w' (some b)
set_option maxHeartbeats 1000000 in
theorem k_Word (b g off n c : Nat) (ss : Nat → ByteArray) (w : World) (hd : Dc w b) (hg : g < w.heap.size) (hne : g ≠ b) (h1 : 1 ≤ n) (h2 : n ≤ 1000000) (hc : ∀ i, i < n → w.cell? ⟨g, off + i, none⟩ = some (.string (ss i))) :
    Calls Tryz.prog 65 #[.pointer (some ⟨b, 0, none⟩), .slice (some ⟨g, off, none⟩) n c] w (WordPost b n ss w) := by
  have HC := Lib.hid hc
  have HD := Lib.hid hd
  clear hc hd
  go_enter Tryz.func65, Tryz.ntmps65
  go_wp2_with fail
  refine (k_Next b n _ HD.out h1 (by omega)).mono ?_
  rintro e w1 ⟨r, hr, rfl, hd1, hg1⟩
  have hcell : w1.cell? ⟨g, off + r, none⟩ = some (.string (ss r)) := (World.cell?_of_block (hg1.block g hg (by intro e; injection e with e; exact hne e))).trans (HC.out r hr)
  have HD1 := Lib.hid hd1
  have HG1 := Lib.hid hg1
  have qr : (r : Int) < (n : Int) := by omega
  have q0 : (0 : Int) ≤ (r : Int) := by omega
  clear hd1 hg1
  go_wp2_with fail
  go_ret
  exact ⟨r, hr, rfl, HD1.out, HG1.out⟩
theorem getD_eq_of {xs ys : List Int} (hl : xs.length = ys.length) (h : ∀ q, q < xs.length → xs.getD q 0 = ys.getD q 0) : xs = ys := by
  apply List.ext_getElem hl
  intro i h1 h2
  have := h i h1
  rwa [List.getD_eq_getElem?_getD, List.getD_eq_getElem?_getD, List.getElem?_eq_getElem h1, List.getElem?_eq_getElem h2] at this
set_option maxRecDepth 100000 in
set_option maxHeartbeats 1000000 in
theorem r_Same (v u : Value) (xs ys : List Int) (S T : Nat → Prop) (w : World) (hv : IntsAt w S v xs) (hu : IntsAt w T u ys) (hl : xs.length ≤ 1000000) (hl2 : ys.length ≤ 1000000) :
    Calls Tryz.prog 52 #[v, u] w fun e w' => e = .returned (.bool (decide (xs = ys))) ∧ w = w' := by
  obtain ⟨A, n, c, rfl, hn, hnc, hx⟩ := hv
  obtain ⟨B, m, k, rfl, hm, hmk, hy⟩ := hu
  have n1 : n ≤ 1000000 := by omega
  have m1 : m ≤ 1000000 := by omega
  have HN := Lib.hid hn
  have HM := Lib.hid hm
  have HX := Lib.hid hx
  have HY := Lib.hid hy
  clear hn hm hx hy hl hl2
  by_cases hnm : n = m
  · have t0 : ((n : Int) != (m : Int)) = false := by simp; omega
    have HNM := Lib.hid hnm
    clear hnm
    go_enter Tryz.func52, Tryz.ntmps52
    go_wp2_with fail
    go_loopw [14] (fun t wr => ∃ k : Nat, k ≤ n ∧ t = .int .i64 k ∧ w = wr ∧ ∀ q, q < k → xs.getD q 0 = ys.getD q 0) (fun t _ => n - (intOf t).toNat)
    case atStart => exact ⟨0, by omega, rfl, rfl, fun q hq => absurd hq (by omega)⟩
    case round =>
      obtain ⟨k, hk, rfl, rfl, hq⟩ := hrel
      have HQ := Lib.hid hq
      clear hq
      by_cases hlt : k < n
      · obtain ⟨b, off, rfl, -, hc⟩ := HX.out (by omega)
        obtain ⟨b', off', rfl, -, hc'⟩ := HY.out (by have := HNM.out; omega)
        have c0 := hc k hlt
        have c1 := hc' k (by have := HNM.out; omega)
        have qk : (k : Int) < (n : Int) := by omega
        have qm : (k : Int) < (m : Int) := by have := HNM.out; omega
        clear hc hc'
        obtain ⟨x, hx⟩ : ∃ x, xs.getD k 0 = x := ⟨_, rfl⟩
        obtain ⟨y, hy⟩ : ∃ y, ys.getD k 0 = y := ⟨_, rfl⟩
        rw [hx] at c0
        rw [hy] at c1
        have HXX := Lib.hid hx
        have HYY := Lib.hid hy
        clear hx hy
        by_cases hxy : x = y
        · have t1 : ((y : Int) != x) = false := by simp [hxy]
          have HXY := Lib.hid hxy
          clear hxy
          go_wp2_with fail
          go_roundw
          case measure => simp [intOf]; omega
          case rel => exact ⟨k + 1, by omega, by go_num, (by first | rfl | trivial), fun q hq => by
            rcases Nat.lt_or_ge q k with h | h
            · exact HQ.out q h
            · have : q = k := by omega
              subst this; rw [HXX.out, HYY.out]; exact HXY.out⟩
        · have t1 : ((y : Int) != x) = true := by rw [bne_iff_ne]; exact fun h => hxy h.symm
          go_wp2_with fail
          go_ret
          refine ⟨?_, rfl⟩
          rw [decide_eq_false (fun h => hxy (by rw [← HXX.out, ← HYY.out, h]))]
          rfl
      · have hkn : k = n := by omega
        have hj0 : ¬ (k : Int) < (n : Int) := by omega
        go_wp2_with fail
        go_ret
        refine ⟨?_, rfl⟩
        rw [decide_eq_true (getD_eq_of (by rw [← HN.out, ← HM.out]; exact HNM.out) (fun q hq => HQ.out q (by rw [← HN.out] at hq; omega)))]
        rfl
  · have t0 : ((n : Int) != (m : Int)) = true := by rw [bne_iff_ne]; omega
    go_enter Tryz.func52, Tryz.ntmps52
    go_wp2_with fail
    go_ret
    refine ⟨?_, rfl⟩
    rw [decide_eq_false (fun h => hnm (by rw [HN.out, HM.out, h]))]
    rfl
end Go.Proofs.YtjfphobfikadlaaGreatDoor
