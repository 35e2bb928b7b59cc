/- Contracts: sixteen bytes as elements of three bytes each. Contracts: the bytes of elements of three bytes each. -/
import Derived.Test.YtjfphobfikadlaaGreatDoorZ24
import Derived.Test.YtjfphobfikadlaaGreatDoorZ25
import Derived.Test.YtjfphobfikadlaaGreatDoorZ28
set_option linter.unusedVariables false
set_option linter.unusedSimpArgs false
namespace Go.Proofs.YtjfphobfikadlaaGreatDoor
open Go.RowKit Num

theorem ext_take (q : ByteArray) (m : Nat) : (q.extract 0 m).data.toList = q.data.toList.take m := by
  rw [ByteArray.data_extract, Array.toList_extract]; simp
theorem ext_size (q : ByteArray) (m : Nat) (h : m ≤ q.size) : (q.extract 0 m).size = m := by
  rw [ByteArray.size_extract]; omega
/-- A part of a string as bytes. -/
theorem conv_part (w : World) (s : ByteArray) (l : List UInt8) (m : Nat) (hl : s.data.toList = l) (hm : l.length = m) :
    ∃ cap w2, (convert 9 91 (.string s)).run Tryz.prog w = .ok (.slice (some ⟨w.heap.size, 0, none⟩) m cap) w2 ∧ m ≤ cap ∧ Below w.heap.size w w2 ∧
      ∀ j c, l[j]? = some c → w2.cell? ⟨w.heap.size, j, none⟩ = some (.int .u8 (c.toNat : Int)) := by
  have hcv := Lib.run_convert_string_bytes (P := Tryz.prog) w 9 91 5 s Tryz.underlying9 Tryz.underlying91 Tryz.underlying5
  have hob := ownB_bytes w s 5
  have hbl := below_bytes w s 5
  have hsm : s.size = m := by rw [← hm, ← hl]; rfl
  rw [hsm] at hcv hob
  obtain ⟨g, cap, e, h1, h2, h3, h4, h5⟩ := hob
  injection e with e1 e2 e3
  injection e1 with e1
  injection e1 with e1
  have hl2 : (Lib.byteCells s.data.toList).length = m := by rw [hl]; simp [Lib.byteCells, hm]
  rw [hl2] at h3
  refine ⟨_, _, hcv, by omega, hbl, fun j c h => ?_⟩
  rw [e1]
  exact h5 j _ (by rw [hl]; unfold Lib.byteCells; rw [List.getElem?_map, h]; rfl)
theorem wid3 {p : Nat} (h : 16777216 ≤ p) : widP p = 3 := by
  unfold widP; rw [if_neg (show ¬ p < 256 by omega), if_neg (show ¬ p < 65536 by omega), if_neg (show ¬ p < 16777216 by omega)]
theorem cnt3 {p : Nat} (h : 16777216 ≤ p) : cntP p = 6 := by unfold cntP; rw [wid3 h]; rfl
theorem chunk_take (l : List UInt8) (j : Nat) (h : j < l.length) : chunkN (l.take (j + 1)) = chunkN (l.take j) * 256 + (l[j]).toNat := by
  rw [List.take_succ_eq_append_getElem h, chunk_snoc]
theorem pack3_part (l : List UInt8) (k : Nat) (h : k < (l.length + 2) / 3) : (pack3 l).take (k + 1) = (pack3 l).take k ++ [((pk3 l k : Nat) : Int)] := by
  have hk : k < (pack3 l).length := by rw [pack3_len]; exact h
  rw [List.take_succ_eq_append_getElem hk]
  have e := pack3_get l k h
  rw [List.getD_eq_getElem?_getD, List.getElem?_eq_getElem hk] at e
  rw [← e]; rfl
set_option maxRecDepth 100000 in
set_option maxHeartbeats 4000000 in
theorem p_Pack3 (p : Nat) (s : ByteArray) (w : World) (hw : BasesOk w) (hp : Prm p) (h1 : 16777216 ≤ p) (h2 : p ≤ 1073741824) (hs : s.size = 16) :
    Calls Tryz.prog 67 #[.int .i64 (p : Int), .string s] w (IntsPost2 (pack3 s.data.toList) w) := by
  obtain ⟨i0, hi, hz0, hz1, hz2⟩ := info_parts infoI
  have hv := f_Valid p w hw hp h2
  have hwid := fun W => p_Width p W h2
  rw [wid3 h1] at hwid
  have hcnt := fun W => p_Count p W h2
  rw [cnt3 h1] at hcnt
  have hll : s.data.toList.length = 16 := by simpa using hs
  have HV := Lib.hid hv
  have HWID := Lib.hid hwid
  have HCNT := Lib.hid hcnt
  have HLL := Lib.hid hll
  clear hv hwid hcnt hw hll
  go_enter Tryz.func67, Tryz.ntmps67
  go_wp2_with fail
  refine HV.out.mono ?_
  rintro e w' ⟨rfl, rfl⟩
  go_wp2_with fail
  refine (HCNT.out _).mono ?_
  rintro e w1 ⟨rfl, hb1⟩
  have HB1 := Lib.hid hb1
  clear hb1
  go_wp2_with fail
  refine (HWID.out _).mono ?_
  rintro e w' ⟨rfl, rfl⟩
  have HS := Lib.hid hs
  clear hs
  go_wp2_with fail
  go_loopw [1, 6] (fun x o wr => ∃ (k : Nat) (q : ByteArray), k ≤ 6 ∧ x = .string q ∧ q.data.toList = s.data.toList.drop (3 * k) ∧ q.size = 16 - 3 * k ∧ wr.ownsRow w.heap.size 3 1 o k (((pack3 s.data.toList).take k).map (Value.int .i64)) ∧ Below w.heap.size w wr) (fun x _ _ => strLen x)
  case atStart => exact ⟨0, s, by omega, rfl, by simp, HS.out, World.ownsRow_nil _ _ _ _, HB1.out⟩
  case round =>
    obtain ⟨k, q, hk, rfl, hq, hqs, hown, hbl⟩ := hrel
    have HOWN := Lib.hid hown
    have HBL := Lib.hid hbl
    have HQ := Lib.hid hq
    have hzz := hbl.size
    clear hown hbl hq
    by_cases hlt : k < 6
    · have e1 := str_full (q := q) (by omega)
      obtain ⟨m, hm⟩ : ∃ m, min 3 (16 - 3 * k) = m := ⟨_, rfl⟩
      obtain ⟨r, hr⟩ : ∃ r, q.size = r := ⟨_, rfl⟩
      have hmr : m ≤ r := by omega
      have hmin : min (3 : Int) (r : Int) = (m : Int) := by omega
      have hs16 := HS.out
      have hpl : (q.extract 0 m).data.toList = (s.data.toList.drop (3 * k)).take 3 := by
        rw [ext_take, HQ.out, ← hm, List.take_eq_take_iff]
        simp; omega
      obtain ⟨l, hl⟩ : ∃ l, (s.data.toList.drop (3 * k)).take 3 = l := ⟨_, rfl⟩
      rw [hl] at hpl
      have hlen : l.length = m := by rw [← hl, ← hm]; simp; omega
      have hpk : chunkN l = pk3 s.data.toList k := by unfold pk3; rw [hl]
      obtain ⟨cap, w2, hcv, hcap, hb2, hcell⟩ := conv_part wr (q.extract 0 m) l m hpl hlen
      have hsz2 := hb2.size
      have HCL := Lib.hid hcell
      have HPK := Lib.hid hpk
      have HB2 := Lib.hid (HBL.out.trans (hb2.mono hzz))
      have HLEN := Lib.hid hlen
      have HO2 := Lib.hid (HOWN.out.kept (only_of_below hb2 none) (by cases (u6 : Value).ownBlock <;> simp))
      have HQS := Lib.hid hqs
      have hm3 : m ≤ 3 := by omega
      have hm1 : 1 ≤ m := by omega
      rw [hr] at hqs
      have HM := Lib.hid hm
      clear hcell hpk hpl hb2 hlen hl hqs hs16 hm
      go_wp2_with fail
      go_loopw [11, 65] (fun x t wq => ∃ j : Nat, j ≤ m ∧ t = .int .i64 (j : Int) ∧ x = .int .i64 ((chunkN (l.take j) : Nat) : Int) ∧ w2 = wq) (fun _ t _ => m - (intOf t).toNat)
      case atStart => exact ⟨0, by omega, rfl, rfl, rfl⟩
      case round =>
        obtain ⟨j, hj, rfl, rfl, rfl⟩ := hrel
        by_cases hjm : j < m
        · have qj : (j : Int) < (m : Int) := by omega
          have hjl : j < l.length := by rw [HLEN.out]; exact hjm
          have cj := HCL.out j _ (List.getElem?_eq_getElem hjl)
          have hnx := chunk_take l j hjl
          have hlt2 := chunk_lt _ (l.take j) rfl
          have hlt3 : chunkN (l.take j) < 65536 := by
            have h3 : (l.take j).length ≤ 2 := by rw [List.length_take]; omega
            exact Nat.lt_of_lt_of_le hlt2 (Nat.le_trans (Nat.pow_le_pow_right (by decide) h3) (by decide))
          have hc8 := (l[j]).toNat_lt
          obtain ⟨c, hc⟩ : ∃ c, (l[j]).toNat = c := ⟨_, rfl⟩
          obtain ⟨y, hy⟩ : ∃ y, chunkN (l.take j) = y := ⟨_, rfl⟩
          rw [hc] at cj hnx hc8
          rw [hy] at hnx hlt3 ⊢
          have HNX := Lib.hid hnx
          clear hc hy hnx hlt2
          go_wp2_with fail
          go_roundw
          case measure => simp [intOf]; omega
          case rel => exact ⟨j + 1, by omega, by go_num, by rw [HNX.out]; go_num, by first | rfl | trivial⟩
        · have hjm' : j = m := by omega
          subst hjm'
          have htk : l.take j = l := List.take_of_length_le (by rw [HLEN.out]; exact Nat.le_refl _)
          rw [htk, HPK.out]
          have hst := pack3_part s.data.toList k (by rw [HLL.out]; omega)
          obtain ⟨y, hy⟩ : ∃ y, pk3 s.data.toList k = y := ⟨_, rfl⟩
          rw [hy] at hst ⊢
          have HST := Lib.hid hst
          have HCV := Lib.hid hcv
          have hw2 := HB2.out.size
          clear hst hy htk hcv
          go_wp2_with (at_builtin; refine wpList_append_own _ rfl _ _ 24 rfl w.heap.size 3 i0 (.int .i64 0) 1 8 Tryz.underlying24 hi hz0 hz1 hz2 rfl (by decide) _ _ _ rfl (HO2.out.alloc _) ⟨w2.heap.size, 0, none⟩ 1 1 [.int .i64 (y : Int)] rfl rfl (fun j u hj => by have := cell_one_new w2 (.int .i64 (y : Int)) 3 j u hj; simpa using this) (ints_oneCell .i64 [_]) (by unfold maxLen; omega) (by omega) (by simp; omega) ?_)
          intro v' w5 hown' hgrow _
          have hg := grown_past hgrow
          have hown2 : w5.ownsRow w.heap.size 3 1 v' (k + 1) (((pack3 s.data.toList).take (k + 1)).map (Value.int .i64)) := by rw [HST.out, List.map_append]; simpa using hown'
          have hul : ∀ g, (u6 : Value).ownBlock = some g → w.heap.size ≤ g := fun g hg => (HO2.out.lt g hg).1
          have HO5 := Lib.hid hown2
          have HB5 := Lib.hid (HB2.out.grown hg hw2 hul)
          clear hown' hgrow hg hown2 hul
          go_wp2_with fail
          go_roundw
          case measure =>
            have h1 := HQS.out
            have h2 := HM.out
            have h3 : (q.extract j q.size).size < q.size := by rw [ByteArray.size_extract]; omega
            simpa [strLen, hr] using h3
          case rel =>
            refine ⟨k + 1, q.extract j q.size, by omega, by rw [hr], ?_, ?_, HO5.out, HB5.out⟩
            · rw [extract_list, HQ.out, List.drop_drop]
              have h2 := HM.out
              rcases (show j = 3 ∨ 16 ≤ 3 * k + j by omega) with h | h
              · rw [h]; rfl
              · rw [List.drop_eq_nil_of_le (by rw [HLL.out]; omega), List.drop_eq_nil_of_le (by rw [HLL.out]; omega)]
            · have h1 := HQS.out
              have h2 := HM.out
              rw [ByteArray.size_extract]; omega
    · have hk6 : k = 6 := by omega
      subst hk6
      have e1 := str_empty (q := q) (by omega)
      go_wp2_with fail
      go_ret2
      refine ⟨_, rfl, ?_, HBL.out⟩
      have h := HOWN.out
      rw [List.take_of_length_le (by rw [pack3_len, HLL.out]; decide)] at h
      exact IntsAt.of_own h
end Go.Proofs.YtjfphobfikadlaaGreatDoor
namespace Go.Proofs.YtjfphobfikadlaaGreatDoor
open Go.RowKit Num

theorem cells_app1 (l : List UInt8) (j : Nat) (h : j < l.length) : Lib.byteCells (l.take (j + 1)) = Lib.byteCells (l.take j) ++ [.int .u8 ((l[j]).toNat : Int)] := by
  rw [List.take_succ_eq_append_getElem h]
  unfold Lib.byteCells
  rw [List.map_append]; rfl
set_option maxRecDepth 100000 in
theorem row_string (w : World) (base g cap : Nat) (l : List UInt8) (m : Nat) (h : w.ownsRow base 5 1 (.slice (some ⟨g, 0, none⟩) m cap) m (Lib.byteCells l)) (hm : l.length = m) :
    (convert 91 9 (.slice (some ⟨g, 0, none⟩) m cap)).run Tryz.prog w = .ok (.string ⟨l.toArray⟩) w := by
  subst hm
  have hcv := run_convert_bytes_arg (P := Tryz.prog) w 91 5 Tryz.underlying91 Tryz.underlying5 g 0 l.length cap (l.map fun c => (c.toNat : Int)) (by simp) (fun i hi => by
    rw [Nat.zero_add, h.cellAt i (by omega)]
    unfold Lib.byteCells
    rw [List.getElem?_map, List.getElem?_eq_getElem hi, List.getD_eq_getElem?_getD, List.getElem?_map, List.getElem?_eq_getElem hi]; rfl) 9 Tryz.underlying9
  have hst : strOfNums (l.map fun c => (c.toNat : Int)) = ⟨l.toArray⟩ := by
    unfold strOfNums
    congr 2
    rw [List.map_map]
    conv => rhs; rw [← List.map_id l]
    congr 1
    funext c
    simp
  rwa [hst] at hcv
set_option maxRecDepth 100000 in
set_option maxHeartbeats 2000000 in
theorem p_byBytes (v : Value) (bl : List UInt8) (S : Nat → Prop) (w : World) (hv : IntsAt w S v (pack3 bl)) (hS : ∀ b, S b → b < w.heap.size) (hb : bl.length = 16) :
    Calls Tryz.prog 130 #[v, .int .i64 16, .int .i64 3] w fun e w' => e = .returned (.tuple #[.string ⟨bl.toArray⟩, .bool true]) ∧ Below w.heap.size w w' := by
  obtain ⟨A, n, c, rfl, hn, hnc, hcc⟩ := hv
  obtain ⟨i0, hi, hz0, hz1, hz2⟩ := info_parts infoB
  have hn6 : n = 6 := by rw [hn, pack3_len, hb]
  subst hn6
  have HCC := Lib.hid hcc
  have HB := Lib.hid hb
  clear hn hcc hb
  go_enter Tryz.func130, Tryz.ntmps130
  go_wp2_with fail
  go_loopw [8, 15] (fun o t wr => ∃ k : Nat, k ≤ 6 ∧ t = .int .i64 (k : Int) ∧ wr.ownsRow w.heap.size 5 1 o (min (3 * k) 16) (Lib.byteCells (bl.take (3 * k))) ∧ Below w.heap.size w wr) (fun _ t _ => 6 - (intOf t).toNat)
  case atStart => exact ⟨0, by omega, rfl, by simpa [Lib.byteCells] using World.ownsRow_nil _ _ _ _, Below.refl _ _⟩
  case round =>
    obtain ⟨k, hk, rfl, hown, hbl⟩ := hrel
    have hzz := hbl.size
    by_cases hlt : k < 6
    · obtain ⟨b, off, rfl, hSb, hcell⟩ := HCC.out (by decide)
      have ck := (hbl.cell (p := ⟨b, off + k, none⟩) (hS b hSb)).trans (hcell k hlt)
      rw [pack3_get bl k (by rw [HB.out]; omega)] at ck
      have hpl := pk3_lt bl k
      rw [HB.out] at hpl
      have hby : ∀ j, (hj : 3 * k + j < bl.length) → j < 3 → pk3 bl k / 256 ^ (min 3 (16 - 3 * k) - 1 - j) % 256 = (bl[3 * k + j]).toNat := fun j hj hj3 => by
        have h := pk3_byte bl k j hj hj3
        rw [HB.out] at h
        rw [← h]; simp
      obtain ⟨x, hx⟩ : ∃ x, pk3 bl k = x := ⟨_, rfl⟩
      rw [hx] at ck hpl hby
      obtain ⟨q, hq⟩ : ∃ q, 3 * k = q := ⟨_, rfl⟩
      have hq2 : min (3 * k) 16 = q := by omega
      rw [hq2] at hown
      rw [hq] at hown hpl hby
      have hq15 : q ≤ 15 := by omega
      have HQ := Lib.hid hq
      have HBY := Lib.hid hby
      have HOWN := Lib.hid hown
      have HBL := Lib.hid hbl
      have hw1 : IntKind.i64.wrap (16 - (q : Int)) = 16 - (q : Int) := IntWalk.i64_in _ ⟨by omega, by omega⟩
      obtain ⟨Ao, no, co, rfl, hno⟩ : ∃ Ao no co, (u8 : Value) = .slice Ao no co ∧ no = q := by
        rcases id hown.2 with ⟨h1, h2⟩ | ⟨g, cap, cur, h1, -⟩
        · exact ⟨none, 0, 0, h1, h2.symm⟩
        · exact ⟨_, q, cap, h1, rfl⟩
      subst hno
      have qk : (k : Int) < 6 := by omega
      have hx0 : decide ((x : Int) < 0) = false := decide_eq_false (by omega)
      rcases (show (min (3 : Int) (16 - (no : Int)) = 3 ∧ min 3 (16 - no) = 3 ∧ no ≤ 12) ∨ (min (3 : Int) (16 - (no : Int)) = 1 ∧ min 3 (16 - no) = 1 ∧ 15 ≤ no) by omega) with ⟨hm, hm', hno⟩ | ⟨hm, hm', hno⟩
      · rw [hm'] at hpl
        have hpl' : x < 16777216 := hpl
        have hsh : (x : Int) / 16777216 = 0 := by omega
        clear hown hbl hby hq hcell hx
        obtain ⟨wo, hwo⟩ : ∃ wo : World, wo = wr := ⟨_, rfl⟩
        subst hwo
        go_wp2_with fail
        go_loopw [8, 12] (fun o t wq => ∃ j : Nat, j ≤ 3 ∧ t = .int .i64 (2 - (j : Int)) ∧ wq.ownsRow w.heap.size 5 1 o (no + j) (Lib.byteCells (bl.take (no + j))) ∧ Below w.heap.size w wq) (fun _ t _ => (intOf t + 1).toNat)
        case atStart => exact ⟨0, by omega, rfl, by rw [Nat.add_zero, ← HQ.out]; exact HQ.out ▸ HOWN.out, HBL.out⟩
        case round =>
          obtain ⟨j, hj, rfl, hownj, hblj⟩ := hrel
          have hzj := hblj.size
          have HOJ := Lib.hid hownj
          have HBJ := Lib.hid hblj
          clear hblj
          rcases (show j = 0 ∨ j = 1 ∨ j = 2 ∨ j = 3 by omega) with rfl | rfl | rfl | rfl
          · have hjl : no + 0 < bl.length := by rw [HB.out]; omega
            have hst := cells_app1 bl (no + 0) hjl
            have hc := HBY.out 0 hjl (by decide)
            rw [hm'] at hc
            have hval : (x : Int) / 65536 = ((bl[no + 0]).toNat : Int) := by rw [← hc]; show _ = ((x / 256 ^ (3 - 1 - 0) % 256 : Nat) : Int); have : x / 256 ^ (3 - 1 - 0) = x / 65536 := rfl; omega
            rw [← hval] at hst
            have HST := Lib.hid hst
            clear hst hc hval hownj
            go_wp2_with (at_builtin; refine wpList_append_own _ rfl _ _ 91 rfl w.heap.size 5 i0 (.int .u8 0) 1 1 Tryz.underlying91 hi hz0 hz1 hz2 rfl (by decide) _ _ _ rfl (HOJ.out.alloc _) ⟨wr.heap.size, 0, none⟩ 1 1 [.int .u8 ((x : Int) / 65536)] rfl rfl (fun j u hj => by have := cell_one_new wr (.int .u8 ((x : Int) / 65536)) 5 j u hj; simpa using this) (ints_oneCell .u8 [_]) (by unfold maxLen; omega) (by omega) (by simp; omega) ?_)
            intro v' w5 hown' hgrow _
            have hg := grown_past hgrow
            have hown2 : w5.ownsRow w.heap.size 5 1 v' (no + 1) (Lib.byteCells (bl.take (no + 1))) := by
              rw [show no + 1 = no + 0 + 1 from rfl, HST.out]; simpa using hown'
            have hul : ∀ g, (u8 : Value).ownBlock = some g → w.heap.size ≤ g := fun g hg => (HOJ.out.lt g hg).1
            have HO5 := Lib.hid hown2
            have HB5 := Lib.hid (HBJ.out.grown hg hzj hul)
            clear hown' hgrow hg hown2 hul
            go_wp2_with fail
            go_roundw
            case measure => simp [intOf]
            case rel => exact ⟨1, by omega, rfl, HO5.out, HB5.out⟩
          · have hjl : no + 1 < bl.length := by rw [HB.out]; omega
            have hst := cells_app1 bl (no + 1) hjl
            have hc := HBY.out 1 hjl (by decide)
            rw [hm'] at hc
            have hval : (x : Int) / 256 % 256 = ((bl[no + 1]).toNat : Int) := by rw [← hc]; show _ = ((x / 256 ^ (3 - 1 - 1) % 256 : Nat) : Int); have : x / 256 ^ (3 - 1 - 1) = x / 256 := rfl; omega
            rw [← hval] at hst
            have HST := Lib.hid hst
            clear hst hc hval hownj
            go_wp2_with (at_builtin; refine wpList_append_own _ rfl _ _ 91 rfl w.heap.size 5 i0 (.int .u8 0) 1 1 Tryz.underlying91 hi hz0 hz1 hz2 rfl (by decide) _ _ _ rfl (HOJ.out.alloc _) ⟨wr.heap.size, 0, none⟩ 1 1 [.int .u8 ((x : Int) / 256 % 256)] rfl rfl (fun j u hj => by have := cell_one_new wr (.int .u8 ((x : Int) / 256 % 256)) 5 j u hj; simpa using this) (ints_oneCell .u8 [_]) (by unfold maxLen; omega) (by omega) (by simp; omega) ?_)
            intro v' w5 hown' hgrow _
            have hg := grown_past hgrow
            have hown2 : w5.ownsRow w.heap.size 5 1 v' (no + 2) (Lib.byteCells (bl.take (no + 2))) := by
              rw [show no + 2 = no + 1 + 1 from rfl, HST.out]; simpa using hown'
            have hul : ∀ g, (u8 : Value).ownBlock = some g → w.heap.size ≤ g := fun g hg => (HOJ.out.lt g hg).1
            have HO5 := Lib.hid hown2
            have HB5 := Lib.hid (HBJ.out.grown hg hzj hul)
            clear hown' hgrow hg hown2 hul
            go_wp2_with fail
            go_roundw
            case measure => simp [intOf]
            case rel => exact ⟨2, by omega, rfl, HO5.out, HB5.out⟩
          · have hjl : no + 2 < bl.length := by rw [HB.out]; omega
            have hst := cells_app1 bl (no + 2) hjl
            have hc := HBY.out 2 hjl (by decide)
            rw [hm'] at hc
            have hval : (x : Int) % 256 = ((bl[no + 2]).toNat : Int) := by rw [← hc]; show _ = ((x / 256 ^ (3 - 1 - 2) % 256 : Nat) : Int); have : x / 256 ^ (3 - 1 - 2) = x / 1 := rfl; omega
            rw [← hval] at hst
            have HST := Lib.hid hst
            clear hst hc hval hownj
            go_wp2_with (at_builtin; refine wpList_append_own _ rfl _ _ 91 rfl w.heap.size 5 i0 (.int .u8 0) 1 1 Tryz.underlying91 hi hz0 hz1 hz2 rfl (by decide) _ _ _ rfl (HOJ.out.alloc _) ⟨wr.heap.size, 0, none⟩ 1 1 [.int .u8 ((x : Int) % 256)] rfl rfl (fun j u hj => by have := cell_one_new wr (.int .u8 ((x : Int) % 256)) 5 j u hj; simpa using this) (ints_oneCell .u8 [_]) (by unfold maxLen; omega) (by omega) (by simp; omega) ?_)
            intro v' w5 hown' hgrow _
            have hg := grown_past hgrow
            have hown2 : w5.ownsRow w.heap.size 5 1 v' (no + 3) (Lib.byteCells (bl.take (no + 3))) := by
              rw [show no + 3 = no + 2 + 1 from rfl, HST.out]; simpa using hown'
            have hul : ∀ g, (u8 : Value).ownBlock = some g → w.heap.size ≤ g := fun g hg => (HOJ.out.lt g hg).1
            have HO5 := Lib.hid hown2
            have HB5 := Lib.hid (HBJ.out.grown hg hzj hul)
            clear hown' hgrow hg hown2 hul
            go_wp2_with fail
            go_roundw
            case measure => simp [intOf]
            case rel => exact ⟨3, by omega, rfl, HO5.out, HB5.out⟩
          · clear hownj
            go_wp2_with fail
            go_roundw
            case measure => simp [intOf]; omega
            case rel =>
              refine ⟨k + 1, by omega, by go_num, ?_, HBJ.out⟩
              have h := HOJ.out
              have hq := HQ.out
              rw [show min (3 * (k + 1)) 16 = no + 3 by omega, show 3 * (k + 1) = no + 3 by omega]
              exact h
      · rw [hm'] at hpl
        have hpl' : x < 256 := hpl
        have hsh : (x : Int) / 256 = 0 := by omega
        clear hown hbl hby hq hcell hx
        obtain ⟨wo, hwo⟩ : ∃ wo : World, wo = wr := ⟨_, rfl⟩
        subst hwo
        go_wp2_with fail
        go_loopw [8, 12] (fun o t wq => ∃ j : Nat, j ≤ 1 ∧ t = .int .i64 (0 - (j : Int)) ∧ wq.ownsRow w.heap.size 5 1 o (no + j) (Lib.byteCells (bl.take (no + j))) ∧ Below w.heap.size w wq) (fun _ t _ => (intOf t + 1).toNat)
        case atStart => exact ⟨0, by omega, rfl, by rw [Nat.add_zero, ← HQ.out]; exact HQ.out ▸ HOWN.out, HBL.out⟩
        case round =>
          obtain ⟨j, hj, rfl, hownj, hblj⟩ := hrel
          have hzj := hblj.size
          have HOJ := Lib.hid hownj
          have HBJ := Lib.hid hblj
          clear hblj
          rcases (show j = 0 ∨ j = 1 by omega) with rfl | rfl
          · have hjl : no + 0 < bl.length := by rw [HB.out]; omega
            have hst := cells_app1 bl (no + 0) hjl
            have hc := HBY.out 0 hjl (by decide)
            rw [hm'] at hc
            have hval : (x : Int) = ((bl[no + 0]).toNat : Int) := by rw [← hc]; show _ = ((x / 256 ^ (1 - 1 - 0) % 256 : Nat) : Int); have : x / 256 ^ (1 - 1 - 0) = x / 1 := rfl; omega
            rw [← hval] at hst
            have HST := Lib.hid hst
            clear hst hc hval hownj
            go_wp2_with (at_builtin; refine wpList_append_own _ rfl _ _ 91 rfl w.heap.size 5 i0 (.int .u8 0) 1 1 Tryz.underlying91 hi hz0 hz1 hz2 rfl (by decide) _ _ _ rfl (HOJ.out.alloc _) ⟨wr.heap.size, 0, none⟩ 1 1 [.int .u8 ((x : Int))] rfl rfl (fun j u hj => by have := cell_one_new wr (.int .u8 ((x : Int))) 5 j u hj; simpa using this) (ints_oneCell .u8 [_]) (by unfold maxLen; omega) (by omega) (by simp; omega) ?_)
            intro v' w5 hown' hgrow _
            have hg := grown_past hgrow
            have hown2 : w5.ownsRow w.heap.size 5 1 v' (no + 1) (Lib.byteCells (bl.take (no + 1))) := by
              rw [show no + 1 = no + 0 + 1 from rfl, HST.out]; simpa using hown'
            have hul : ∀ g, (u8 : Value).ownBlock = some g → w.heap.size ≤ g := fun g hg => (HOJ.out.lt g hg).1
            have HO5 := Lib.hid hown2
            have HB5 := Lib.hid (HBJ.out.grown hg hzj hul)
            clear hown' hgrow hg hown2 hul
            go_wp2_with fail
            go_roundw
            case measure => simp [intOf]
            case rel => exact ⟨1, by omega, rfl, HO5.out, HB5.out⟩
          · clear hownj
            go_wp2_with fail
            go_roundw
            case measure => simp [intOf]; omega
            case rel =>
              refine ⟨k + 1, by omega, by go_num, ?_, HBJ.out⟩
              have h := HOJ.out
              have hq := HQ.out
              rw [show min (3 * (k + 1)) 16 = no + 1 by omega, List.take_of_length_le (by rw [HB.out]; omega)]
              rw [List.take_of_length_le (by rw [HB.out]; omega)] at h
              exact h
    · have hk6 : k = 6 := by omega
      subst hk6
      rw [show min (3 * 6) 16 = 16 from rfl, List.take_of_length_le (by rw [HB.out]; decide)] at hown
      have HBL := Lib.hid hbl
      clear hbl
      rcases id hown.2 with ⟨h1, h2⟩ | ⟨g, cap, cur, rfl, -⟩
      · cases h2
      have hcv := row_string wr w.heap.size g cap bl 16 hown HB.out
      clear hown
      go_wp2_with fail
      go_ret2
      exact ⟨rfl, HBL.out⟩
end Go.Proofs.YtjfphobfikadlaaGreatDoor
