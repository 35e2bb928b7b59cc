/- Contracts: sixteen bytes as elements of three bytes each. Contracts: the mark of a share: the program's. -/
import Derived.Test.YtjfphobfikadlaaGreatDoorX18
import Derived.Test.YtjfphobfikadlaaGreatDoorX19
import Derived.Test.YtjfphobfikadlaaGreatDoorX21
set_option linter.unusedVariables false
set_option linter.unusedSimpArgs false
namespace Go.Proofs.YtjfphobfikadlaaGreatDoor
open Go.RowKit Num

theorem ext_take (q : ByteArray) (m : Nat) : (q.extract 0 m).data.toList = q.data.toList.take m := by
  rw [ByteArray.data_extract, Array.toList_extract]; simp
theorem ext_size (q : ByteArray) (m : Nat) (h : m ≤ q.size) : (q.extract 0 m).size = m := by
  rw [ByteArray.size_extract]; omega
/-- A part of a string as bytes. -/
theorem conv_part (w : World) (s : ByteArray) (l : List UInt8) (m : Nat) (hl : s.data.toList = l) (hm : l.length = m) :
    ∃ cap w2, (convert 9 91 (.string s)).run Tryz.prog w = .ok (.slice (some ⟨w.heap.size, 0, none⟩) m cap) w2 ∧ m ≤ cap ∧ Below w.heap.size w w2 ∧
      ∀ j c, l[j]? = some c → w2.cell? ⟨w.heap.size, j, none⟩ = some (.int .u8 (c.toNat : Int)) := by
  have hcv := Lib.run_convert_string_bytes (P := Tryz.prog) w 9 91 5 s Tryz.underlying9 Tryz.underlying91 Tryz.underlying5
  have hob := ownB_bytes w s 5
  have hbl := below_bytes w s 5
  have hsm : s.size = m := by rw [← hm, ← hl]; rfl
  rw [hsm] at hcv hob
  obtain ⟨g, cap, e, h1, h2, h3, h4, h5⟩ := hob
  injection e with e1 e2 e3
  injection e1 with e1
  injection e1 with e1
  have hl2 : (Lib.byteCells s.data.toList).length = m := by rw [hl]; simp [Lib.byteCells, hm]
  rw [hl2] at h3
  refine ⟨_, _, hcv, by omega, hbl, fun j c h => ?_⟩
  rw [e1]
  exact h5 j _ (by rw [hl]; unfold Lib.byteCells; rw [List.getElem?_map, h]; rfl)
theorem wid3 {p : Nat} (h : 16777216 ≤ p) : widP p = 3 := by
  unfold widP; rw [if_neg (show ¬ p < 256 by omega), if_neg (show ¬ p < 65536 by omega), if_neg (show ¬ p < 16777216 by omega)]
theorem cnt3 {p : Nat} (h : 16777216 ≤ p) : cntP p = 6 := by unfold cntP; rw [wid3 h]; rfl
theorem chunk_take (l : List UInt8) (j : Nat) (h : j < l.length) : chunkN (l.take (j + 1)) = chunkN (l.take j) * 256 + (l[j]).toNat := by
  rw [List.take_succ_eq_append_getElem h, chunk_snoc]
theorem pack3_part (l : List UInt8) (k : Nat) (h : k < (l.length + 2) / 3) : (pack3 l).take (k + 1) = (pack3 l).take k ++ [((pk3 l k : Nat) : Int)] := by
  have hk : k < (pack3 l).length := by rw [pack3_len]; exact h
  rw [List.take_succ_eq_append_getElem hk]
  have e := pack3_get l k h
  rw [List.getD_eq_getElem?_getD, List.getElem?_eq_getElem hk] at e
  rw [← e]; rfl
set_option maxRecDepth 100000 in
set_option maxHeartbeats 4000000 in
theorem p_Pack3 (p : Nat) (s : ByteArray) (w : World) (hw : BasesOk w) (hp : Prm p) (h1 : 16777216 ≤ p) (h2 : p ≤ 1073741824) (hs : s.size = 16) :
    Calls Tryz.prog 67 #[.int .i64 (p : Int), .string s] w (IntsPost2 (pack3 s.data.toList) w) := by
  obtain ⟨i0, hi, hz0, hz1, hz2⟩ := info_parts infoI
  have hv := f_Valid p w hw hp h2
  have hwid := fun W => p_Width p W h2
  rw [wid3 h1] at hwid
  have hcnt := fun W => p_Count p W h2
  rw [cnt3 h1] at hcnt
  have hll : s.data.toList.length = 16 := by simpa using hs
  have HV := Lib.hid hv
  have HWID := Lib.hid hwid
  have HCNT := Lib.hid hcnt
  have HLL := Lib.hid hll
  clear hv hwid hcnt hw hll
  go_enter Tryz.func67, Tryz.ntmps67
  go_wp2_with fail
  refine HV.out.mono ?_
  rintro e w' ⟨rfl, rfl⟩
  go_wp2_with fail
  refine (HCNT.out _).mono ?_
  rintro e w1 ⟨rfl, hb1⟩
  have HB1 := Lib.hid hb1
  clear hb1
  go_wp2_with fail
  refine (HWID.out _).mono ?_
  rintro e w' ⟨rfl, rfl⟩
  have HS := Lib.hid hs
  clear hs
  go_wp2_with fail
  go_loopw [1, 6] (fun x o wr => ∃ (k : Nat) (q : ByteArray), k ≤ 6 ∧ x = .string q ∧ q.data.toList = s.data.toList.drop (3 * k) ∧ q.size = 16 - 3 * k ∧ wr.ownsRow w.heap.size 3 1 o k (((pack3 s.data.toList).take k).map (Value.int .i64)) ∧ Below w.heap.size w wr) (fun x _ _ => strLen x)
  case atStart => exact ⟨0, s, by omega, rfl, by simp, HS.out, World.ownsRow_nil _ _ _ _, HB1.out⟩
  case round =>
    obtain ⟨k, q, hk, rfl, hq, hqs, hown, hbl⟩ := hrel
    have HOWN := Lib.hid hown
    have HBL := Lib.hid hbl
    have HQ := Lib.hid hq
    have hzz := hbl.size
    clear hown hbl hq
    by_cases hlt : k < 6
    · have e1 := str_full (q := q) (by omega)
      obtain ⟨m, hm⟩ : ∃ m, min 3 (16 - 3 * k) = m := ⟨_, rfl⟩
      obtain ⟨r, hr⟩ : ∃ r, q.size = r := ⟨_, rfl⟩
      have hmr : m ≤ r := by omega
      have hmin : min (3 : Int) (r : Int) = (m : Int) := by omega
      have hs16 := HS.out
      have hpl : (q.extract 0 m).data.toList = (s.data.toList.drop (3 * k)).take 3 := by
        rw [ext_take, HQ.out, ← hm, List.take_eq_take_iff]
        simp; omega
      obtain ⟨l, hl⟩ : ∃ l, (s.data.toList.drop (3 * k)).take 3 = l := ⟨_, rfl⟩
      rw [hl] at hpl
      have hlen : l.length = m := by rw [← hl, ← hm]; simp; omega
      have hpk : chunkN l = pk3 s.data.toList k := by unfold pk3; rw [hl]
      obtain ⟨cap, w2, hcv, hcap, hb2, hcell⟩ := conv_part wr (q.extract 0 m) l m hpl hlen
      have hsz2 := hb2.size
      have HCL := Lib.hid hcell
      have HPK := Lib.hid hpk
      have HB2 := Lib.hid (HBL.out.trans (hb2.mono hzz))
      have HLEN := Lib.hid hlen
      have HO2 := Lib.hid (HOWN.out.kept (only_of_below hb2 none) (by cases (u6 : Value).ownBlock <;> simp))
      have HQS := Lib.hid hqs
      have hm3 : m ≤ 3 := by omega
      have hm1 : 1 ≤ m := by omega
      rw [hr] at hqs
      have HM := Lib.hid hm
      clear hcell hpk hpl hb2 hlen hl hqs hs16 hm
      go_wp2_with fail
      go_loopw [11, 65] (fun x t wq => ∃ j : Nat, j ≤ m ∧ t = .int .i64 (j : Int) ∧ x = .int .i64 ((chunkN (l.take j) : Nat) : Int) ∧ w2 = wq) (fun _ t _ => m - (intOf t).toNat)
      case atStart => exact ⟨0, by omega, rfl, rfl, rfl⟩
      case round =>
        obtain ⟨j, hj, rfl, rfl, rfl⟩ := hrel
        by_cases hjm : j < m
        · have qj : (j : Int) < (m : Int) := by omega
          have hjl : j < l.length := by rw [HLEN.out]; exact hjm
          have cj := HCL.out j _ (List.getElem?_eq_getElem hjl)
          have hnx := chunk_take l j hjl
          have hlt2 := chunk_lt _ (l.take j) rfl
          have hlt3 : chunkN (l.take j) < 65536 := by
            have h3 : (l.take j).length ≤ 2 := by rw [List.length_take]; omega
            exact Nat.lt_of_lt_of_le hlt2 (Nat.le_trans (Nat.pow_le_pow_right (by decide) h3) (by decide))
          have hc8 := (l[j]).toNat_lt
          obtain ⟨c, hc⟩ : ∃ c, (l[j]).toNat = c := ⟨_, rfl⟩
          obtain ⟨y, hy⟩ : ∃ y, chunkN (l.take j) = y := ⟨_, rfl⟩
          rw [hc] at cj hnx hc8
          rw [hy] at hnx hlt3 ⊢
          have HNX := Lib.hid hnx
          clear hc hy hnx hlt2
          go_wp2_with fail
          go_roundw
          case measure => simp [intOf]; omega
          case rel => exact ⟨j + 1, by omega, by go_num, by rw [HNX.out]; go_num, by first | rfl | trivial⟩
        · have hjm' : j = m := by omega
          subst hjm'
          have htk : l.take j = l := List.take_of_length_le (by rw [HLEN.out]; exact Nat.le_refl _)
          rw [htk, HPK.out]
          have hst := pack3_part s.data.toList k (by rw [HLL.out]; omega)
          obtain ⟨y, hy⟩ : ∃ y, pk3 s.data.toList k = y := ⟨_, rfl⟩
          rw [hy] at hst ⊢
          have HST := Lib.hid hst
          have HCV := Lib.hid hcv
          have hw2 := HB2.out.size
          clear hst hy htk hcv
          go_wp2_with (at_builtin; refine wpList_append_own _ rfl _ _ 24 rfl w.heap.size 3 i0 (.int .i64 0) 1 8 Tryz.underlying24 hi hz0 hz1 hz2 rfl (by decide) _ _ _ rfl (HO2.out.alloc _) ⟨w2.heap.size, 0, none⟩ 1 1 [.int .i64 (y : Int)] rfl rfl (fun j u hj => by have := cell_one_new w2 (.int .i64 (y : Int)) 3 j u hj; simpa using this) (ints_oneCell .i64 [_]) (by unfold maxLen; omega) (by omega) (by simp; omega) ?_)
          intro v' w5 hown' hgrow _
          have hg := grown_past hgrow
          have hown2 : w5.ownsRow w.heap.size 3 1 v' (k + 1) (((pack3 s.data.toList).take (k + 1)).map (Value.int .i64)) := by rw [HST.out, List.map_append]; simpa using hown'
          have hul : ∀ g, (u6 : Value).ownBlock = some g → w.heap.size ≤ g := fun g hg => (HO2.out.lt g hg).1
          have HO5 := Lib.hid hown2
          have HB5 := Lib.hid (HB2.out.grown hg hw2 hul)
          clear hown' hgrow hg hown2 hul
          go_wp2_with fail
          go_roundw
          case measure =>
            have h1 := HQS.out
            have h2 := HM.out
            have h3 : (q.extract j q.size).size < q.size := by rw [ByteArray.size_extract]; omega
            simpa [strLen, hr] using h3
          case rel =>
            refine ⟨k + 1, q.extract j q.size, by omega, by rw [hr], ?_, ?_, HO5.out, HB5.out⟩
            · rw [extract_list, HQ.out, List.drop_drop]
              have h2 := HM.out
              rcases (show j = 3 ∨ 16 ≤ 3 * k + j by omega) with h | h
              · rw [h]; rfl
              · rw [List.drop_eq_nil_of_le (by rw [HLL.out]; omega), List.drop_eq_nil_of_le (by rw [HLL.out]; omega)]
            · have h1 := HQS.out
              have h2 := HM.out
              rw [ByteArray.size_extract]; omega
    · have hk6 : k = 6 := by omega
      subst hk6
      have e1 := str_empty (q := q) (by omega)
      go_wp2_with fail
      go_ret2
      refine ⟨_, rfl, ?_, HBL.out⟩
      have h := HOWN.out
      rw [List.take_of_length_le (by rw [pack3_len, HLL.out]; decide)] at h
      exact IntsAt.of_own h
end Go.Proofs.YtjfphobfikadlaaGreatDoor
namespace Go.Proofs.YtjfphobfikadlaaGreatDoor
open Go.RowKit Num

/-- What is summed of a share. -/
def markB (h : Int) (xs : List Int) : ByteArray := ⟨(putB h ++ putsB xs).toArray⟩
def markS (h : Int) (xs : List Int) : ByteArray := shaOf (markB h xs)
theorem markS_size (h : Int) (xs : List Int) : (markS h xs).size = 32 := shaOf_size _
def MarkPost (h : Int) (xs : List Int) (w : World) (e : Ending) (w' : World) : Prop := e = .returned (.string (markS h xs)) ∧ Below w.heap.size w w'
theorem putsB_len (xs : List Int) : (putsB xs).length ≤ 11 * xs.length + 11 := by
  unfold putsB; rw [List.length_append]; have := putB_len (xs.length : Int); have := putsL_len xs; omega
set_option maxRecDepth 100000 in
set_option maxHeartbeats 1000000 in
theorem c_Mark (h : Int) (v : Value) (xs : List Int) (S : Nat → Prop) (w : World) (hv : IntsAt w S v xs) (hS : ∀ b, S b → b < w.heap.size) (hl : xs.length ≤ 100000) (hr : I64s xs) (h1 : -9223372036854775808 ≤ h) (h2 : h < 9223372036854775808) :
    Calls Tryz.prog 53 #[.agg #[.int .i64 h, v]] w (MarkPost h xs w) := by
  obtain ⟨A, n, c, rfl, hn, hnc, hcc⟩ := id hv
  have hp := fun (W : World) => c_PutInt ⟨#[]⟩ h W h1 h2 (by decide)
  unfold PutPost at hp
  simp only [bytes_empty] at hp
  have hlen := putB_len h
  have hz : (⟨(putB h).toArray⟩ : ByteArray).size < 4294967296 := by show (putB h).toArray.size < _; rw [List.size_toArray]; omega
  have hq := fun (W : World) (hW : Below w.heap.size w W) => c_PutInts ⟨(putB h).toArray⟩ (.slice A n c) xs S W (hv.keep fun b hb => hW.block b (hS b hb)) (fun b hb => by have := hS b hb; have := hW.size; omega) (by omega) hr hz
  unfold PutsPost at hq
  simp only [bytes_two] at hq
  have hm := putsB_len xs
  have hs := fun (W : World) => d_Sum (markB h xs) W (by show (putB h ++ putsB xs).toArray.size < _; rw [List.size_toArray, List.length_append]; omega)
  unfold markB at hs
  have HP := Lib.hid hp
  have HQ := Lib.hid hq
  have HS := Lib.hid hs
  clear hp hq hs hv hn hcc hr
  have p1 : (w.alloc (.cells #[.int .i64 h, .slice A n c] 49)).cell? ⟨w.heap.size, 0, none⟩ = some (.int .i64 h) := by rw [World.cell?_alloc_new]; rfl
  have p2 : (w.alloc (.cells #[.int .i64 h, .slice A n c] 49)).cell? ⟨w.heap.size, 1, none⟩ = some (.slice A n c) := by rw [World.cell?_alloc_new]; rfl
  have hba := (Below.refl w.heap.size w).alloc (Nat.le_refl _) (.cells #[.int .i64 h, .slice A n c] 49)
  go_enter Tryz.func53, Tryz.ntmps53
  go_wp2_with fail
  generalize w.alloc (.cells #[.int .i64 h, .slice A n c] 49) = w1 at *
  go_region_held3 (fun W => W.cell? ⟨w.heap.size, 0, none⟩ = some (.int .i64 h) ∧ W.cell? ⟨w.heap.size, 1, none⟩ = some (.slice A n c) ∧ Below w.heap.size w W)
    (first
      | exact ⟨p1, p2, hba.drew⟩
      | (go_split_ands
         refine ⟨?_, ?_, ?_⟩
         · (rw [hbk.cell (World.block_lt_of_cell? _ _ ‹_›)]; assumption)
         · (rw [hbk.cell (World.block_lt_of_cell? _ _ ‹_›)]; assumption)
         · exact Below.trans ‹Below w.heap.size w _› (hbk.mono (‹Below w.heap.size w _›).size)))
    (first
      | (go_at_call 103; ((with_reducible refine (HP.out _).mono ?_); rintro e wk ⟨rfl, hbk⟩))
      | (go_at_call 102; ((with_reducible refine (HQ.out _ (by go_split_ands; assumption)).mono ?_); rintro e wk ⟨rfl, hbk⟩))
      | (go_at_call 60; ((with_reducible refine (HS.out _).mono ?_); rintro e wk ⟨rfl, hbk⟩)))
  all_goals
    go_split_ands
    have hbf : Below w.heap.size w wk := by assumption
    go_wp2_with fail
    go_ret
    exact ⟨rfl, hbf⟩
end Go.Proofs.YtjfphobfikadlaaGreatDoor
