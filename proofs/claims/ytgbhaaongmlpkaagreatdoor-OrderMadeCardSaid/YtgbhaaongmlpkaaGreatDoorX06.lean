/- Contracts of the builder at this cut: its check. Contracts of the sum: the padding. Contracts of the sum: the whole. -/
import Derived.Test.YtgbhaaongmlpkaaGreatDoorX05
import Derived.Lib.Builder
import Derived.Lib.UnsafeStr
import Derived.Lib.FrozenHead2
import Derived.Test.YtgbhaaongmlpkaaGreatDoorShelf
import Derived.Deep.RegionHeld3
set_option linter.unusedVariables false
set_option linter.unusedSimpArgs false
namespace Go.Proofs.YtgbhaaongmlpkaaGreatDoor
open Go.RowKit Num
set_option maxRecDepth 100000 in
set_option maxHeartbeats 1000000 in
theorem b_copyCheck_used (b : Nat) (w : World) (h0 : w.cell? ⟨b, 0, none⟩ = some (.pointer (some ⟨b, 0, none⟩))) :
    Calls Tryz.prog 96 #[.pointer (some ⟨b, 0, none⟩)] w fun e w' => e = .returned (.tuple #[]) ∧ w' = w := by
  have sz : (Tryz.prog.info? 133).map (·.size) = some 2 := by kernel_rfl
  obtain ⟨j, hj, _⟩ := Option.map_eq_some_iff.1 sz
  go_enter Tryz.func96, Tryz.ntmps96
  go_wp2
  rw [Lib.run_neq_ptr_same w _ Tryz.underlying131 hj]
  go_wp2
  go_end0
  exact ⟨rfl, rfl⟩
set_option maxRecDepth 100000 in
set_option maxHeartbeats 1000000 in
theorem b_copyCheck_fresh (b : Nat) (w : World) (h0 : w.cell? ⟨b, 0, none⟩ = some (.pointer none)) (hsh : w.shape? b = some (133, 2)) (hf : w.frozen? ⟨b, 0, none⟩ = false) :
    Calls Tryz.prog 96 #[.pointer (some ⟨b, 0, none⟩)] w fun e w' => e = .returned (.tuple #[]) ∧ w' = w.setCell ⟨b, 0, none⟩ (.pointer (some ⟨b, 0, none⟩)) := by
  have sz : (Tryz.prog.info? 133).map (·.size) = some 2 := by kernel_rfl
  have li : liesAt Tryz.prog Tryz.prog.depth 133 (2 / Tryz.prog.cellsOf 133) 0 133 1 = true := by kernel_rfl
  obtain ⟨j, hj, hjs⟩ := Option.map_eq_some_iff.1 sz
  go_enter Tryz.func96, Tryz.ntmps96
  go_wp2
  rw [Lib.run_to_unsafe w ⟨b, 0, none⟩ Tryz.underlying131 Tryz.underlying155 hj (by rw [hjs]; decide) hsh (Nat.zero_lt_succ 1)]
  simp only [Result.andThen]
  rw [Oper.upon_value]
  go_wp2
  rw [run_callFunc_extern Tryz.func108 (by kernel_rfl) (by kernel_rfl) (by kernel_rfl) (e := Extern.AbiNoEscape.same) (by kernel_rfl)]
  rw [Lib.run_noEscape]
  simp only [Result.andThen]
  rw [Oper.upon_value]
  go_wp2
  rw [Lib.run_from_unsafe w ⟨b, 0, none⟩ Tryz.underlying155 Tryz.underlying131 hj hsh li]
  simp only [Result.andThen]
  rw [Oper.upon_value]
  go_wp2
  go_end0
  exact ⟨rfl, rfl⟩

abbrev BldF (B b : Nat) (bs : List Value) (w : World) : Prop := Lib.IsBuilderF 133 5 B b bs w
abbrev BldU (B b : Nat) (bs : List Value) (w : World) : Prop := Lib.BuilderAtF 133 5 B b (.pointer (some ⟨b, 0, none⟩)) bs w

theorem b_copyCheck (B b : Nat) (bs : List Value) (w : World) (h : BldF B b bs w) :
    Calls Tryz.prog 96 #[.pointer (some ⟨b, 0, none⟩)] w fun e w' => e = .returned (.tuple #[]) ∧ BldU B b bs w' ∧ Below B w w' := by
  rcases h with h | h
  · refine (b_copyCheck_fresh b w h.cell0 h.shape h.frozen0).mono ?_
    rintro e w' ⟨rfl, rfl⟩
    exact ⟨rfl, h.used _, (Below.refl B w).setCell (p := ⟨b, 0, none⟩) h.1 _⟩
  · refine (b_copyCheck_used b w h.cell0).mono ?_
    rintro e w' ⟨rfl, rfl⟩
    exact ⟨rfl, h, Below.refl B _⟩

theorem infoB : (Tryz.prog.info? 5).map (fun i => (i.zero, i.size, i.bytes)) = some (some (.int .u8 0), 1, 1) := by kernel_rfl

set_option maxRecDepth 100000 in
set_option maxHeartbeats 1000000 in
theorem b_WriteString (B b : Nat) (bs : List Value) (s : ByteArray) (w : World) (h : BldF B b bs w) (hlen : bs.length + s.size ≤ 140737488355328) (hBw : B ≤ w.heap.size) :
    Calls Tryz.prog 82 #[.pointer (some ⟨b, 0, none⟩), .string s] w fun e w' => e = .returned (.tuple #[.int .i64 s.size, .nilIface]) ∧ BldU B b (bs ++ Lib.strCells s) w' ∧ Below B w w' := by
  obtain ⟨i0, hi, hz0, hz1, hz2⟩ := info_parts infoB
  go_enter Tryz.func82, Tryz.ntmps82
  go_wp2_with (go_at_call 96; refine (b_copyCheck B b bs _ h).mono ?_)
  rintro e w1 ⟨rfl, h1, hb1⟩
  obtain ⟨hB, v, hbk, hown, hne⟩ := h1
  have c0 : w1.cell? ⟨b, 0, none⟩ = some (.pointer (some ⟨b, 0, none⟩)) := by rw [Lib.cell_of_heap hbk]; rfl
  have c1 : w1.cell? ⟨b, 1, none⟩ = some v := by rw [Lib.cell_of_heap hbk]; rfl
  go_wp2_with (at_builtin; refine Lib.wpList_append_own_stringF _ rfl _ _ 108 9 rfl B 5 i0 Tryz.underlying108 Tryz.underlying9 hi hz0 hz1 hz2 _ _ _ rfl hown s rfl ?c3 ?c4 ?c5 ?_)
  case c3 => unfold maxLen; omega
  case c4 => omega
  case c5 => have := hb1.size; omega
  intro v' w2 hown' hgrow _
  have hlt : b < w1.heap.size := by
    rcases Nat.lt_or_ge b w1.heap.size with h' | h'
    · exact h'
    · simp [Array.getElem?_eq_none h'] at hbk
  have hb2 : w2.heap[b]? = some (.cells #[.pointer (some ⟨b, 0, none⟩), v] 133 (0, 0)) := by
    rw [hgrow.block b hlt (fun e => hne e.symm)]
    exact hbk
  have d0 : w2.cell? ⟨b, 0, none⟩ = some (.pointer (some ⟨b, 0, none⟩)) := by rw [Lib.cell_of_heap hb2]; rfl
  have d1 : w2.cell? ⟨b, 1, none⟩ = some v := by rw [Lib.cell_of_heap hb2]; rfl
  have f1 : w2.frozen? ⟨b, 1, none⟩ = false := Lib.frozen_of_heap hb2 1
  obtain ⟨ao, n', cap, rfl⟩ : ∃ ao n' cap, v' = .slice ao n' cap := by
    rcases hown'.2 with ⟨hv, _⟩ | ⟨g, cap, cur, fz, hv, _⟩
    · exact ⟨_, _, _, hv⟩
    · exact ⟨_, _, _, hv⟩
  go_wp2
  go_ret2
  refine ⟨rfl, ?_, ?_⟩
  · exact Lib.BuilderAtF.put (T := 133) (e := 5) hB hb2 (bs' := bs ++ Lib.strCells s) (by simpa [Lib.strCells_length] using hown') (by decide)
  · exact (hb1.grown hgrow (by have := hb1.size; omega) (fun k hk => (hown.lt k hk).1)).setCell (p := ⟨b, 1, none⟩) hB _

set_option maxRecDepth 100000 in
set_option maxHeartbeats 1000000 in
theorem b_WriteByte (B b : Nat) (bs : List Value) (c : Int) (w : World) (h : BldF B b bs w) (hlen : bs.length + 1 ≤ 140737488355328) (hBw : B ≤ w.heap.size) :
    Calls Tryz.prog 83 #[.pointer (some ⟨b, 0, none⟩), .int .u8 c] w fun e w' => e = .returned .nilIface ∧ BldU B b (bs ++ [.int .u8 c]) w' ∧ Below B w w' := by
  obtain ⟨i0, hi, hz0, hz1, hz2⟩ := info_parts infoB
  go_enter Tryz.func83, Tryz.ntmps83
  go_wp2_with (go_at_call 96; refine (b_copyCheck B b bs _ h).mono ?_)
  rintro e w1 ⟨rfl, h1, hb1⟩
  obtain ⟨hB, v, hbk, hown, hne⟩ := h1
  have c0 : w1.cell? ⟨b, 0, none⟩ = some (.pointer (some ⟨b, 0, none⟩)) := by rw [Lib.cell_of_heap hbk]; rfl
  have c1 : w1.cell? ⟨b, 1, none⟩ = some v := by rw [Lib.cell_of_heap hbk]; rfl
  go_wp2_with (at_builtin; refine wpList_append_ownF _ rfl _ _ 108 rfl B 5 i0 (.int .u8 0) 1 1 Tryz.underlying108 hi hz0 hz1 hz2 rfl (by decide) _ _ _ rfl (hown.alloc _) ⟨w1.heap.size, 0, none⟩ 1 1 [.int .u8 c] rfl rfl ?c1 ?c2 ?c3 ?c4 ?c5 ?_)
  case c1 =>
    intro j u hj
    match j, hj with
    | 0, hj => simp at hj; subst hj; simp [Addr.add]
  case c2 => intro u hu; simp at hu; subst hu; rfl
  case c3 => unfold maxLen; omega
  case c4 => omega
  case c5 => have := hb1.size; simp; omega
  intro v' w2 hown' hgrow _
  have hlt : b < w1.heap.size := by
    rcases Nat.lt_or_ge b w1.heap.size with h' | h'
    · exact h'
    · simp [Array.getElem?_eq_none h'] at hbk
  have hb2 : w2.heap[b]? = some (.cells #[.pointer (some ⟨b, 0, none⟩), v] 133 (0, 0)) := by
    rw [hgrow.block b (by simp; omega) (fun e => hne e.symm), Lib.alloc_old w1 _ b hlt]
    exact hbk
  have d0 : w2.cell? ⟨b, 0, none⟩ = some (.pointer (some ⟨b, 0, none⟩)) := by rw [Lib.cell_of_heap hb2]; rfl
  have d1 : w2.cell? ⟨b, 1, none⟩ = some v := by rw [Lib.cell_of_heap hb2]; rfl
  have f1 : w2.frozen? ⟨b, 1, none⟩ = false := Lib.frozen_of_heap hb2 1
  obtain ⟨g, cap, rfl⟩ : ∃ g cap, v' = .slice (some ⟨g, 0, none⟩) (bs.length + 1) cap := by
    rcases hown'.2 with ⟨_, h0⟩ | ⟨g, cap, cur, fz, hv, _⟩
    · omega
    · exact ⟨g, cap, hv⟩
  go_wp2
  go_ret
  refine ⟨rfl, ?_, ?_⟩
  · exact Lib.BuilderAtF.put (T := 133) (e := 5) hB hb2 (bs' := bs ++ [.int .u8 c]) (by simpa using hown') (by decide)
  · exact ((hb1.alloc (by have := hb1.size; omega) _).grown hgrow (by have := hb1.size; simp; omega) (fun k hk => (hown.lt k hk).1)).setCell (p := ⟨b, 1, none⟩) hB _
end Go.Proofs.YtgbhaaongmlpkaaGreatDoor
namespace Go.Proofs.YtgbhaaongmlpkaaGreatDoor
open Go.RowKit Num

theorem bldU_below {B b : Nat} {bs : List Value} {w w' : World} (h : BldU B b bs w) (hb : Below w.heap.size w w') : BldU B b bs w' := by
  have hlt := Lib.BuilderAtF.lt h
  obtain ⟨hB, v, hbk, hown, hne⟩ := h
  exact ⟨hB, v, (hb.block b hlt).trans hbk, hown.kept (only_of_below hb none) (by cases hv : v.ownBlock <;> simp), hne⟩

/-- The eight bytes of a length in bits, so many of them. -/
def lenB (len : Nat) : Nat → List UInt8
  | 0 => []
  | k + 1 => lenB len k ++ [UInt8.ofNat (len * 8 / 2 ^ (8 * (7 - k)) % 256)]
theorem lenB_len (len : Nat) : ∀ k, (lenB len k).length = k := by
  intro k
  induction k with
  | zero => rfl
  | succ k ih => simp [lenB, ih]
def zerosN (n : Nat) : Nat := (119 - n % 64) % 64
/-- The last blocks: what is left, a 1, zeros, the length in bits. -/
def padL (left : List UInt8) (len : Nat) : List UInt8 := left ++ [128] ++ Lib.repeatL [0] (zerosN left.length) ++ lenB len 8
theorem repeatL_len (n : Nat) : (Lib.repeatL [0] n).length = n := by
  induction n with
  | zero => rfl
  | succ n ih => simp [Lib.repeatL, ih]
theorem byteCells_snoc1 (l : List UInt8) (c : Nat) (h : c < 256) : Lib.byteCells (l ++ [UInt8.ofNat c]) = Lib.byteCells l ++ [.int .u8 (c : Int)] := by
  simp only [Lib.byteCells, List.map_append, List.map_cons, List.map_nil]
  rw [UInt8.toNat_ofNat_of_lt' (by simpa using h)]

set_option maxRecDepth 100000 in
set_option maxHeartbeats 1000000 in
theorem d_rest (left : ByteArray) (len : Nat) (w : World) (hs : left.size < 4294967296) (hl : len < 1152921504606846976) :
    Calls Tryz.prog 66 #[.string left, .int .i64 (len : Int)] w fun e w' => e = .returned (.string ⟨(padL left.data.toList len).toArray⟩) ∧ Below w.heap.size w w' := by
  have hz : zerosN left.size < 64 := Nat.mod_lt _ (by decide)
  have hzi : ((119 - (left.size : Int)) % 64) = (zerosN left.size : Int) := by unfold zerosN; omega
  have HZ := Lib.hid hzi
  clear hzi
  go_enter Tryz.func66, Tryz.ntmps66
  go_wp2_with fail
  have hB : BldF w.heap.size w.heap.size [] (w.alloc (.cells #[.pointer none, .slice none 0 0] 133)) := Lib.IsBuilderF.of (Lib.fresh_isBuilder _ _ _)
  refine (b_WriteString w.heap.size w.heap.size [] left _ hB (by simp; omega) (by simp)).mono ?_
  rintro e w1 ⟨rfl, h1, hb1⟩
  have s1 := hb1.size
  go_wp2_with fail
  refine (b_WriteByte w.heap.size w.heap.size _ 128 _ (.inr h1) (by simp [Lib.strCells_length]; omega) (by simp at s1; omega)).mono ?_
  rintro e w2 ⟨rfl, h2, hb2⟩
  have s2 := hb2.size
  go_wp2_with fail
  rw [HZ.out]
  refine (Tryz.strings_Repeat ⟨#[0]⟩ (zerosN left.size) _ (by omega) (by show 1 * _ ≤ _; omega)).mono ?_
  rintro e w3 ⟨rfl, hb3⟩
  have s3 := hb3.size
  have h3 := bldU_below h2 hb3
  go_wp2_with fail
  refine (b_WriteString w.heap.size w.heap.size _ _ _ (.inr h3) (by show _ + (Lib.repeatL [0] (zerosN left.size)).toArray.size ≤ _; simp [Lib.strCells_length, repeatL_len]; omega) (by simp at s1; omega)).mono ?_
  rintro e w4 ⟨rfl, h4, hb4⟩
  have s4 := hb4.size
  go_wp2_with fail
  have hbw : Below w.heap.size w w4 := (((((Below.refl _ _).alloc (Nat.le_refl _) _).trans hb1).trans hb2).trans (hb3.mono (by simp at s1; omega))).trans hb4
  have hbase : (([] ++ Lib.strCells left ++ [Value.int .u8 128]) ++ Lib.strCells ⟨(Lib.repeatL [0] (zerosN left.size)).toArray⟩) = Lib.byteCells ((left.data.toList ++ [128] ++ Lib.repeatL [0] (zerosN left.data.toList.length)) ++ lenB len 0) := by
    simp [Lib.byteCells, Lib.strCells, lenB]
  rw [hbase] at h4
  have hbl : (left.data.toList ++ [128] ++ Lib.repeatL [0] (zerosN left.data.toList.length)).length < 4294967296 + 1 + 64 := by simp [repeatL_len]; omega
  have ep : padL left.data.toList len = (left.data.toList ++ [128] ++ Lib.repeatL [0] (zerosN left.data.toList.length)) ++ lenB len 8 := rfl
  have EP := Lib.hid ep
  clear ep hbase h1 h2 h3 hB HZ
  generalize (left.data.toList ++ [128] ++ Lib.repeatL [0] (zerosN left.data.toList.length)) = base at *
  have H4 := Lib.hid h4
  clear h4
  go_loopw [8] (fun i wr => ∃ k : Nat, k ≤ 8 ∧ i = .int .i64 (7 - (k : Int)) ∧ BldU w.heap.size w.heap.size (Lib.byteCells (base ++ lenB len k)) wr ∧ Below w.heap.size w wr) (fun i _ => (intOf i + 1).toNat)
  case atStart => exact ⟨0, by omega, rfl, H4.out, hbw⟩
  case round =>
    obtain ⟨k, hk, rfl, hu, hb⟩ := hrel
    have hsz := hb.size
    have HU := Lib.hid hu
    clear hu
    by_cases h8 : k < 8
    · have hlen := lenB_len len k
      go_wp2_with fail
      refine (b_WriteByte w.heap.size w.heap.size _ _ _ (.inr HU.out) (by rw [Lib.byteCells_length, List.length_append, hlen]; omega) hsz).mono ?_
      rintro e w5 ⟨rfl, h5, hb5⟩
      have H5 := Lib.hid h5
      clear h5
      go_wp2_with fail
      go_roundw
      case measure => simp [intOf]; omega
      case rel =>
        refine ⟨k + 1, by omega, by go_num, ?_, hb.trans hb5⟩
        have := H5.out
        rw [show lenB len (k + 1) = lenB len k ++ [UInt8.ofNat (len * 8 / 2 ^ (8 * (7 - k)) % 256)] from rfl, ← List.append_assoc, byteCells_snoc1 _ _ (Nat.mod_lt _ (by decide))]
        exact this
    · have h8' : k = 8 := by omega
      subst h8'
      go_wp2_with fail
      refine (Tryz.Builder_String_any_f w.heap.size w.heap.size _ _ (.inr HU.out) hsz).mono ?_
      rintro e w5 ⟨rfl, _, hb5⟩
      go_wp2_with fail
      go_ret
      exact ⟨by rw [EP.out]; rfl, hb.trans hb5⟩
end Go.Proofs.YtgbhaaongmlpkaaGreatDoor
namespace Go.Proofs.YtgbhaaongmlpkaaGreatDoor
open Go.RowKit Num

/-- The padded string. -/
def padS (s : ByteArray) : ByteArray := ⟨(padL s.data.toList s.size).toArray⟩
/-- The state behind so many blocks. -/
def shaSt (P : ByteArray) : Nat → (Nat → Int)
  | 0 => bOf
  | n + 1 => compress kOf (shaSt P n) (P.extract (64 * n) (64 * n + 64))
theorem byteAt_extract (b : ByteArray) (a c i : Nat) (h : a + i < c) (hc : c ≤ b.size) : byteAt (b.extract a c) i = byteAt b (a + i) := by
  unfold byteAt
  have : (b.extract a c).data[i]? = b.data[a + i]? := by
    rw [ByteArray.data_extract, Array.getElem?_extract]
    rw [if_pos (by have : b.data.size = b.size := rfl; omega)]
  rw [this]
theorem compress_congr (K v : Nat → Int) (b c : ByteArray) (h : ∀ i, i < 64 → byteAt b i = byteAt c i) : compress K v b = compress K v c := by
  have e : wds b 16 = wds c 16 := by
    funext i
    unfold wds
    by_cases hi : i < 16
    · rw [if_pos hi, if_pos hi]
      unfold wordAt
      rw [h _ (by omega), h _ (by omega), h _ (by omega), h _ (by omega)]
    · rw [if_neg hi, if_neg hi]
  have e2 : ∀ k, sched b k = sched c k := by
    intro k
    induction k with
    | zero => exact e
    | succ k ih => funext i; show (if _ then _ else _) = if _ then _ else _; rw [ih]
  unfold compress
  rw [e2]

theorem byteAt_list (b : ByteArray) (i : Nat) : byteAt b i = ((b.data.toList[i]?).getD 0).toNat := by
  unfold byteAt; rw [Array.getElem?_toList]
/-- What the last blocks hold. -/
def restS (s : ByteArray) : ByteArray := ⟨(padL (s.extract (s.size / 64 * 64) s.size).data.toList s.size).toArray⟩
theorem extract_list (s : ByteArray) (a : Nat) : (s.extract a s.size).data.toList = s.data.toList.drop a := by
  rw [ByteArray.data_extract, Array.toList_extract, List.extract_eq_take_drop]
  exact List.take_of_length_le (by rw [List.length_drop]; exact Nat.le_refl _)
theorem pad_split (s : ByteArray) : (padS s).data.toList = s.data.toList.take (s.size / 64 * 64) ++ (restS s).data.toList := by
  show padL _ _ = _ ++ padL _ _
  rw [extract_list]
  have e : zerosN s.data.toList.length = zerosN (s.data.toList.drop (s.size / 64 * 64)).length := by
    rw [List.length_drop]
    have : s.data.toList.length = s.size := rfl
    rw [this]; unfold zerosN; omega
  unfold padL
  rw [e]
  simp only [← List.append_assoc]
  rw [List.take_append_drop]
theorem pad_head (s : ByteArray) (i : Nat) (h : i < s.size / 64 * 64) : byteAt (padS s) i = byteAt s i := by
  rw [byteAt_list, byteAt_list, pad_split, List.getElem?_append_left (by rw [List.length_take]; have : s.data.toList.length = s.size := rfl; omega), List.getElem?_take, if_pos h]
theorem pad_tail (s : ByteArray) (i : Nat) : byteAt (padS s) (s.size / 64 * 64 + i) = byteAt (restS s) i := by
  have hl : (s.data.toList.take (s.size / 64 * 64)).length = s.size / 64 * 64 := by
    rw [List.length_take]; have : s.data.toList.length = s.size := rfl; omega
  rw [byteAt_list, byteAt_list, pad_split, List.getElem?_append_right (by rw [hl]; omega), hl, Nat.add_sub_cancel_left]
theorem rest_size (s : ByteArray) : ∃ m, (restS s).size = 64 * m ∧ (padS s).size = 64 * (s.size / 64 + m) ∧ 0 < m ∧ m ≤ 2 := by
  have h1 : (restS s).size = (s.size - s.size / 64 * 64) + 9 + zerosN (s.size - s.size / 64 * 64) := by
    show (padL _ _).toArray.size = _
    rw [extract_list]
    have : s.data.toList.length = s.size := rfl
    simp only [List.size_toArray, padL, List.length_append, repeatL_len, lenB_len, List.length_drop, this, List.length_cons, List.length_nil]
    omega
  have h2 : (padS s).size = s.size / 64 * 64 + (restS s).size := by
    have := congrArg List.length (pad_split s)
    rw [List.length_append, List.length_take] at this
    have a : s.data.toList.length = s.size := rfl
    have b : (padS s).data.toList.length = (padS s).size := rfl
    have c : (restS s).data.toList.length = (restS s).size := rfl
    omega
  refine ⟨(restS s).size / 64, ?_, ?_, ?_, ?_⟩ <;> (unfold zerosN at h1; omega)
theorem extract_byte (b : ByteArray) (k i : Nat) (h : k + i < b.size) : byteAt (b.extract k b.size) i = byteAt b (k + i) := byteAt_extract b k b.size i h (Nat.le_refl _)
/-- One block more. -/
theorem shaSt_next (P q : ByteArray) (n : Nat) (hP : 64 * n + 64 ≤ P.size) (h : ∀ i, i < 64 → byteAt q i = byteAt P (64 * n + i)) : compress kOf (shaSt P n) q = shaSt P (n + 1) := by
  refine compress_congr _ _ _ _ fun i hi => ?_
  rw [h i hi, byteAt_extract P _ _ i (by omega) hP]
theorem str_empty {q : ByteArray} (h : q.size = 0) : q.toList.isEmpty = true := by
  rw [ByteArray.toList_eq, List.isEmpty_iff]; exact List.eq_nil_of_length_eq_zero h
theorem str_full {q : ByteArray} (h : 0 < q.size) : q.toList.isEmpty = false := by
  rw [ByteArray.toList_eq, List.isEmpty_eq_false_iff]; intro e; have : q.data.toList.length = q.size := rfl; rw [e] at this; simp at this; omega
theorem only_trans {a b c : World} {g : Nat} (h : a.grownBy b (some g)) (k : b.grownBy c (some g)) : a.grownBy c (some g) :=
  ⟨k.os.trans h.os, k.tape.trans h.tape, k.output.trans h.output, Nat.le_trans h.size k.size, fun i hi hn => (k.block i (Nat.lt_of_lt_of_le hi h.size) hn).trans (h.block i hi hn)⟩
theorem below_only {B g : Nat} {a b c : World} (h : Below B a b) (k : b.grownBy c (some g)) (hB : B ≤ b.heap.size) (hg : B ≤ g) : Below B a c := h.grown k hB (fun r hr => by cases hr; exact hg)
theorem Arr.only {w w' : World} {B n g : Nat} {f : Nat → Int} (h : Arr w B n f) (hg : w.grownBy w' (some g)) (hB : B < w.heap.size) (hne : B ≠ g) : Arr w' B n f :=
  ⟨fun j hj => by rw [World.cell?_of_block (hg.block B hB (by simpa using hne))]; exact h.cell j hj, fun j hj => by rw [World.frozen?_of_block (hg.block B hB (by simpa using hne))]; exact h.live j hj⟩
/-- The bytes of a state, those of the first words laid. -/
def outV (f : Nat → Int) (t : Nat) (i : Nat) : Value := .int .u8 (if i < 4 * t then f (i / 4) / ((2 ^ (24 - 8 * (i % 4)) : Nat) : Int) % 256 else 0)
def outL (f : Nat → Int) : List Int := (List.range 32).map fun i => f (i / 4) / ((2 ^ (24 - 8 * (i % 4)) : Nat) : Int) % 256
/-- The sum of a string. -/
def shaOf (s : ByteArray) : ByteArray := strOfNums (outL (shaSt (padS s) ((padS s).size / 64)))
theorem shaOf_size (s : ByteArray) : (shaOf s).size = 32 := by unfold shaOf; rw [strOfNums_size]; simp [outL]
theorem outL_get (f : Nat → Int) (i : Nat) (h : i < 32) : (outL f).getD i 0 = f (i / 4) / ((2 ^ (24 - 8 * (i % 4)) : Nat) : Int) % 256 := by
  unfold outL; rw [List.getD_eq_getElem?_getD, List.getElem?_map, List.getElem?_range h]; rfl
theorem outV_next (f : Nat → Int) (t : Nat) (ht : t < 8) (i : Nat) (hi : i < 32) :
    updV (updV (updV (updV (outV f t) (4 * t) (.int .u8 (f t / 16777216 % 256))) (4 * t + 1) (.int .u8 (f t / 65536 % 256))) (4 * t + 2) (.int .u8 (f t / 256 % 256))) (4 * t + 3) (.int .u8 (f t % 256)) i = outV f (t + 1) i := by
  unfold updV outV
  by_cases h3 : i = 4 * t + 3
  · subst h3
    rw [if_pos rfl, if_pos (by omega), show (4 * t + 3) / 4 = t by omega, show (4 * t + 3) % 4 = 3 by omega]
    simp
  rw [if_neg h3]
  by_cases h2 : i = 4 * t + 2
  · subst h2
    rw [if_pos rfl, if_pos (by omega), show (4 * t + 2) / 4 = t by omega, show (4 * t + 2) % 4 = 2 by omega]
    rfl
  rw [if_neg h2]
  by_cases h1 : i = 4 * t + 1
  · subst h1
    rw [if_pos rfl, if_pos (by omega), show (4 * t + 1) / 4 = t by omega, show (4 * t + 1) % 4 = 1 by omega]
    rfl
  rw [if_neg h1]
  by_cases h0 : i = 4 * t
  · subst h0
    rw [if_pos rfl, if_pos (by omega), show (4 * t) / 4 = t by omega, show (4 * t) % 4 = 0 by omega]
    rfl
  rw [if_neg h0]
  by_cases hl : i < 4 * t
  · rw [if_pos hl, if_pos (by omega)]
  · rw [if_neg hl, if_neg (by omega)]
def strLen : Value → Nat
  | .string s => s.size
  | _ => 0
theorem d_rest' (s : ByteArray) (w : World) (hs : s.size < 4294967296) :
    Calls Tryz.prog 66 #[.string (s.extract (s.size / 64 * 64) s.size), .int .i64 (s.size : Int)] w fun e w' => e = .returned (.string (restS s)) ∧ Below w.heap.size w w' :=
  d_rest _ s.size _ (by rw [ByteArray.size_extract]; omega) (by omega)
theorem d_begin8 (w : World) :
    Calls Tryz.prog 64 #[] w fun r w' => r = .returned (.agg #[.int .u32 (bOf 0), .int .u32 (bOf 1), .int .u32 (bOf 2), .int .u32 (bOf 3), .int .u32 (bOf 4), .int .u32 (bOf 5), .int .u32 (bOf 6), .int .u32 (bOf 7)]) ∧ Below w.heap.size w w' :=
  d_begin w
set_option maxRecDepth 100000 in
set_option maxHeartbeats 2000000 in
theorem d_Sum (s : ByteArray) (w : World) (hs : s.size < 4294967296) :
    Calls Tryz.prog 49 #[.string s] w fun e w' => e = .returned (.string (shaOf s)) ∧ Below w.heap.size w w' := by
  obtain ⟨mr, hr1, hr2, hr3, hr4⟩ := rest_size s
  go_enter Tryz.func49, Tryz.ntmps49
  go_wp2_with fail
  refine (d_begin8 _).mono ?_
  rintro e w1 ⟨rfl, hb1⟩
  have s1 := hb1.size
  go_wp2_with fail
  refine (d_constants _).mono ?_
  rintro e w2 ⟨rfl, hb2, s2, hK⟩
  have HK := Lib.hid hK
  have HR1 := Lib.hid hr1
  have HR2 := Lib.hid hr2
  clear hK hr1 hr2
  go_wp2_with fail
  have q1 : (0 : Int) ≤ (s.size : Int) / 64 * 64 := by omega
  have q2 : (s.size : Int) / 64 * 64 ≤ (s.size : Int) := by omega
  have q3 : ((s.size : Int) / 64 * 64).toNat = s.size / 64 * 64 := by omega
  go_region_held3 (fun _ => True) (trivial) (first | (go_at_call 66; refine (d_rest' s _ hs).mono ?_; rintro e w3 ⟨rfl, hb3⟩))
  go_wp2_with fail
  have s3 := hb3.size
  clear q1 q2 q3
  have z0 : 64 * (s.size / 64) ≤ s.size := by omega
  have hbw : Below w.heap.size w w3 := by
    refine Below.trans (hb1.trans ((hb2.mono s1).alloc (by omega) _).drew) (hb3.mono ?_)
    simp; omega
  have hs3 : w2.heap.size < w3.heap.size := by simp at s3; omega
  have hKs : Arr w3 w1.heap.size 64 kOf := (HK.out.alloc (by omega) _).drew.below hb3 (by simp; omega)
  have hHs : Arr w3 w2.heap.size 8 (shaSt (padS s) 0) := (alloc8_arr w2 bOf 113).drew.below hb3 (by simp)
  have HKS := Lib.hid hKs
  have HHS := Lib.hid hHs
  clear hKs hHs hb1 hb2 hb3 s3 HK
  generalize hAA : s.extract 0 (s.size / 64 * 64) = AA
  go_loopw [7, 28] (fun _ i wr => ∃ j : Nat, j ≤ 2 ∧ i = .int .i64 j ∧ Below w.heap.size w wr ∧ w3.heap.size < wr.heap.size ∧ wr.cell? ⟨w3.heap.size, 0, none⟩ = some (.string AA) ∧ wr.cell? ⟨w3.heap.size, 1, none⟩ = some (.string (restS s)) ∧ Arr wr w1.heap.size 64 kOf ∧ Arr wr w2.heap.size 8 (shaSt (padS s) (if j = 0 then 0 else if j = 1 then s.size / 64 else s.size / 64 + mr))) (fun _ i _ => 2 - (intOf i).toNat)
  case atStart =>
    refine ⟨0, by omega, rfl, hbw.alloc (by omega) _, by simp, ?_, ?_, HKS.out.alloc (by omega) _, HHS.out.alloc (by omega) _⟩
    · rw [World.cell?_alloc_new]; rfl
    · rw [World.cell?_alloc_new]; rfl
  case round =>
    obtain ⟨j, hj, rfl, hb, hsz, hc0, hc1, hk, hh⟩ := hrel
    by_cases hl : j < 2
    · obtain ⟨q0, E, m0, hcj, hq0, hm0, hP0, hby, hE0, hE1⟩ : ∃ (q0 : ByteArray) (E m0 : Nat), wr.cell? ⟨w3.heap.size, j, none⟩ = some (.string q0) ∧ q0.size = 64 * m0 ∧ m0 ≤ E ∧ 64 * E ≤ (padS s).size ∧ (∀ i, i < 64 * m0 → byteAt q0 i = byteAt (padS s) (64 * (E - m0) + i)) ∧
          (if j = 0 then 0 else if j = 1 then s.size / 64 else s.size / 64 + mr) = E - m0 ∧ (if j + 1 = 0 then 0 else if j + 1 = 1 then s.size / 64 else s.size / 64 + mr) = E := by
        rcases (show j = 0 ∨ j = 1 by omega) with rfl | rfl
        · refine ⟨AA, s.size / 64, s.size / 64, hc0, ?_, Nat.le_refl _, by rw [HR2.out]; omega, fun i hi => ?_, by simp, by simp⟩
          · rw [← hAA, ByteArray.size_extract]; omega
          · rw [← hAA, byteAt_extract s 0 _ i (by omega) (by omega), Nat.zero_add, Nat.sub_self, Nat.mul_zero, Nat.zero_add, pad_head s i (by omega)]
        · refine ⟨restS s, s.size / 64 + mr, mr, hc1, HR1.out, by omega, by rw [HR2.out]; omega, fun i hi => ?_, by simp, by simp⟩
          rw [Nat.add_sub_cancel, ← pad_tail, Nat.mul_comm 64]
      rw [hE0] at hh
      have HH := Lib.hid hh
      have HKK := Lib.hid hk
      have HBY := Lib.hid hby
      have HQ0 := Lib.hid hq0
      have HE1 := Lib.hid hE1
      have HC0 := Lib.hid hc0
      have HC1 := Lib.hid hc1
      clear hh hk hby hE0 hE1 hq0 hc0 hc1
      have hjd : decide ((j : Int) < 2) = true := decide_eq_true (by omega)
      go_wp2_with fail
      obtain ⟨wo, rfl⟩ : ∃ wo : World, wo = wr := ⟨_, rfl⟩
      go_loopw [7] (fun p wq => ∃ (m : Nat) (q : ByteArray), p = .string q ∧ m ≤ m0 ∧ q.size = 64 * m ∧ (∀ i, i < 64 * m → byteAt q i = byteAt (padS s) (64 * (E - m) + i)) ∧ Below w.heap.size w wq ∧ wo.grownBy wq (some w2.heap.size) ∧ Arr wq w1.heap.size 64 kOf ∧ Arr wq w2.heap.size 8 (shaSt (padS s) (E - m))) (fun p _ => strLen p)
      case atStart => exact ⟨m0, q0, rfl, Nat.le_refl _, HQ0.out, HBY.out, hb, World.grownBy.refl _ _, HKK.out, HH.out⟩
      case round =>
        obtain ⟨m, q, rfl, hm, hq, hby, hbq, hg, hk, hh⟩ := hrel
        have HBY := Lib.hid hby
        have HHH := Lib.hid hh
        have HKK := Lib.hid hk
        have HBQ := Lib.hid hbq
        have HG := Lib.hid hg
        clear hby hh hk hbq hg
        by_cases hm0 : 0 < m
        · have e1 := str_full (q := q) (by omega)
          have hq64 : (64 : Int) ≤ (q.size : Int) := by omega
          have HQ := Lib.hid hq
          clear hq
          go_wp2_with fail
          refine (d_add q w2.heap.size w1.heap.size _ _ _ (by have := HQ.out; omega) HHH.out HKK.out (by have := HG.out.size; omega) s2).mono ?_
          rintro e w5 ⟨rfl, hg5, hh5⟩
          have HH5 := Lib.hid hh5
          have HG5 := Lib.hid hg5
          clear hh5 hg5
          go_wp2_with fail
          go_roundw
          case measure => simp [strLen, ByteArray.size_extract]; omega
          case rel =>
            have hs5 := HG.out.size
            refine ⟨m - 1, q.extract 64 q.size, rfl, by omega, by rw [ByteArray.size_extract]; have := HQ.out; omega, ?_, below_only HBQ.out HG5.out (by omega) (by omega), only_trans HG.out HG5.out, HKK.out.only HG5.out (by omega) (by omega), ?_⟩
            · intro i hi
              rw [extract_byte q 64 i (by have := HQ.out; omega), HBY.out _ (by omega)]
              congr 1; omega
            · have := HH5.out
              rwa [shaSt_next (padS s) q (E - m) (by omega) (fun i hi => HBY.out i (by omega)), show E - m + 1 = E - (m - 1) by omega] at this
        · have e1 := str_empty (q := q) (by omega)
          have hm00 : m = 0 := by omega
          subst hm00
          go_wp2_with fail
          go_roundw
          case measure => simp [intOf]; omega
          case rel =>
            have hs5 := HG.out.size
            refine ⟨j + 1, by omega, by go_num, HBQ.out, by omega, ?_, ?_, HKK.out, ?_⟩
            · rw [World.cell?_of_block (HG.out.block _ hsz (by simp; omega))]; exact HC0.out
            · rw [World.cell?_of_block (HG.out.block _ hsz (by simp; omega))]; exact HC1.out
            · rw [HE1.out]; exact HHH.out
    · have hj2 : j = 2 := by omega
      subst hj2
      obtain ⟨f, hf⟩ : ∃ f, shaSt (padS s) (s.size / 64 + mr) = f := ⟨_, rfl⟩
      have hh : Arr wr w2.heap.size 8 f := by rw [← hf]; exact hh
      have hlt : w2.heap.size < wr.heap.size := by omega
      have g0 := hh.cell 0 (by omega)
      have g1 := hh.cell 1 (by omega)
      have g2 := hh.cell 2 (by omega)
      have g3 := hh.cell 3 (by omega)
      have g4 := hh.cell 4 (by omega)
      have g5 := hh.cell 5 (by omega)
      have g6 := hh.cell 6 (by omega)
      have g7 := hh.cell 7 (by omega)
      have HB := Lib.hid hb
      have HF := Lib.hid hf
      clear hb hf hh hk hc0 hc1 HKS HHS hbw
      go_wp2_with fail
      clear g0 g1 g2 g3 g4 g5 g6 g7
      obtain ⟨wo, rfl⟩ : ∃ wo : World, wo = wr := ⟨_, rfl⟩
      go_loopw [41] (fun i wq => ∃ t : Nat, t ≤ 8 ∧ i = .int .i64 t ∧ Below w.heap.size w wq ∧ wo.heap.size < wq.heap.size ∧ ArrV wq wo.heap.size 32 (outV f t)) (fun i _ => 8 - (intOf i).toNat)
      case atStart =>
        refine ⟨0, by omega, rfl, HB.out.alloc (by omega) _, by simp, ⟨fun i hi => ?_, fun i hi => World.frozen?_alloc_new _ _ _ _⟩⟩
        rw [World.cell?_alloc_new]
        have : ∀ i : Nat, i < 32 → (Array.replicate 32 (Value.int .u8 0))[i]? = some (.int .u8 0) := fun i hi => by rw [Array.getElem?_eq_getElem (by simp; exact hi)]; simp
        exact this i hi
      case round =>
        obtain ⟨t, ht, rfl, hbq, hzq, ho⟩ := hrel
        by_cases ht8 : t < 8
        · have ix := index8 f t ht8
          have c0 := ho.cell (4 * t) (by omega)
          have c1 := ho.cell (4 * t + 1) (by omega)
          have c2 := ho.cell (4 * t + 2) (by omega)
          have c3 := ho.cell (4 * t + 3) (by omega)
          have l0 := ho.live (4 * t) (by omega)
          have l1 := ho.live (4 * t + 1) (by omega)
          have l2 := ho.live (4 * t + 2) (by omega)
          have l3 := ho.live (4 * t + 3) (by omega)
          have HO := Lib.hid ho
          clear ho
          go_wp2_with fail
          go_roundw
          case measure => simp [intOf]; omega
          case rel =>
            refine ⟨t + 1, by omega, by go_num, ?_, by simpa using hzq, ((((HO.out.upd _ (by omega)).upd _ (by omega)).upd _ (by omega)).upd _ (by omega)).congr (outV_next f t ht8)⟩
            have hle : w.heap.size ≤ wo.heap.size := by omega
            exact (((hbq.setCell (p := ⟨_, 4 * t, none⟩) hle _).setCell (p := ⟨_, 4 * t + 1, none⟩) hle _).setCell (p := ⟨_, 4 * t + 2, none⟩) hle _).setCell (p := ⟨_, 4 * t + 3, none⟩) hle _
        · have ht8' : t = 8 := by omega
          subst ht8'
          have hcv := run_convert_bytes_arg (P := Tryz.prog) wr 108 5 Tryz.underlying108 Tryz.underlying5 wo.heap.size 0 32 32 (outL f) (by simp [outL]) (fun i hi => by
            rw [Nat.zero_add, ho.cell i hi, outL_get f i hi]; unfold outV; rw [if_pos (by omega)]) 9 Tryz.underlying9
          clear ho
          go_wp2_with fail
          go_ret
          refine ⟨?_, hbq⟩
          have hE : (padS s).size / 64 = s.size / 64 + mr := by rw [HR2.out]; omega
          show Ending.returned (.string (strOfNums (outL f))) = _
          rw [shaOf, hE, HF.out]
end Go.Proofs.YtgbhaaongmlpkaaGreatDoor
