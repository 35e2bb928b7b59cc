/- Contracts of the builder at this cut: its check. Contracts of the sum: the padding. Contracts of the sum: the whole. -/
import Derived.Test.YtgeahbmaeaoeeaaGreatDoorQ08
import Derived.Lib.Builder
import Derived.Lib.UnsafeStr
import Derived.Lib.FrozenHead2
import Derived.Lib.Repeat
import Derived.Test.YtgeahbmaeaoeeaaGreatDoorShelf
import Derived.Deep.RegionHeld3
set_option linter.unusedVariables false
set_option linter.unusedSimpArgs false
namespace Go.Proofs.YtgeahbmaeaoeeaaGreatDoor
open Go.RowKit Num
set_option maxRecDepth 100000 in
set_option maxHeartbeats 1000000 in
theorem b_copyCheck_used (b : Nat) (w : World) (h0 : w.cell? ⟨b, 0, none⟩ = some (.pointer (some ⟨b, 0, none⟩))) :
    Calls Tryz.prog 126 #[.pointer (some ⟨b, 0, none⟩)] w fun e w' => e = .returned (.tuple #[]) ∧ w' = w := by
  have sz : (Tryz.prog.info? 163).map (·.size) = some 2 := by kernel_rfl
  obtain ⟨j, hj, _⟩ := Option.map_eq_some_iff.1 sz
  go_enter Tryz.func126, Tryz.ntmps126
  go_wp2
  rw [Lib.run_neq_ptr_same w _ Tryz.underlying161 hj]
  go_wp2
  go_end0
  exact ⟨rfl, rfl⟩
set_option maxRecDepth 100000 in
set_option maxHeartbeats 1000000 in
theorem b_copyCheck_fresh (b : Nat) (w : World) (h0 : w.cell? ⟨b, 0, none⟩ = some (.pointer none)) (hsh : w.shape? b = some (163, 2)) (hf : w.frozen? ⟨b, 0, none⟩ = false) :
    Calls Tryz.prog 126 #[.pointer (some ⟨b, 0, none⟩)] w fun e w' => e = .returned (.tuple #[]) ∧ w' = w.setCell ⟨b, 0, none⟩ (.pointer (some ⟨b, 0, none⟩)) := by
  have sz : (Tryz.prog.info? 163).map (·.size) = some 2 := by kernel_rfl
  have li : liesAt Tryz.prog Tryz.prog.depth 163 (2 / Tryz.prog.cellsOf 163) 0 163 1 = true := by kernel_rfl
  obtain ⟨j, hj, hjs⟩ := Option.map_eq_some_iff.1 sz
  go_enter Tryz.func126, Tryz.ntmps126
  go_wp2
  rw [Lib.run_to_unsafe w ⟨b, 0, none⟩ Tryz.underlying161 Tryz.underlying194 hj (by rw [hjs]; decide) hsh (Nat.zero_lt_succ 1)]
  simp only [Result.andThen]
  rw [Oper.upon_value]
  go_wp2
  rw [run_callFunc_extern Tryz.func132 (by kernel_rfl) (by kernel_rfl) (by kernel_rfl) (e := Extern.AbiNoEscape.same) (by kernel_rfl)]
  rw [Lib.run_noEscape]
  simp only [Result.andThen]
  rw [Oper.upon_value]
  go_wp2
  rw [Lib.run_from_unsafe w ⟨b, 0, none⟩ Tryz.underlying194 Tryz.underlying161 hj hsh li]
  simp only [Result.andThen]
  rw [Oper.upon_value]
  go_wp2
  go_end0
  exact ⟨rfl, rfl⟩

abbrev BldF (B b : Nat) (bs : List Value) (w : World) : Prop := Lib.IsBuilderF 163 5 B b bs w
abbrev BldU (B b : Nat) (bs : List Value) (w : World) : Prop := Lib.BuilderAtF 163 5 B b (.pointer (some ⟨b, 0, none⟩)) bs w

theorem b_copyCheck (B b : Nat) (bs : List Value) (w : World) (h : BldF B b bs w) :
    Calls Tryz.prog 126 #[.pointer (some ⟨b, 0, none⟩)] w fun e w' => e = .returned (.tuple #[]) ∧ BldU B b bs w' ∧ Below B w w' := by
  rcases h with h | h
  · refine (b_copyCheck_fresh b w h.cell0 h.shape h.frozen0).mono ?_
    rintro e w' ⟨rfl, rfl⟩
    exact ⟨rfl, h.used _, (Below.refl B w).setCell (p := ⟨b, 0, none⟩) h.1 _⟩
  · refine (b_copyCheck_used b w h.cell0).mono ?_
    rintro e w' ⟨rfl, rfl⟩
    exact ⟨rfl, h, Below.refl B _⟩

theorem infoB : (Tryz.prog.info? 5).map (fun i => (i.zero, i.size, i.bytes)) = some (some (.int .u8 0), 1, 1) := by kernel_rfl

set_option maxRecDepth 100000 in
set_option maxHeartbeats 1000000 in
theorem b_WriteString (B b : Nat) (bs : List Value) (s : ByteArray) (w : World) (h : BldF B b bs w) (hlen : bs.length + s.size ≤ 140737488355328) (hBw : B ≤ w.heap.size) :
    Calls Tryz.prog 104 #[.pointer (some ⟨b, 0, none⟩), .string s] w fun e w' => e = .returned (.tuple #[.int .i64 s.size, .nilIface]) ∧ BldU B b (bs ++ Lib.strCells s) w' ∧ Below B w w' := by
  obtain ⟨i0, hi, hz0, hz1, hz2⟩ := info_parts infoB
  go_enter Tryz.func104, Tryz.ntmps104
  go_wp2_with (go_at_call 126; refine (b_copyCheck B b bs _ h).mono ?_)
  rintro e w1 ⟨rfl, h1, hb1⟩
  obtain ⟨hB, v, hbk, hown, hne⟩ := h1
  have c0 : w1.cell? ⟨b, 0, none⟩ = some (.pointer (some ⟨b, 0, none⟩)) := by rw [Lib.cell_of_heap hbk]; rfl
  have c1 : w1.cell? ⟨b, 1, none⟩ = some v := by rw [Lib.cell_of_heap hbk]; rfl
  go_wp2_with (at_builtin; refine Lib.wpList_append_own_stringF _ rfl _ _ 110 9 rfl B 5 i0 Tryz.underlying110 Tryz.underlying9 hi hz0 hz1 hz2 _ _ _ rfl hown s rfl ?c3 ?c4 ?c5 ?_)
  case c3 => unfold maxLen; omega
  case c4 => omega
  case c5 => have := hb1.size; omega
  intro v' w2 hown' hgrow _
  have hlt : b < w1.heap.size := by
    rcases Nat.lt_or_ge b w1.heap.size with h' | h'
    · exact h'
    · simp [Array.getElem?_eq_none h'] at hbk
  have hb2 : w2.heap[b]? = some (.cells #[.pointer (some ⟨b, 0, none⟩), v] 163 (0, 0)) := by
    rw [hgrow.block b hlt (fun e => hne e.symm)]
    exact hbk
  have d0 : w2.cell? ⟨b, 0, none⟩ = some (.pointer (some ⟨b, 0, none⟩)) := by rw [Lib.cell_of_heap hb2]; rfl
  have d1 : w2.cell? ⟨b, 1, none⟩ = some v := by rw [Lib.cell_of_heap hb2]; rfl
  have f1 : w2.frozen? ⟨b, 1, none⟩ = false := Lib.frozen_of_heap hb2 1
  obtain ⟨ao, n', cap, rfl⟩ : ∃ ao n' cap, v' = .slice ao n' cap := by
    rcases hown'.2 with ⟨hv, _⟩ | ⟨g, cap, cur, fz, hv, _⟩
    · exact ⟨_, _, _, hv⟩
    · exact ⟨_, _, _, hv⟩
  go_wp2
  go_ret2
  refine ⟨rfl, ?_, ?_⟩
  · exact Lib.BuilderAtF.put (T := 163) (e := 5) hB hb2 (bs' := bs ++ Lib.strCells s) (by simpa [Lib.strCells_length] using hown') (by decide)
  · exact (hb1.grown hgrow (by have := hb1.size; omega) (fun k hk => (hown.lt k hk).1)).setCell (p := ⟨b, 1, none⟩) hB _

end Go.Proofs.YtgeahbmaeaoeeaaGreatDoor
namespace Go.Proofs.YtgeahbmaeaoeeaaGreatDoor
open Go.RowKit Num

theorem bldU_below {B b : Nat} {bs : List Value} {w w' : World} (h : BldU B b bs w) (hb : Below w.heap.size w w') : BldU B b bs w' := by
  have hlt := Lib.BuilderAtF.lt h
  obtain ⟨hB, v, hbk, hown, hne⟩ := h
  exact ⟨hB, v, (hb.block b hlt).trans hbk, hown.kept (only_of_below hb none) (by cases hv : v.ownBlock <;> simp), hne⟩

/-- The eight bytes of a length in bits, so many of them. -/
def lenB (len : Nat) : Nat → List UInt8
  | 0 => []
  | k + 1 => lenB len k ++ [UInt8.ofNat (len * 8 / 2 ^ (8 * (7 - k)) % 256)]
theorem lenB_len (len : Nat) : ∀ k, (lenB len k).length = k := by
  intro k
  induction k with
  | zero => rfl
  | succ k ih => simp [lenB, ih]
def zerosN (n : Nat) : Nat := (119 - n % 64) % 64
/-- The last blocks: what is left, a 1, zeros, the length in bits. -/
def padL (left : List UInt8) (len : Nat) : List UInt8 := left ++ [128] ++ Lib.repeatL [0] (zerosN left.length) ++ lenB len 8
theorem repeatL_len (n : Nat) : (Lib.repeatL [0] n).length = n := by
  induction n with
  | zero => rfl
  | succ n ih => simp [Lib.repeatL, ih]
theorem byteCells_snoc1 (l : List UInt8) (c : Nat) (h : c < 256) : Lib.byteCells (l ++ [UInt8.ofNat c]) = Lib.byteCells l ++ [.int .u8 (c : Int)] := by
  simp only [Lib.byteCells, List.map_append, List.map_cons, List.map_nil]
  rw [UInt8.toNat_ofNat_of_lt' (by simpa using h)]

end Go.Proofs.YtgeahbmaeaoeeaaGreatDoor
namespace Go.Proofs.YtgeahbmaeaoeeaaGreatDoor
open Go.RowKit Num

/-- The padded string. -/
def padS (s : ByteArray) : ByteArray := ⟨(padL s.data.toList s.size).toArray⟩
/-- The state behind so many blocks. -/
def shaSt (P : ByteArray) : Nat → (Nat → Int)
  | 0 => bOf
  | n + 1 => compress kOf (shaSt P n) (P.extract (64 * n) (64 * n + 64))
theorem byteAt_extract (b : ByteArray) (a c i : Nat) (h : a + i < c) (hc : c ≤ b.size) : byteAt (b.extract a c) i = byteAt b (a + i) := by
  unfold byteAt
  have : (b.extract a c).data[i]? = b.data[a + i]? := by
    rw [ByteArray.data_extract, Array.getElem?_extract]
    rw [if_pos (by have : b.data.size = b.size := rfl; omega)]
  rw [this]
theorem compress_congr (K v : Nat → Int) (b c : ByteArray) (h : ∀ i, i < 64 → byteAt b i = byteAt c i) : compress K v b = compress K v c := by
  have e : wds b 16 = wds c 16 := by
    funext i
    unfold wds
    by_cases hi : i < 16
    · rw [if_pos hi, if_pos hi]
      unfold wordAt
      rw [h _ (by omega), h _ (by omega), h _ (by omega), h _ (by omega)]
    · rw [if_neg hi, if_neg hi]
  have e2 : ∀ k, sched b k = sched c k := by
    intro k
    induction k with
    | zero => exact e
    | succ k ih => funext i; show (if _ then _ else _) = if _ then _ else _; rw [ih]
  unfold compress
  rw [e2]

theorem byteAt_list (b : ByteArray) (i : Nat) : byteAt b i = ((b.data.toList[i]?).getD 0).toNat := by
  unfold byteAt; rw [Array.getElem?_toList]
/-- What the last blocks hold. -/
def restS (s : ByteArray) : ByteArray := ⟨(padL (s.extract (s.size / 64 * 64) s.size).data.toList s.size).toArray⟩
theorem extract_list (s : ByteArray) (a : Nat) : (s.extract a s.size).data.toList = s.data.toList.drop a := by
  rw [ByteArray.data_extract, Array.toList_extract, List.extract_eq_take_drop]
  exact List.take_of_length_le (by rw [List.length_drop]; exact Nat.le_refl _)
theorem pad_split (s : ByteArray) : (padS s).data.toList = s.data.toList.take (s.size / 64 * 64) ++ (restS s).data.toList := by
  show padL _ _ = _ ++ padL _ _
  rw [extract_list]
  have e : zerosN s.data.toList.length = zerosN (s.data.toList.drop (s.size / 64 * 64)).length := by
    rw [List.length_drop]
    have : s.data.toList.length = s.size := rfl
    rw [this]; unfold zerosN; omega
  unfold padL
  rw [e]
  simp only [← List.append_assoc]
  rw [List.take_append_drop]
theorem pad_head (s : ByteArray) (i : Nat) (h : i < s.size / 64 * 64) : byteAt (padS s) i = byteAt s i := by
  rw [byteAt_list, byteAt_list, pad_split, List.getElem?_append_left (by rw [List.length_take]; have : s.data.toList.length = s.size := rfl; omega), List.getElem?_take, if_pos h]
theorem pad_tail (s : ByteArray) (i : Nat) : byteAt (padS s) (s.size / 64 * 64 + i) = byteAt (restS s) i := by
  have hl : (s.data.toList.take (s.size / 64 * 64)).length = s.size / 64 * 64 := by
    rw [List.length_take]; have : s.data.toList.length = s.size := rfl; omega
  rw [byteAt_list, byteAt_list, pad_split, List.getElem?_append_right (by rw [hl]; omega), hl, Nat.add_sub_cancel_left]
theorem rest_size (s : ByteArray) : ∃ m, (restS s).size = 64 * m ∧ (padS s).size = 64 * (s.size / 64 + m) ∧ 0 < m ∧ m ≤ 2 := by
  have h1 : (restS s).size = (s.size - s.size / 64 * 64) + 9 + zerosN (s.size - s.size / 64 * 64) := by
    show (padL _ _).toArray.size = _
    rw [extract_list]
    have : s.data.toList.length = s.size := rfl
    simp only [List.size_toArray, padL, List.length_append, repeatL_len, lenB_len, List.length_drop, this, List.length_cons, List.length_nil]
    omega
  have h2 : (padS s).size = s.size / 64 * 64 + (restS s).size := by
    have := congrArg List.length (pad_split s)
    rw [List.length_append, List.length_take] at this
    have a : s.data.toList.length = s.size := rfl
    have b : (padS s).data.toList.length = (padS s).size := rfl
    have c : (restS s).data.toList.length = (restS s).size := rfl
    omega
  refine ⟨(restS s).size / 64, ?_, ?_, ?_, ?_⟩ <;> (unfold zerosN at h1; omega)
theorem extract_byte (b : ByteArray) (k i : Nat) (h : k + i < b.size) : byteAt (b.extract k b.size) i = byteAt b (k + i) := byteAt_extract b k b.size i h (Nat.le_refl _)
/-- One block more. -/
theorem shaSt_next (P q : ByteArray) (n : Nat) (hP : 64 * n + 64 ≤ P.size) (h : ∀ i, i < 64 → byteAt q i = byteAt P (64 * n + i)) : compress kOf (shaSt P n) q = shaSt P (n + 1) := by
  refine compress_congr _ _ _ _ fun i hi => ?_
  rw [h i hi, byteAt_extract P _ _ i (by omega) hP]
theorem str_empty {q : ByteArray} (h : q.size = 0) : q.toList.isEmpty = true := by
  rw [ByteArray.toList_eq, List.isEmpty_iff]; exact List.eq_nil_of_length_eq_zero h
theorem str_full {q : ByteArray} (h : 0 < q.size) : q.toList.isEmpty = false := by
  rw [ByteArray.toList_eq, List.isEmpty_eq_false_iff]; intro e; have : q.data.toList.length = q.size := rfl; rw [e] at this; simp at this; omega
theorem only_trans {a b c : World} {g : Nat} (h : a.grownBy b (some g)) (k : b.grownBy c (some g)) : a.grownBy c (some g) :=
  ⟨k.os.trans h.os, k.tape.trans h.tape, k.output.trans h.output, Nat.le_trans h.size k.size, fun i hi hn => (k.block i (Nat.lt_of_lt_of_le hi h.size) hn).trans (h.block i hi hn)⟩
theorem below_only {B g : Nat} {a b c : World} (h : Below B a b) (k : b.grownBy c (some g)) (hB : B ≤ b.heap.size) (hg : B ≤ g) : Below B a c := h.grown k hB (fun r hr => by cases hr; exact hg)
theorem Arr.only {w w' : World} {B n g : Nat} {f : Nat → Int} (h : Arr w B n f) (hg : w.grownBy w' (some g)) (hB : B < w.heap.size) (hne : B ≠ g) : Arr w' B n f :=
  ⟨fun j hj => by rw [World.cell?_of_block (hg.block B hB (by simpa using hne))]; exact h.cell j hj, fun j hj => by rw [World.frozen?_of_block (hg.block B hB (by simpa using hne))]; exact h.live j hj⟩
/-- The bytes of a state, those of the first words laid. -/
def outV (f : Nat → Int) (t : Nat) (i : Nat) : Value := .int .u8 (if i < 4 * t then f (i / 4) / ((2 ^ (24 - 8 * (i % 4)) : Nat) : Int) % 256 else 0)
def outL (f : Nat → Int) : List Int := (List.range 32).map fun i => f (i / 4) / ((2 ^ (24 - 8 * (i % 4)) : Nat) : Int) % 256
/-- The sum of a string. -/
def shaOf (s : ByteArray) : ByteArray := strOfNums (outL (shaSt (padS s) ((padS s).size / 64)))
theorem shaOf_size (s : ByteArray) : (shaOf s).size = 32 := by unfold shaOf; rw [strOfNums_size]; simp [outL]
theorem outL_get (f : Nat → Int) (i : Nat) (h : i < 32) : (outL f).getD i 0 = f (i / 4) / ((2 ^ (24 - 8 * (i % 4)) : Nat) : Int) % 256 := by
  unfold outL; rw [List.getD_eq_getElem?_getD, List.getElem?_map, List.getElem?_range h]; rfl
theorem outV_next (f : Nat → Int) (t : Nat) (ht : t < 8) (i : Nat) (hi : i < 32) :
    updV (updV (updV (updV (outV f t) (4 * t) (.int .u8 (f t / 16777216 % 256))) (4 * t + 1) (.int .u8 (f t / 65536 % 256))) (4 * t + 2) (.int .u8 (f t / 256 % 256))) (4 * t + 3) (.int .u8 (f t % 256)) i = outV f (t + 1) i := by
  unfold updV outV
  by_cases h3 : i = 4 * t + 3
  · subst h3
    rw [if_pos rfl, if_pos (by omega), show (4 * t + 3) / 4 = t by omega, show (4 * t + 3) % 4 = 3 by omega]
    simp
  rw [if_neg h3]
  by_cases h2 : i = 4 * t + 2
  · subst h2
    rw [if_pos rfl, if_pos (by omega), show (4 * t + 2) / 4 = t by omega, show (4 * t + 2) % 4 = 2 by omega]
    rfl
  rw [if_neg h2]
  by_cases h1 : i = 4 * t + 1
  · subst h1
    rw [if_pos rfl, if_pos (by omega), show (4 * t + 1) / 4 = t by omega, show (4 * t + 1) % 4 = 1 by omega]
    rfl
  rw [if_neg h1]
  by_cases h0 : i = 4 * t
  · subst h0
    rw [if_pos rfl, if_pos (by omega), show (4 * t) / 4 = t by omega, show (4 * t) % 4 = 0 by omega]
    rfl
  rw [if_neg h0]
  by_cases hl : i < 4 * t
  · rw [if_pos hl, if_pos (by omega)]
  · rw [if_neg hl, if_neg (by omega)]
def strLen : Value → Nat
  | .string s => s.size
  | _ => 0
end Go.Proofs.YtgeahbmaeaoeeaaGreatDoor
