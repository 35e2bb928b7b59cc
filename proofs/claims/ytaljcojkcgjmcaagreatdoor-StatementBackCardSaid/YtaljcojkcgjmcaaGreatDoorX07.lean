/- Contracts of the builder at this cut: its check. Contracts of the sum: the padding. Contracts of the sum: the whole. A region that draws its order, and whose last operation waits for all others: it is walked without that one first. The reference's sum: a block. The reference's sum: a block. -/
import Derived.Test.YtaljcojkcgjmcaaGreatDoorX06
import Derived.Lib.Builder
import Derived.Lib.UnsafeStr
import Derived.Lib.FrozenHead2
import Derived.Lib.Repeat
import Derived.Test.YtaljcojkcgjmcaaGreatDoorShelf
import Derived.Deep.RegionHeld3
import Derived.Test.YtaljcojkcgjmcaaGreatDoorX01
import Derived.BigRegion
set_option linter.unusedVariables false
set_option linter.unusedSimpArgs false
namespace Go.Proofs.YtaljcojkcgjmcaaGreatDoor
open Go.RowKit Num
set_option maxRecDepth 100000 in
set_option maxHeartbeats 1000000 in
theorem b_copyCheck_used (b : Nat) (w : World) (h0 : w.cell? ⟨b, 0, none⟩ = some (.pointer (some ⟨b, 0, none⟩))) :
    Calls Tryz.prog 93 #[.pointer (some ⟨b, 0, none⟩)] w fun e w' => e = .returned (.tuple #[]) ∧ w' = w := by
  have sz : (Tryz.prog.info? 134).map (·.size) = some 2 := by kernel_rfl
  obtain ⟨j, hj, _⟩ := Option.map_eq_some_iff.1 sz
  go_enter Tryz.func93, Tryz.ntmps93
  go_wp2
  rw [Lib.run_neq_ptr_same w _ Tryz.underlying132 hj]
  go_wp2
  go_end0
  exact ⟨rfl, rfl⟩
set_option maxRecDepth 100000 in
set_option maxHeartbeats 1000000 in
theorem b_copyCheck_fresh (b : Nat) (w : World) (h0 : w.cell? ⟨b, 0, none⟩ = some (.pointer none)) (hsh : w.shape? b = some (134, 2)) (hf : w.frozen? ⟨b, 0, none⟩ = false) :
    Calls Tryz.prog 93 #[.pointer (some ⟨b, 0, none⟩)] w fun e w' => e = .returned (.tuple #[]) ∧ w' = w.setCell ⟨b, 0, none⟩ (.pointer (some ⟨b, 0, none⟩)) := by
  have sz : (Tryz.prog.info? 134).map (·.size) = some 2 := by kernel_rfl
  have li : liesAt Tryz.prog Tryz.prog.depth 134 (2 / Tryz.prog.cellsOf 134) 0 134 1 = true := by kernel_rfl
  obtain ⟨j, hj, hjs⟩ := Option.map_eq_some_iff.1 sz
  go_enter Tryz.func93, Tryz.ntmps93
  go_wp2
  rw [Lib.run_to_unsafe w ⟨b, 0, none⟩ Tryz.underlying132 Tryz.underlying151 hj (by rw [hjs]; decide) hsh (Nat.zero_lt_succ 1)]
  simp only [Result.andThen]
  rw [Oper.upon_value]
  go_wp2
  rw [run_callFunc_extern Tryz.func101 (by kernel_rfl) (by kernel_rfl) (by kernel_rfl) (e := Extern.AbiNoEscape.same) (by kernel_rfl)]
  rw [Lib.run_noEscape]
  simp only [Result.andThen]
  rw [Oper.upon_value]
  go_wp2
  rw [Lib.run_from_unsafe w ⟨b, 0, none⟩ Tryz.underlying151 Tryz.underlying132 hj hsh li]
  simp only [Result.andThen]
  rw [Oper.upon_value]
  go_wp2
  go_end0
  exact ⟨rfl, rfl⟩

abbrev BldF (B b : Nat) (bs : List Value) (w : World) : Prop := Lib.IsBuilderF 134 5 B b bs w
abbrev BldU (B b : Nat) (bs : List Value) (w : World) : Prop := Lib.BuilderAtF 134 5 B b (.pointer (some ⟨b, 0, none⟩)) bs w

theorem b_copyCheck (B b : Nat) (bs : List Value) (w : World) (h : BldF B b bs w) :
    Calls Tryz.prog 93 #[.pointer (some ⟨b, 0, none⟩)] w fun e w' => e = .returned (.tuple #[]) ∧ BldU B b bs w' ∧ Below B w w' := by
  rcases h with h | h
  · refine (b_copyCheck_fresh b w h.cell0 h.shape h.frozen0).mono ?_
    rintro e w' ⟨rfl, rfl⟩
    exact ⟨rfl, h.used _, (Below.refl B w).setCell (p := ⟨b, 0, none⟩) h.1 _⟩
  · refine (b_copyCheck_used b w h.cell0).mono ?_
    rintro e w' ⟨rfl, rfl⟩
    exact ⟨rfl, h, Below.refl B _⟩

theorem infoB : (Tryz.prog.info? 5).map (fun i => (i.zero, i.size, i.bytes)) = some (some (.int .u8 0), 1, 1) := by kernel_rfl

set_option maxRecDepth 100000 in
set_option maxHeartbeats 1000000 in
theorem b_WriteString (B b : Nat) (bs : List Value) (s : ByteArray) (w : World) (h : BldF B b bs w) (hlen : bs.length + s.size ≤ 140737488355328) (hBw : B ≤ w.heap.size) :
    Calls Tryz.prog 76 #[.pointer (some ⟨b, 0, none⟩), .string s] w fun e w' => e = .returned (.tuple #[.int .i64 s.size, .nilIface]) ∧ BldU B b (bs ++ Lib.strCells s) w' ∧ Below B w w' := by
  obtain ⟨i0, hi, hz0, hz1, hz2⟩ := info_parts infoB
  go_enter Tryz.func76, Tryz.ntmps76
  go_wp2_with (go_at_call 93; refine (b_copyCheck B b bs _ h).mono ?_)
  rintro e w1 ⟨rfl, h1, hb1⟩
  obtain ⟨hB, v, hbk, hown, hne⟩ := h1
  have c0 : w1.cell? ⟨b, 0, none⟩ = some (.pointer (some ⟨b, 0, none⟩)) := by rw [Lib.cell_of_heap hbk]; rfl
  have c1 : w1.cell? ⟨b, 1, none⟩ = some v := by rw [Lib.cell_of_heap hbk]; rfl
  go_wp2_with (at_builtin; refine Lib.wpList_append_own_stringF _ rfl _ _ 88 9 rfl B 5 i0 Tryz.underlying88 Tryz.underlying9 hi hz0 hz1 hz2 _ _ _ rfl hown s rfl ?c3 ?c4 ?c5 ?_)
  case c3 => unfold maxLen; omega
  case c4 => omega
  case c5 => have := hb1.size; omega
  intro v' w2 hown' hgrow _
  have hlt : b < w1.heap.size := by
    rcases Nat.lt_or_ge b w1.heap.size with h' | h'
    · exact h'
    · simp [Array.getElem?_eq_none h'] at hbk
  have hb2 : w2.heap[b]? = some (.cells #[.pointer (some ⟨b, 0, none⟩), v] 134 (0, 0)) := by
    rw [hgrow.block b hlt (fun e => hne e.symm)]
    exact hbk
  have d0 : w2.cell? ⟨b, 0, none⟩ = some (.pointer (some ⟨b, 0, none⟩)) := by rw [Lib.cell_of_heap hb2]; rfl
  have d1 : w2.cell? ⟨b, 1, none⟩ = some v := by rw [Lib.cell_of_heap hb2]; rfl
  have f1 : w2.frozen? ⟨b, 1, none⟩ = false := Lib.frozen_of_heap hb2 1
  obtain ⟨ao, n', cap, rfl⟩ : ∃ ao n' cap, v' = .slice ao n' cap := by
    rcases hown'.2 with ⟨hv, _⟩ | ⟨g, cap, cur, fz, hv, _⟩
    · exact ⟨_, _, _, hv⟩
    · exact ⟨_, _, _, hv⟩
  go_wp2
  go_ret2
  refine ⟨rfl, ?_, ?_⟩
  · exact Lib.BuilderAtF.put (T := 134) (e := 5) hB hb2 (bs' := bs ++ Lib.strCells s) (by simpa [Lib.strCells_length] using hown') (by decide)
  · exact (hb1.grown hgrow (by have := hb1.size; omega) (fun k hk => (hown.lt k hk).1)).setCell (p := ⟨b, 1, none⟩) hB _

end Go.Proofs.YtaljcojkcgjmcaaGreatDoor
namespace Go.Proofs.YtaljcojkcgjmcaaGreatDoor
open Go.RowKit Num

theorem bldU_below {B b : Nat} {bs : List Value} {w w' : World} (h : BldU B b bs w) (hb : Below w.heap.size w w') : BldU B b bs w' := by
  have hlt := Lib.BuilderAtF.lt h
  obtain ⟨hB, v, hbk, hown, hne⟩ := h
  exact ⟨hB, v, (hb.block b hlt).trans hbk, hown.kept (only_of_below hb none) (by cases hv : v.ownBlock <;> simp), hne⟩

/-- The eight bytes of a length in bits, so many of them. -/
def lenB (len : Nat) : Nat → List UInt8
  | 0 => []
  | k + 1 => lenB len k ++ [UInt8.ofNat (len * 8 / 2 ^ (8 * (7 - k)) % 256)]
theorem lenB_len (len : Nat) : ∀ k, (lenB len k).length = k := by
  intro k
  induction k with
  | zero => rfl
  | succ k ih => simp [lenB, ih]
def zerosN (n : Nat) : Nat := (119 - n % 64) % 64
/-- The last blocks: what is left, a 1, zeros, the length in bits. -/
def padL (left : List UInt8) (len : Nat) : List UInt8 := left ++ [128] ++ Lib.repeatL [0] (zerosN left.length) ++ lenB len 8
theorem repeatL_len (n : Nat) : (Lib.repeatL [0] n).length = n := by
  induction n with
  | zero => rfl
  | succ n ih => simp [Lib.repeatL, ih]
theorem byteCells_snoc1 (l : List UInt8) (c : Nat) (h : c < 256) : Lib.byteCells (l ++ [UInt8.ofNat c]) = Lib.byteCells l ++ [.int .u8 (c : Int)] := by
  simp only [Lib.byteCells, List.map_append, List.map_cons, List.map_nil]
  rw [UInt8.toNat_ofNat_of_lt' (by simpa using h)]

end Go.Proofs.YtaljcojkcgjmcaaGreatDoor
namespace Go.Proofs.YtaljcojkcgjmcaaGreatDoor
open Go.RowKit Num

/-- The padded string. -/
def padS (s : ByteArray) : ByteArray := ⟨(padL s.data.toList s.size).toArray⟩
/-- The state behind so many blocks. -/
def shaSt (P : ByteArray) : Nat → (Nat → Int)
  | 0 => bOf
  | n + 1 => compress kOf (shaSt P n) (P.extract (64 * n) (64 * n + 64))
theorem byteAt_extract (b : ByteArray) (a c i : Nat) (h : a + i < c) (hc : c ≤ b.size) : byteAt (b.extract a c) i = byteAt b (a + i) := by
  unfold byteAt
  have : (b.extract a c).data[i]? = b.data[a + i]? := by
    rw [ByteArray.data_extract, Array.getElem?_extract]
    rw [if_pos (by have : b.data.size = b.size := rfl; omega)]
  rw [this]
theorem compress_congr (K v : Nat → Int) (b c : ByteArray) (h : ∀ i, i < 64 → byteAt b i = byteAt c i) : compress K v b = compress K v c := by
  have e : wds b 16 = wds c 16 := by
    funext i
    unfold wds
    by_cases hi : i < 16
    · rw [if_pos hi, if_pos hi]
      unfold wordAt
      rw [h _ (by omega), h _ (by omega), h _ (by omega), h _ (by omega)]
    · rw [if_neg hi, if_neg hi]
  have e2 : ∀ k, sched b k = sched c k := by
    intro k
    induction k with
    | zero => exact e
    | succ k ih => funext i; show (if _ then _ else _) = if _ then _ else _; rw [ih]
  unfold compress
  rw [e2]

theorem byteAt_list (b : ByteArray) (i : Nat) : byteAt b i = ((b.data.toList[i]?).getD 0).toNat := by
  unfold byteAt; rw [Array.getElem?_toList]
/-- What the last blocks hold. -/
def restS (s : ByteArray) : ByteArray := ⟨(padL (s.extract (s.size / 64 * 64) s.size).data.toList s.size).toArray⟩
theorem extract_list (s : ByteArray) (a : Nat) : (s.extract a s.size).data.toList = s.data.toList.drop a := by
  rw [ByteArray.data_extract, Array.toList_extract, List.extract_eq_take_drop]
  exact List.take_of_length_le (by rw [List.length_drop]; exact Nat.le_refl _)
theorem pad_split (s : ByteArray) : (padS s).data.toList = s.data.toList.take (s.size / 64 * 64) ++ (restS s).data.toList := by
  show padL _ _ = _ ++ padL _ _
  rw [extract_list]
  have e : zerosN s.data.toList.length = zerosN (s.data.toList.drop (s.size / 64 * 64)).length := by
    rw [List.length_drop]
    have : s.data.toList.length = s.size := rfl
    rw [this]; unfold zerosN; omega
  unfold padL
  rw [e]
  simp only [← List.append_assoc]
  rw [List.take_append_drop]
theorem pad_head (s : ByteArray) (i : Nat) (h : i < s.size / 64 * 64) : byteAt (padS s) i = byteAt s i := by
  rw [byteAt_list, byteAt_list, pad_split, List.getElem?_append_left (by rw [List.length_take]; have : s.data.toList.length = s.size := rfl; omega), List.getElem?_take, if_pos h]
theorem pad_tail (s : ByteArray) (i : Nat) : byteAt (padS s) (s.size / 64 * 64 + i) = byteAt (restS s) i := by
  have hl : (s.data.toList.take (s.size / 64 * 64)).length = s.size / 64 * 64 := by
    rw [List.length_take]; have : s.data.toList.length = s.size := rfl; omega
  rw [byteAt_list, byteAt_list, pad_split, List.getElem?_append_right (by rw [hl]; omega), hl, Nat.add_sub_cancel_left]
theorem rest_size (s : ByteArray) : ∃ m, (restS s).size = 64 * m ∧ (padS s).size = 64 * (s.size / 64 + m) ∧ 0 < m ∧ m ≤ 2 := by
  have h1 : (restS s).size = (s.size - s.size / 64 * 64) + 9 + zerosN (s.size - s.size / 64 * 64) := by
    show (padL _ _).toArray.size = _
    rw [extract_list]
    have : s.data.toList.length = s.size := rfl
    simp only [List.size_toArray, padL, List.length_append, repeatL_len, lenB_len, List.length_drop, this, List.length_cons, List.length_nil]
    omega
  have h2 : (padS s).size = s.size / 64 * 64 + (restS s).size := by
    have := congrArg List.length (pad_split s)
    rw [List.length_append, List.length_take] at this
    have a : s.data.toList.length = s.size := rfl
    have b : (padS s).data.toList.length = (padS s).size := rfl
    have c : (restS s).data.toList.length = (restS s).size := rfl
    omega
  refine ⟨(restS s).size / 64, ?_, ?_, ?_, ?_⟩ <;> (unfold zerosN at h1; omega)
theorem extract_byte (b : ByteArray) (k i : Nat) (h : k + i < b.size) : byteAt (b.extract k b.size) i = byteAt b (k + i) := byteAt_extract b k b.size i h (Nat.le_refl _)
/-- One block more. -/
theorem shaSt_next (P q : ByteArray) (n : Nat) (hP : 64 * n + 64 ≤ P.size) (h : ∀ i, i < 64 → byteAt q i = byteAt P (64 * n + i)) : compress kOf (shaSt P n) q = shaSt P (n + 1) := by
  refine compress_congr _ _ _ _ fun i hi => ?_
  rw [h i hi, byteAt_extract P _ _ i (by omega) hP]
theorem str_empty {q : ByteArray} (h : q.size = 0) : q.toList.isEmpty = true := by
  rw [ByteArray.toList_eq, List.isEmpty_iff]; exact List.eq_nil_of_length_eq_zero h
theorem str_full {q : ByteArray} (h : 0 < q.size) : q.toList.isEmpty = false := by
  rw [ByteArray.toList_eq, List.isEmpty_eq_false_iff]; intro e; have : q.data.toList.length = q.size := rfl; rw [e] at this; simp at this; omega
theorem only_trans {a b c : World} {g : Nat} (h : a.grownBy b (some g)) (k : b.grownBy c (some g)) : a.grownBy c (some g) :=
  ⟨k.os.trans h.os, k.tape.trans h.tape, k.output.trans h.output, Nat.le_trans h.size k.size, fun i hi hn => (k.block i (Nat.lt_of_lt_of_le hi h.size) hn).trans (h.block i hi hn)⟩
theorem below_only {B g : Nat} {a b c : World} (h : Below B a b) (k : b.grownBy c (some g)) (hB : B ≤ b.heap.size) (hg : B ≤ g) : Below B a c := h.grown k hB (fun r hr => by cases hr; exact hg)
theorem Arr.only {w w' : World} {B n g : Nat} {f : Nat → Int} (h : Arr w B n f) (hg : w.grownBy w' (some g)) (hB : B < w.heap.size) (hne : B ≠ g) : Arr w' B n f :=
  ⟨fun j hj => by rw [World.cell?_of_block (hg.block B hB (by simpa using hne))]; exact h.cell j hj, fun j hj => by rw [World.frozen?_of_block (hg.block B hB (by simpa using hne))]; exact h.live j hj⟩
/-- The bytes of a state, those of the first words laid. -/
def outV (f : Nat → Int) (t : Nat) (i : Nat) : Value := .int .u8 (if i < 4 * t then f (i / 4) / ((2 ^ (24 - 8 * (i % 4)) : Nat) : Int) % 256 else 0)
def outL (f : Nat → Int) : List Int := (List.range 32).map fun i => f (i / 4) / ((2 ^ (24 - 8 * (i % 4)) : Nat) : Int) % 256
/-- The sum of a string. -/
def shaOf (s : ByteArray) : ByteArray := strOfNums (outL (shaSt (padS s) ((padS s).size / 64)))
theorem shaOf_size (s : ByteArray) : (shaOf s).size = 32 := by unfold shaOf; rw [strOfNums_size]; simp [outL]
theorem outL_get (f : Nat → Int) (i : Nat) (h : i < 32) : (outL f).getD i 0 = f (i / 4) / ((2 ^ (24 - 8 * (i % 4)) : Nat) : Int) % 256 := by
  unfold outL; rw [List.getD_eq_getElem?_getD, List.getElem?_map, List.getElem?_range h]; rfl
theorem outV_next (f : Nat → Int) (t : Nat) (ht : t < 8) (i : Nat) (hi : i < 32) :
    updV (updV (updV (updV (outV f t) (4 * t) (.int .u8 (f t / 16777216 % 256))) (4 * t + 1) (.int .u8 (f t / 65536 % 256))) (4 * t + 2) (.int .u8 (f t / 256 % 256))) (4 * t + 3) (.int .u8 (f t % 256)) i = outV f (t + 1) i := by
  unfold updV outV
  by_cases h3 : i = 4 * t + 3
  · subst h3
    rw [if_pos rfl, if_pos (by omega), show (4 * t + 3) / 4 = t by omega, show (4 * t + 3) % 4 = 3 by omega]
    simp
  rw [if_neg h3]
  by_cases h2 : i = 4 * t + 2
  · subst h2
    rw [if_pos rfl, if_pos (by omega), show (4 * t + 2) / 4 = t by omega, show (4 * t + 2) % 4 = 2 by omega]
    rfl
  rw [if_neg h2]
  by_cases h1 : i = 4 * t + 1
  · subst h1
    rw [if_pos rfl, if_pos (by omega), show (4 * t + 1) / 4 = t by omega, show (4 * t + 1) % 4 = 1 by omega]
    rfl
  rw [if_neg h1]
  by_cases h0 : i = 4 * t
  · subst h0
    rw [if_pos rfl, if_pos (by omega), show (4 * t) / 4 = t by omega, show (4 * t) % 4 = 0 by omega]
    rfl
  rw [if_neg h0]
  by_cases hl : i < 4 * t
  · rw [if_pos hl, if_pos (by omega)]
  · rw [if_neg hl, if_neg (by omega)]
def strLen : Value → Nat
  | .string s => s.size
  | _ => 0
end Go.Proofs.YtaljcojkcgjmcaaGreatDoor
namespace Go.Proofs.YtaljcojkcgjmcaaGreatDoor

section
variable {P : Program} {Q : Exit → Act → World → Prop}
/-- The region without its last operation: behind it that one comes up. -/
def LastQ (P : Program) (ops : Array Oper) (n : Nat) (Q : Exit → Act → World → Prop) : Exit → Act → World → Prop
  | .normal, a, w => wpOp P ops Q n (Q .normal) a w
  | e, a, w => Q e a w
theorem Oper.wp_lastQ {ops : Array Oper} {n : Nat} {o : Oper} {a : Act} {w : World} {K : Act → World → Prop} (h : o.wp P a w K (LastQ P ops n Q)) : o.wp P a w K Q := by
  unfold Oper.wp at *
  generalize (execOp a.eval o).run P w = r at *
  cases r with
  | ok m w' =>
    cases m <;> simp only [Oper.upon] at h ⊢ <;>
      first
        | exact h
        | exact Calls.mono h (fun e w'' he => by cases e <;> exact he)
  | halt x w' => cases x <;> simp only [Oper.upon] at h ⊢ <;> exact h
/-- What is asked of the operations: each waits for earlier ones alone, and the last one for all. -/
def lastB (l : List Oper) (o : Oper) : Bool :=
  (l.zipIdx.all fun (x, i) => x.after.all fun e => !Region.binds .any e || decide (e.on < i)) &&
  (o.after.all fun e => !Region.binds .any e || decide (e.on < l.length)) &&
  ((List.range l.length).all fun j => o.after.any fun e => Region.binds .any e && e.on == j) &&
  (l.all fun x => match x.guard with | none => true | some (j, _) => decide (j < l.length))
variable {l : List Oper} {o : Oper}
theorem last_get {i : Nat} (h : i < l.length) : ((l ++ [o]).toArray)[i]? = l.toArray[i]? := by
  simp [List.getElem?_append_left h]
theorem last_get_n : ((l ++ [o]).toArray)[l.length]? = some o := by simp
structure LastOk (l : List Oper) (o : Oper) : Prop where
  lt : ∀ i x, l[i]? = some x → ∀ e ∈ x.after, Region.binds .any e = true → e.on < i
  on : ∀ e ∈ o.after, Region.binds .any e = true → e.on < l.length
  all : ∀ j, j < l.length → ∃ e ∈ o.after, Region.binds .any e = true ∧ e.on = j
  guard : ∀ x ∈ l, ∀ j b, x.guard = some (j, b) → j < l.length
theorem lastB_spec (h : lastB l o = true) : LastOk l o := by
  unfold lastB at h
  simp only [Bool.and_eq_true] at h
  obtain ⟨⟨⟨h1, h2⟩, h3⟩, h4⟩ := h
  refine ⟨fun i x hx e he hb => ?_, fun e he hb => ?_, fun j hj => ?_, fun x hx j b hg => ?_⟩
  · rw [List.all_eq_true] at h1
    have hm : (x, i) ∈ l.zipIdx := by
      rw [List.mem_zipIdx_iff_getElem?]; exact hx
    have := h1 _ hm
    simp only [Array.all_eq_true'] at this
    have := this e he
    simpa [hb] using this
  · rw [Array.all_eq_true'] at h2
    have := h2 e he
    simpa [hb] using this
  · rw [List.all_eq_true] at h3
    have := h3 j (List.mem_range.2 hj)
    rw [Array.any_eq_true'] at this
    obtain ⟨e, he, hb⟩ := this
    simp only [Bool.and_eq_true, beq_iff_eq] at hb
    exact ⟨e, he, hb.1, hb.2⟩
  · rw [List.all_eq_true] at h4
    have := h4 x hx
    rw [hg] at this
    simpa using this
/-- The same marks on the first ones; the last one not yet. -/
def Fits (n : Nat) (A B : Array Bool) : Prop := (∀ j, j < n → A.getD j true = B.getD j true ∧ A.getD j false = B.getD j false) ∧ A.size = n + 1 ∧ B.size = n
theorem getD_two {A : Array Bool} {j : Nat} (h : j < A.size) : A.getD j true = A.getD j false := by simp [h]
theorem Fits.set {n i : Nat} {A B : Array Bool} (h : Fits n A B) (hi : i < n) : Fits n (A.setIfInBounds i true) (B.setIfInBounds i true) := by
  refine ⟨fun j hj => ?_, by simp [h.2.1], by simp [h.2.2]⟩
  by_cases e : i = j
  · subst e
    simp [Array.getElem?_setIfInBounds, h.2.1, h.2.2, hj, show i < n + 1 by omega]
  · rw [getD_set_ne true e, getD_set_ne true e, getD_set_ne false e, getD_set_ne false e]; exact h.1 j hj
theorem ready_lt {A B : Array Bool} (ok : LastOk l o) (hf : Fits l.length A B) {i : Nat} (hi : i < l.length) :
    i ∈ Region.ready .any (l ++ [o]).toArray A ↔ i ∈ Region.ready .any l.toArray B := by
  rw [mem_ready, mem_ready, (hf.1 i hi).1, last_get hi]
  refine and_congr Iff.rfl ⟨fun ⟨x, hx, h⟩ => ⟨x, hx, fun e he hb => ?_⟩, fun ⟨x, hx, h⟩ => ⟨x, hx, fun e he hb => ?_⟩⟩
  · have hx' : l[i]? = some x := by simpa using hx
    have hlt := ok.lt i x hx' e he hb
    rw [← (hf.1 e.on (by omega)).2]; exact h e he hb
  · have hx' : l[i]? = some x := by simpa using hx
    have hlt := ok.lt i x hx' e he hb
    rw [(hf.1 e.on (by omega)).2]; exact h e he hb
/-- Nothing more may come up: all have. -/
theorem all_listed {B : Array Bool} (ok : LastOk l o) (hB : B.size = l.length) (h : Region.ready .any l.toArray B = []) : ∀ j, j < l.length → B.getD j false = true := by
  intro j
  induction j using Nat.strongRecOn with
  | _ j ih =>
    intro hj
    cases hb : B.getD j false with
    | true => rfl
    | false =>
      exfalso
      have : j ∈ Region.ready .any l.toArray B := by
        rw [mem_ready]
        refine ⟨by rw [getD_two (by omega)]; exact hb, l[j], by simp [hj], fun e he hbd => ?_⟩
        have := ok.lt j l[j] (List.getElem?_eq_getElem hj) e he hbd
        exact ih e.on this (by omega)
      rw [h] at this; cases this
theorem ready_done {A : Array Bool} {n : Nat} (hn : n = l.length) (hA : A.size = n + 1) (h : ∀ j, j < n + 1 → A.getD j false = true) : Region.ready .any (l ++ [o]).toArray A = [] := by
  apply List.eq_nil_iff_forall_not_mem.2
  intro i hi
  rw [mem_ready] at hi
  obtain ⟨h0, x, hx, _⟩ := hi
  have hil : i < n + 1 := by
    have := (Array.getElem?_eq_some_iff.1 hx).1
    simp at this; omega
  have := h i hil
  rw [← getD_two (by omega), h0] at this
  cases this
theorem wpAny_done' {A : Array Bool} {ops : Array Oper} (hr : Region.ready .any ops A = []) {a : Act} {w : World} (h : Q .normal a w) : ∀ fuel, wpAny P .any ops Q fuel A a w
  | 0 => ⟨hr, h⟩
  | _ + 1 => ⟨fun _ => h, by rw [hr]; simp⟩
theorem wpAny_end {A B : Array Bool} (ok : LastOk l o) (hf : Fits l.length A B) (hn : A.getD l.length true = false) (h0 : Region.ready .any l.toArray B = []) {a : Act} {w : World}
    (h : wpOp P (l ++ [o]).toArray Q l.length (Q .normal) a w) (fuel : Nat) : wpAny P .any (l ++ [o]).toArray Q (fuel + 1) A a w := by
  have hall := all_listed ok hf.2.2 h0
  have hA : ∀ j, j < l.length → A.getD j false = true := fun j hj => by rw [(hf.1 j hj).2]; exact hall j hj
  have hnr : l.length ∈ Region.ready .any (l ++ [o]).toArray A := by
    rw [mem_ready]
    exact ⟨hn, o, last_get_n, fun e he hb => hA e.on (ok.on e he hb)⟩
  refine ⟨fun h => (by rw [h] at hnr; cases hnr), fun i hi => ?_⟩
  have hin : i = l.length := by
    rcases Nat.lt_or_ge i l.length with hlt | hge
    · have := (ready_lt ok hf hlt).1 hi
      rw [h0] at this; cases this
    · obtain ⟨_, x, hx, _⟩ := mem_ready.1 hi
      have := (Array.getElem?_eq_some_iff.1 hx).1
      simp at this; omega
  subst hin
  refine wpOp_mono (fun a' w' hq => wpAny_done' (ready_done (n := l.length) rfl (by simp [hf.2.1]) (fun j hj => ?_)) hq fuel) h
  by_cases e : l.length = j
  · subst e; simp [Array.getElem?_setIfInBounds, hf.2.1]
  · rw [getD_set_ne false e]; exact hA j (by omega)
theorem wpAny_last (ok : LastOk l o) : ∀ (fuel : Nat) (A B : Array Bool) (a : Act) (w : World), Fits l.length A B → A.getD l.length true = false →
    wpAny P .any l.toArray (LastQ P (l ++ [o]).toArray l.length Q) fuel B a w → wpAny P .any (l ++ [o]).toArray Q (fuel + 1) A a w := by
  intro fuel
  induction fuel with
  | zero =>
    intro A B a w hf hn h
    exact wpAny_end ok hf hn h.1 h.2 0
  | succ fuel ih =>
    intro A B a w hf hn h
    by_cases h0 : Region.ready .any l.toArray B = []
    · exact wpAny_end ok hf hn h0 (h.1 h0) (fuel + 1)
    · refine ⟨fun hr => ?_, fun i hi => ?_⟩
      · exfalso
        obtain ⟨i, hi⟩ := List.exists_mem_of_ne_nil _ h0
        have hil : i < l.length := by
          obtain ⟨_, x, hx, _⟩ := mem_ready.1 hi
          simpa using (Array.getElem?_eq_some_iff.1 hx).1
        have := (ready_lt ok hf hil).2 hi
        rw [hr] at this; cases this
      · rcases Nat.lt_or_ge i l.length with hlt | hge
        · have h2 := h.2 i ((ready_lt ok hf hlt).1 hi)
          have h3 : wpOp P (l ++ [o]).toArray Q i (wpAny P .any l.toArray (LastQ P (l ++ [o]).toArray l.length Q) fuel (B.setIfInBounds i true)) a w := by
            have hlt' : i < l.toArray.size := by simpa using hlt
            unfold wpOp at h2 ⊢
            rw [last_get hlt]
            have hg : l.toArray[i]? = some l[i] := by simp [hlt]
            rw [hg] at h2 ⊢
            dsimp only at h2 ⊢
            have hy : ∀ g, Region.wanted l[i] (yielded (l ++ [o]).toArray g) = Region.wanted l[i] (yielded l.toArray g) := fun g => by
              unfold Region.wanted
              cases hgd : l[i].guard with
              | none => rfl
              | some jb =>
                obtain ⟨j, b⟩ := jb
                have := ok.guard l[i] (List.getElem_mem hlt) j b hgd
                dsimp only
                unfold yielded
                rw [last_get this]
            rw [hy]
            split
            · rename_i hw
              rw [if_pos hw] at h2
              rcases h2 with h2 | ⟨h2, h4⟩
              · exact .inl (Oper.wp_lastQ h2)
              · exact .inr ⟨h2, h4⟩
            · rename_i hw
              rw [if_neg hw] at h2
              exact h2
          refine wpOp_mono (fun a' w' hk => ih _ _ _ _ (hf.set hlt) (by rw [getD_set_ne true (by omega)]; exact hn) hk) h3
        · exfalso
          have hin : i = l.length := by
            obtain ⟨_, x, hx, _⟩ := mem_ready.1 hi
            have := (Array.getElem?_eq_some_iff.1 hx).1
            simp at this; omega
          subst hin
          obtain ⟨_, x, hx, hall⟩ := mem_ready.1 hi
          rw [last_get_n] at hx
          injection hx with hx; subst hx
          have : Region.ready .any l.toArray B = [] := by
            apply List.eq_nil_iff_forall_not_mem.2
            intro j hj
            obtain ⟨h5, y, hy, _⟩ := mem_ready.1 hj
            have hjl : j < l.length := by simpa using (Array.getElem?_eq_some_iff.1 hy).1
            obtain ⟨e, he, hb, rfl⟩ := ok.all j hjl
            have := hall e he hb
            rw [(hf.1 e.on hjl).2, ← getD_two (by rw [hf.2.2]; exact hjl), h5] at this
            cases this
          exact h0 this
/-- **A REGION THAT DRAWS ITS ORDER, ITS LAST OPERATION WAITING FOR ALL OTHERS.** -/
theorem wp_region_last {id : Nat} {a : Act} {w : World} (hm : P.follows .mixedOrders = true) (hB : lastB l o = true)
    (h : wpAny P .any l.toArray (LastQ P (l ++ [o]).toArray l.length Q) l.length (Array.replicate l.length false) a w.drew) : (Code.region id (l ++ [o]).toArray true).wp P Q a w := by
  refine wp_region_any hm ?_
  have e : (l ++ [o]).toArray.size = l.length + 1 := by simp
  rw [e]
  refine wpAny_last (lastB_spec hB) l.length _ _ a _ ⟨fun j hj => ?_, by simp, by simp⟩ (by simp) h
  simp [hj, show j < l.length + 1 by omega]
/-- The same, walked under a condition on the world that the last operation may break. -/
theorem wp_region_last_held {id : Nat} {a : Act} {w : World} (S : World → Prop) (hm : P.follows .mixedOrders = true) (hB : lastB l o = true) (hS : S w.drew)
    (h : S w.drew → wpAnyH P .any l.toArray (LastQ P (l ++ [o]).toArray l.length Q) S l.length (Array.replicate l.length false) a w.drew) : (Code.region id (l ++ [o]).toArray true).wp P Q a w :=
  wp_region_last hm hB (wpAny_of_held _ _ _ _ (h hS))
/-- As the walk meets it: the operations written out. -/
theorem wp_region_last_lit {id : Nat} {a : Act} {w : World} (L : List Oper) (o : Oper) (S : World → Prop) (hm : P.follows .mixedOrders = true) (hL : L.dropLast ++ [o] = L) (hB : lastB L.dropLast o = true) (hS : S w.drew)
    (h : S w.drew → wpAnyH P .any L.dropLast.toArray (LastQ P L.toArray L.dropLast.length Q) S L.dropLast.length (Array.replicate L.dropLast.length false) a w.drew) : (Code.region id L.toArray true).wp P Q a w := by
  have := wp_region_last_held (P := P) (Q := Q) (l := L.dropLast) (o := o) (id := id) (a := a) (w := w) S hm hB hS (by rw [hL]; exact h)
  rwa [hL] at this
theorem wpOp_step {ops : Array Oper} {i : Nat} {o : Oper} {K : Act → World → Prop} {a : Act} {w : World} (ho : ops[i]? = some o) (hg : o.guard = none) (h : o.wp P a w K Q) : wpOp P ops Q i K a w := by
  unfold wpOp
  rw [ho]
  dsimp only
  rw [if_pos (by simp [Region.wanted, hg])]
  exact .inl h
theorem lastQ_step {ops : Array Oper} {n : Nat} {o : Oper} {a : Act} {w : World} (ho : ops[n]? = some o) (hg : o.guard = none) (h : o.wp P a w (Q .normal) Q) : LastQ P ops n Q .normal a w := wpOp_step ho hg h
end
end Go.Proofs.YtaljcojkcgjmcaaGreatDoor
namespace Go.Proofs.YtaljcojkcgjmcaaGreatDoor
open Go.RowKit Num

theorem or_comm32 (a b : Int) : bits .or .u32 a b = bits .or .u32 b a := by
  show IntKind.u32.wrap ((BitVec.ofInt 32 a ||| BitVec.ofInt 32 b).toNat : Int) = IntKind.u32.wrap ((BitVec.ofInt 32 b ||| BitVec.ofInt 32 a).toNat : Int)
  rw [BitVec.or_comm]

end Go.Proofs.YtaljcojkcgjmcaaGreatDoor
namespace Go.Proofs.YtaljcojkcgjmcaaGreatDoor
open Go.RowKit Num

theorem allocK_arr (w : World) (K : Nat → Int) (n : Nat) (KC : Array Value) (h : ∀ i, i < n → KC[i]? = some (.int .u32 (K i))) (T : TypeId) : Arr (w.alloc (.cells KC T)) w.heap.size n K := by
  refine ⟨fun i hi => ?_, fun i hi => World.frozen?_alloc_new _ _ _ _⟩
  rw [World.cell?_alloc_new]
  exact h i hi
theorem alloc0_arr (w : World) (n : Nat) (T : TypeId) : Arr (w.alloc (.cells (Array.replicate n (.int .u32 0)) T)) w.heap.size n (fun _ => 0) :=
  allocK_arr w _ n _ (fun i hi => by rw [Array.getElem?_eq_getElem (by simp; exact hi)]; simp) T

theorem Arr.at {w : World} {B C n : Nat} {f : Nat → Int} (h : Arr w B n f) (e : B = C) : Arr w C n f := e ▸ h

/-- What was reckoned and the old state, added place by place, so many of them. -/
def finR (v r : Nat → Int) (t : Nat) : Nat → Int := fun i => if i < t then (v i + r i) % 4294967296 else r i
theorem finR_8 (v r : Nat → Int) (i : Nat) (h : i < 8) : finR v r 8 i = fin v r 8 i := by unfold finR fin; rw [if_pos h, if_pos h]

end Go.Proofs.YtaljcojkcgjmcaaGreatDoor
