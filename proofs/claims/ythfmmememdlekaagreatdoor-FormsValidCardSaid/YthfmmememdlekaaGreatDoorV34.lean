/- Contracts of the sum: its constants, its padding, the whole. Contracts of the builder at this cut: its check. Contracts of the sum: the padding. -/
import Derived.Test.YthfmmememdlekaaGreatDoorV02
import Derived.Lib.Builder
import Derived.Lib.UnsafeStr
import Derived.Lib.FrozenHead2
import Derived.Test.YthfmmememdlekaaGreatDoorShelf
set_option linter.unusedVariables false
set_option linter.unusedSimpArgs false
namespace Go.Proofs.YthfmmememdlekaaGreatDoor
open Go.RowKit Num

/-- The constants of the rounds, and the state at the beginning. -/
def shaK : List Int := [0x428a2f98, 0x71374491, 0xb5c0fbcf, 0xe9b5dba5, 0x3956c25b, 0x59f111f1, 0x923f82a4, 0xab1c5ed5, 0xd807aa98, 0x12835b01, 0x243185be, 0x550c7dc3, 0x72be5d74, 0x80deb1fe, 0x9bdc06a7, 0xc19bf174, 0xe49b69c1, 0xefbe4786, 0x0fc19dc6, 0x240ca1cc, 0x2de92c6f, 0x4a7484aa, 0x5cb0a9dc, 0x76f988da, 0x983e5152, 0xa831c66d, 0xb00327c8, 0xbf597fc7, 0xc6e00bf3, 0xd5a79147, 0x06ca6351, 0x14292967, 0x27b70a85, 0x2e1b2138, 0x4d2c6dfc, 0x53380d13, 0x650a7354, 0x766a0abb, 0x81c2c92e, 0x92722c85, 0xa2bfe8a1, 0xa81a664b, 0xc24b8b70, 0xc76c51a3, 0xd192e819, 0xd6990624, 0xf40e3585, 0x106aa070, 0x19a4c116, 0x1e376c08, 0x2748774c, 0x34b0bcb5, 0x391c0cb3, 0x4ed8aa4a, 0x5b9cca4f, 0x682e6ff3, 0x748f82ee, 0x78a5636f, 0x84c87814, 0x8cc70208, 0x90befffa, 0xa4506ceb, 0xbef9a3f7, 0xc67178f2]
def kOf (i : Nat) : Int := shaK.getD i 0
def shaB : List Int := [0x6a09e667, 0xbb67ae85, 0x3c6ef372, 0xa54ff53a, 0x510e527f, 0x9b05688c, 0x1f83d9ab, 0x5be0cd19]
def bOf (i : Nat) : Int := shaB.getD i 0

theorem map_get (l : List Int) (i : Nat) (h : i < l.length) : (l.map (Value.int .u32)).toArray[i]? = some (.int .u32 (l.getD i 0)) := by
  simp [List.getD, h]
theorem d_begin (w : World) :
    Calls Tryz.prog 120 #[] w fun r w' => r = .returned (.agg (shaB.map (Value.int .u32)).toArray) ∧ Below w.heap.size w w' := by
  go_enter Tryz.func120, Tryz.ntmps120
  go_wp2_with fail
  exact bodyPost_ret (v := .agg (shaB.map (Value.int .u32)).toArray) (by simp [results, Tryz.results120, go_sem, shaB]) rfl ⟨rfl, (Below.refl _ _).alloc (Nat.le_refl _) _⟩
set_option maxRecDepth 100000 in
set_option maxHeartbeats 2000000 in
theorem d_constants (w : World) :
    Calls Tryz.prog 121 #[] w fun r w' => r = .returned (.pointer (some ⟨w.heap.size, 0, none⟩)) ∧ Below w.heap.size w w' ∧ w.heap.size < w'.heap.size ∧ Arr w' w.heap.size 64 kOf := by
  go_enter Tryz.func121, Tryz.ntmps121
  go_wp2_with fail
  go_ret
  refine ⟨rfl, (Below.refl _ _).alloc (Nat.le_refl _) _, by simp, ⟨fun i hi => ?_, fun i hi => World.frozen?_alloc_new _ _ _ _⟩⟩
  rw [World.cell?_alloc_new]
  exact map_get shaK i hi
end Go.Proofs.YthfmmememdlekaaGreatDoor
namespace Go.Proofs.YthfmmememdlekaaGreatDoor
open Go.RowKit Num
set_option maxRecDepth 100000 in
set_option maxHeartbeats 1000000 in
theorem b_copyCheck_used (b : Nat) (w : World) (h0 : w.cell? ⟨b, 0, none⟩ = some (.pointer (some ⟨b, 0, none⟩))) :
    Calls Tryz.prog 119 #[.pointer (some ⟨b, 0, none⟩)] w fun e w' => e = .returned (.tuple #[]) ∧ w' = w := by
  have sz : (Tryz.prog.info? 142).map (·.size) = some 2 := by kernel_rfl
  obtain ⟨j, hj, _⟩ := Option.map_eq_some_iff.1 sz
  go_enter Tryz.func119, Tryz.ntmps119
  go_wp2
  rw [Lib.run_neq_ptr_same w _ Tryz.underlying140 hj]
  go_wp2
  go_end0
  exact ⟨rfl, rfl⟩
set_option maxRecDepth 100000 in
set_option maxHeartbeats 1000000 in
theorem b_copyCheck_fresh (b : Nat) (w : World) (h0 : w.cell? ⟨b, 0, none⟩ = some (.pointer none)) (hsh : w.shape? b = some (142, 2)) (hf : w.frozen? ⟨b, 0, none⟩ = false) :
    Calls Tryz.prog 119 #[.pointer (some ⟨b, 0, none⟩)] w fun e w' => e = .returned (.tuple #[]) ∧ w' = w.setCell ⟨b, 0, none⟩ (.pointer (some ⟨b, 0, none⟩)) := by
  have sz : (Tryz.prog.info? 142).map (·.size) = some 2 := by kernel_rfl
  have li : liesAt Tryz.prog Tryz.prog.depth 142 (2 / Tryz.prog.cellsOf 142) 0 142 1 = true := by kernel_rfl
  obtain ⟨j, hj, hjs⟩ := Option.map_eq_some_iff.1 sz
  go_enter Tryz.func119, Tryz.ntmps119
  go_wp2
  rw [Lib.run_to_unsafe w ⟨b, 0, none⟩ Tryz.underlying140 Tryz.underlying202 hj (by rw [hjs]; decide) hsh (Nat.zero_lt_succ 1)]
  simp only [Result.andThen]
  rw [Oper.upon_value]
  go_wp2
  rw [run_callFunc_extern Tryz.func147 (by kernel_rfl) (by kernel_rfl) (by kernel_rfl) (e := Extern.AbiNoEscape.same) (by kernel_rfl)]
  rw [Lib.run_noEscape]
  simp only [Result.andThen]
  rw [Oper.upon_value]
  go_wp2
  rw [Lib.run_from_unsafe w ⟨b, 0, none⟩ Tryz.underlying202 Tryz.underlying140 hj hsh li]
  simp only [Result.andThen]
  rw [Oper.upon_value]
  go_wp2
  go_end0
  exact ⟨rfl, rfl⟩

abbrev BldF (B b : Nat) (bs : List Value) (w : World) : Prop := Lib.IsBuilderF 142 5 B b bs w
abbrev BldU (B b : Nat) (bs : List Value) (w : World) : Prop := Lib.BuilderAtF 142 5 B b (.pointer (some ⟨b, 0, none⟩)) bs w

theorem b_copyCheck (B b : Nat) (bs : List Value) (w : World) (h : BldF B b bs w) :
    Calls Tryz.prog 119 #[.pointer (some ⟨b, 0, none⟩)] w fun e w' => e = .returned (.tuple #[]) ∧ BldU B b bs w' ∧ Below B w w' := by
  rcases h with h | h
  · refine (b_copyCheck_fresh b w h.cell0 h.shape h.frozen0).mono ?_
    rintro e w' ⟨rfl, rfl⟩
    exact ⟨rfl, h.used _, (Below.refl B w).setCell (p := ⟨b, 0, none⟩) h.1 _⟩
  · refine (b_copyCheck_used b w h.cell0).mono ?_
    rintro e w' ⟨rfl, rfl⟩
    exact ⟨rfl, h, Below.refl B _⟩

theorem infoB : (Tryz.prog.info? 5).map (fun i => (i.zero, i.size, i.bytes)) = some (some (.int .u8 0), 1, 1) := by kernel_rfl

set_option maxRecDepth 100000 in
set_option maxHeartbeats 1000000 in
theorem b_WriteString (B b : Nat) (bs : List Value) (s : ByteArray) (w : World) (h : BldF B b bs w) (hlen : bs.length + s.size ≤ 140737488355328) (hBw : B ≤ w.heap.size) :
    Calls Tryz.prog 88 #[.pointer (some ⟨b, 0, none⟩), .string s] w fun e w' => e = .returned (.tuple #[.int .i64 s.size, .nilIface]) ∧ BldU B b (bs ++ Lib.strCells s) w' ∧ Below B w w' := by
  obtain ⟨i0, hi, hz0, hz1, hz2⟩ := info_parts infoB
  go_enter Tryz.func88, Tryz.ntmps88
  go_wp2_with (go_at_call 119; refine (b_copyCheck B b bs _ h).mono ?_)
  rintro e w1 ⟨rfl, h1, hb1⟩
  obtain ⟨hB, v, hbk, hown, hne⟩ := h1
  have c0 : w1.cell? ⟨b, 0, none⟩ = some (.pointer (some ⟨b, 0, none⟩)) := by rw [Lib.cell_of_heap hbk]; rfl
  have c1 : w1.cell? ⟨b, 1, none⟩ = some v := by rw [Lib.cell_of_heap hbk]; rfl
  go_wp2_with (at_builtin; refine Lib.wpList_append_own_stringF _ rfl _ _ 136 9 rfl B 5 i0 Tryz.underlying136 Tryz.underlying9 hi hz0 hz1 hz2 _ _ _ rfl hown s rfl ?c3 ?c4 ?c5 ?_)
  case c3 => unfold maxLen; omega
  case c4 => omega
  case c5 => have := hb1.size; omega
  intro v' w2 hown' hgrow _
  have hlt : b < w1.heap.size := by
    rcases Nat.lt_or_ge b w1.heap.size with h' | h'
    · exact h'
    · simp [Array.getElem?_eq_none h'] at hbk
  have hb2 : w2.heap[b]? = some (.cells #[.pointer (some ⟨b, 0, none⟩), v] 142 (0, 0)) := by
    rw [hgrow.block b hlt (fun e => hne e.symm)]
    exact hbk
  have d0 : w2.cell? ⟨b, 0, none⟩ = some (.pointer (some ⟨b, 0, none⟩)) := by rw [Lib.cell_of_heap hb2]; rfl
  have d1 : w2.cell? ⟨b, 1, none⟩ = some v := by rw [Lib.cell_of_heap hb2]; rfl
  have f1 : w2.frozen? ⟨b, 1, none⟩ = false := Lib.frozen_of_heap hb2 1
  obtain ⟨ao, n', cap, rfl⟩ : ∃ ao n' cap, v' = .slice ao n' cap := by
    rcases hown'.2 with ⟨hv, _⟩ | ⟨g, cap, cur, fz, hv, _⟩
    · exact ⟨_, _, _, hv⟩
    · exact ⟨_, _, _, hv⟩
  go_wp2
  go_ret2
  refine ⟨rfl, ?_, ?_⟩
  · exact Lib.BuilderAtF.put (T := 142) (e := 5) hB hb2 (bs' := bs ++ Lib.strCells s) (by simpa [Lib.strCells_length] using hown') (by decide)
  · exact (hb1.grown hgrow (by have := hb1.size; omega) (fun k hk => (hown.lt k hk).1)).setCell (p := ⟨b, 1, none⟩) hB _

set_option maxRecDepth 100000 in
set_option maxHeartbeats 1000000 in
theorem b_WriteByte (B b : Nat) (bs : List Value) (c : Int) (w : World) (h : BldF B b bs w) (hlen : bs.length + 1 ≤ 140737488355328) (hBw : B ≤ w.heap.size) :
    Calls Tryz.prog 148 #[.pointer (some ⟨b, 0, none⟩), .int .u8 c] w fun e w' => e = .returned .nilIface ∧ BldU B b (bs ++ [.int .u8 c]) w' ∧ Below B w w' := by
  obtain ⟨i0, hi, hz0, hz1, hz2⟩ := info_parts infoB
  go_enter Tryz.func148, Tryz.ntmps148
  go_wp2_with (go_at_call 119; refine (b_copyCheck B b bs _ h).mono ?_)
  rintro e w1 ⟨rfl, h1, hb1⟩
  obtain ⟨hB, v, hbk, hown, hne⟩ := h1
  have c0 : w1.cell? ⟨b, 0, none⟩ = some (.pointer (some ⟨b, 0, none⟩)) := by rw [Lib.cell_of_heap hbk]; rfl
  have c1 : w1.cell? ⟨b, 1, none⟩ = some v := by rw [Lib.cell_of_heap hbk]; rfl
  go_wp2_with (at_builtin; refine wpList_append_ownF _ rfl _ _ 136 rfl B 5 i0 (.int .u8 0) 1 1 Tryz.underlying136 hi hz0 hz1 hz2 rfl (by decide) _ _ _ rfl (hown.alloc _) ⟨w1.heap.size, 0, none⟩ 1 1 [.int .u8 c] rfl rfl ?c1 ?c2 ?c3 ?c4 ?c5 ?_)
  case c1 =>
    intro j u hj
    match j, hj with
    | 0, hj => simp at hj; subst hj; simp [Addr.add]
  case c2 => intro u hu; simp at hu; subst hu; rfl
  case c3 => unfold maxLen; omega
  case c4 => omega
  case c5 => have := hb1.size; simp; omega
  intro v' w2 hown' hgrow _
  have hlt : b < w1.heap.size := by
    rcases Nat.lt_or_ge b w1.heap.size with h' | h'
    · exact h'
    · simp [Array.getElem?_eq_none h'] at hbk
  have hb2 : w2.heap[b]? = some (.cells #[.pointer (some ⟨b, 0, none⟩), v] 142 (0, 0)) := by
    rw [hgrow.block b (by simp; omega) (fun e => hne e.symm), Lib.alloc_old w1 _ b hlt]
    exact hbk
  have d0 : w2.cell? ⟨b, 0, none⟩ = some (.pointer (some ⟨b, 0, none⟩)) := by rw [Lib.cell_of_heap hb2]; rfl
  have d1 : w2.cell? ⟨b, 1, none⟩ = some v := by rw [Lib.cell_of_heap hb2]; rfl
  have f1 : w2.frozen? ⟨b, 1, none⟩ = false := Lib.frozen_of_heap hb2 1
  obtain ⟨g, cap, rfl⟩ : ∃ g cap, v' = .slice (some ⟨g, 0, none⟩) (bs.length + 1) cap := by
    rcases hown'.2 with ⟨_, h0⟩ | ⟨g, cap, cur, fz, hv, _⟩
    · omega
    · exact ⟨g, cap, hv⟩
  go_wp2
  go_ret
  refine ⟨rfl, ?_, ?_⟩
  · exact Lib.BuilderAtF.put (T := 142) (e := 5) hB hb2 (bs' := bs ++ [.int .u8 c]) (by simpa using hown') (by decide)
  · exact ((hb1.alloc (by have := hb1.size; omega) _).grown hgrow (by have := hb1.size; simp; omega) (fun k hk => (hown.lt k hk).1)).setCell (p := ⟨b, 1, none⟩) hB _
end Go.Proofs.YthfmmememdlekaaGreatDoor
namespace Go.Proofs.YthfmmememdlekaaGreatDoor
open Go.RowKit Num

theorem bldU_below {B b : Nat} {bs : List Value} {w w' : World} (h : BldU B b bs w) (hb : Below w.heap.size w w') : BldU B b bs w' := by
  have hlt := Lib.BuilderAtF.lt h
  obtain ⟨hB, v, hbk, hown, hne⟩ := h
  exact ⟨hB, v, (hb.block b hlt).trans hbk, hown.kept (only_of_below hb none) (by cases hv : v.ownBlock <;> simp), hne⟩

/-- The eight bytes of a length in bits, so many of them. -/
def lenB (len : Nat) : Nat → List UInt8
  | 0 => []
  | k + 1 => lenB len k ++ [UInt8.ofNat (len * 8 / 2 ^ (8 * (7 - k)) % 256)]
theorem lenB_len (len : Nat) : ∀ k, (lenB len k).length = k := by
  intro k
  induction k with
  | zero => rfl
  | succ k ih => simp [lenB, ih]
def zerosN (n : Nat) : Nat := (119 - n % 64) % 64
/-- The last blocks: what is left, a 1, zeros, the length in bits. -/
def padL (left : List UInt8) (len : Nat) : List UInt8 := left ++ [128] ++ Lib.repeatL [0] (zerosN left.length) ++ lenB len 8
theorem repeatL_len (n : Nat) : (Lib.repeatL [0] n).length = n := by
  induction n with
  | zero => rfl
  | succ n ih => simp [Lib.repeatL, ih]
theorem byteCells_snoc1 (l : List UInt8) (c : Nat) (h : c < 256) : Lib.byteCells (l ++ [UInt8.ofNat c]) = Lib.byteCells l ++ [.int .u8 (c : Int)] := by
  simp only [Lib.byteCells, List.map_append, List.map_cons, List.map_nil]
  rw [UInt8.toNat_ofNat_of_lt' (by simpa using h)]

set_option maxRecDepth 100000 in
set_option maxHeartbeats 1000000 in
theorem d_rest (left : ByteArray) (len : Nat) (w : World) (hs : left.size < 4294967296) (hl : len < 1152921504606846976) :
    Calls Tryz.prog 122 #[.string left, .int .i64 (len : Int)] w fun e w' => e = .returned (.string ⟨(padL left.data.toList len).toArray⟩) ∧ Below w.heap.size w w' := by
  have hz : zerosN left.size < 64 := Nat.mod_lt _ (by decide)
  have hzi : ((119 - (left.size : Int)) % 64) = (zerosN left.size : Int) := by unfold zerosN; omega
  have HZ := Lib.hid hzi
  clear hzi
  go_enter Tryz.func122, Tryz.ntmps122
  go_wp2_with fail
  have hB : BldF w.heap.size w.heap.size [] (w.alloc (.cells #[.pointer none, .slice none 0 0] 142)) := Lib.IsBuilderF.of (Lib.fresh_isBuilder _ _ _)
  refine (b_WriteString w.heap.size w.heap.size [] left _ hB (by simp; omega) (by simp)).mono ?_
  rintro e w1 ⟨rfl, h1, hb1⟩
  have s1 := hb1.size
  go_wp2_with fail
  refine (b_WriteByte w.heap.size w.heap.size _ 128 _ (.inr h1) (by simp [Lib.strCells_length]; omega) (by simp at s1; omega)).mono ?_
  rintro e w2 ⟨rfl, h2, hb2⟩
  have s2 := hb2.size
  go_wp2_with fail
  rw [HZ.out]
  refine (Tryz.strings_Repeat ⟨#[0]⟩ (zerosN left.size) _ (by omega) (by show 1 * _ ≤ _; omega)).mono ?_
  rintro e w3 ⟨rfl, hb3⟩
  have s3 := hb3.size
  have h3 := bldU_below h2 hb3
  go_wp2_with fail
  refine (b_WriteString w.heap.size w.heap.size _ _ _ (.inr h3) (by show _ + (Lib.repeatL [0] (zerosN left.size)).toArray.size ≤ _; simp [Lib.strCells_length, repeatL_len]; omega) (by simp at s1; omega)).mono ?_
  rintro e w4 ⟨rfl, h4, hb4⟩
  have s4 := hb4.size
  go_wp2_with fail
  have hbw : Below w.heap.size w w4 := (((((Below.refl _ _).alloc (Nat.le_refl _) _).trans hb1).trans hb2).trans (hb3.mono (by simp at s1; omega))).trans hb4
  have hbase : (([] ++ Lib.strCells left ++ [Value.int .u8 128]) ++ Lib.strCells ⟨(Lib.repeatL [0] (zerosN left.size)).toArray⟩) = Lib.byteCells ((left.data.toList ++ [128] ++ Lib.repeatL [0] (zerosN left.data.toList.length)) ++ lenB len 0) := by
    simp [Lib.byteCells, Lib.strCells, lenB]
  rw [hbase] at h4
  have hbl : (left.data.toList ++ [128] ++ Lib.repeatL [0] (zerosN left.data.toList.length)).length < 4294967296 + 1 + 64 := by simp [repeatL_len]; omega
  have ep : padL left.data.toList len = (left.data.toList ++ [128] ++ Lib.repeatL [0] (zerosN left.data.toList.length)) ++ lenB len 8 := rfl
  have EP := Lib.hid ep
  clear ep hbase h1 h2 h3 hB HZ
  generalize (left.data.toList ++ [128] ++ Lib.repeatL [0] (zerosN left.data.toList.length)) = base at *
  have H4 := Lib.hid h4
  clear h4
  go_loopw [8] (fun i wr => ∃ k : Nat, k ≤ 8 ∧ i = .int .i64 (7 - (k : Int)) ∧ BldU w.heap.size w.heap.size (Lib.byteCells (base ++ lenB len k)) wr ∧ Below w.heap.size w wr) (fun i _ => (intOf i + 1).toNat)
  case atStart => exact ⟨0, by omega, rfl, H4.out, hbw⟩
  case round =>
    obtain ⟨k, hk, rfl, hu, hb⟩ := hrel
    have hsz := hb.size
    have HU := Lib.hid hu
    clear hu
    by_cases h8 : k < 8
    · have hlen := lenB_len len k
      go_wp2_with fail
      refine (b_WriteByte w.heap.size w.heap.size _ _ _ (.inr HU.out) (by rw [Lib.byteCells_length, List.length_append, hlen]; omega) hsz).mono ?_
      rintro e w5 ⟨rfl, h5, hb5⟩
      have H5 := Lib.hid h5
      clear h5
      go_wp2_with fail
      go_roundw
      case measure => simp [intOf]; omega
      case rel =>
        refine ⟨k + 1, by omega, by go_num, ?_, hb.trans hb5⟩
        have := H5.out
        rw [show lenB len (k + 1) = lenB len k ++ [UInt8.ofNat (len * 8 / 2 ^ (8 * (7 - k)) % 256)] from rfl, ← List.append_assoc, byteCells_snoc1 _ _ (Nat.mod_lt _ (by decide))]
        exact this
    · have h8' : k = 8 := by omega
      subst h8'
      go_wp2_with fail
      refine (Tryz.Builder_String_any_f w.heap.size w.heap.size _ _ (.inr HU.out) hsz).mono ?_
      rintro e w5 ⟨rfl, _, hb5⟩
      go_wp2_with fail
      go_ret
      exact ⟨by rw [EP.out]; rfl, hb.trans hb5⟩
end Go.Proofs.YthfmmememdlekaaGreatDoor
