/- Contracts of the sum: the padding. -/
import Derived.Test.YthfmmememdlekaaDoorHanBld
import Derived.Test.YthfmmememdlekaaDoorShelf
set_option linter.unusedVariables false
set_option linter.unusedSimpArgs false
namespace Go.Proofs.YthfmmememdlekaaDoor
open Go.RowKit Num

theorem bldU_below {B b : Nat} {bs : List Value} {w w' : World} (h : BldU B b bs w) (hb : Below w.heap.size w w') : BldU B b bs w' := by
  have hlt := Lib.BuilderAtF.lt h
  obtain ⟨hB, v, hbk, hown, hne⟩ := h
  exact ⟨hB, v, (hb.block b hlt).trans hbk, hown.kept (only_of_below hb none) (by cases hv : v.ownBlock <;> simp), hne⟩

/-- The eight bytes of a length in bits, so many of them. -/
def lenB (len : Nat) : Nat → List UInt8
  | 0 => []
  | k + 1 => lenB len k ++ [UInt8.ofNat (len * 8 / 2 ^ (8 * (7 - k)) % 256)]
theorem lenB_len (len : Nat) : ∀ k, (lenB len k).length = k := by
  intro k
  induction k with
  | zero => rfl
  | succ k ih => simp [lenB, ih]
def zerosN (n : Nat) : Nat := (119 - n % 64) % 64
/-- The last blocks: what is left, a 1, zeros, the length in bits. -/
def padL (left : List UInt8) (len : Nat) : List UInt8 := left ++ [128] ++ Lib.repeatL [0] (zerosN left.length) ++ lenB len 8
theorem repeatL_len (n : Nat) : (Lib.repeatL [0] n).length = n := by
  induction n with
  | zero => rfl
  | succ n ih => simp [Lib.repeatL, ih]
theorem byteCells_snoc1 (l : List UInt8) (c : Nat) (h : c < 256) : Lib.byteCells (l ++ [UInt8.ofNat c]) = Lib.byteCells l ++ [.int .u8 (c : Int)] := by
  simp only [Lib.byteCells, List.map_append, List.map_cons, List.map_nil]
  rw [UInt8.toNat_ofNat_of_lt' (by simpa using h)]

set_option maxRecDepth 100000 in
set_option maxHeartbeats 1000000 in
theorem d_rest (left : ByteArray) (len : Nat) (w : World) (hs : left.size < 4294967296) (hl : len < 1152921504606846976) :
    Calls Tryd.prog 88 #[.string left, .int .i64 (len : Int)] w fun e w' => e = .returned (.string ⟨(padL left.data.toList len).toArray⟩) ∧ Below w.heap.size w w' := by
  have hz : zerosN left.size < 64 := Nat.mod_lt _ (by decide)
  have hzi : ((119 - (left.size : Int)) % 64) = (zerosN left.size : Int) := by unfold zerosN; omega
  have HZ := Lib.hid hzi
  clear hzi
  go_enter Tryd.func88, Tryd.ntmps88
  go_wp2_with fail
  have hB : BldF w.heap.size w.heap.size [] (w.alloc (.cells #[.pointer none, .slice none 0 0] 132)) := Lib.IsBuilderF.of (Lib.fresh_isBuilder _ _ _)
  refine (b_WriteString w.heap.size w.heap.size [] left _ hB (by simp; omega) (by simp)).mono ?_
  rintro e w1 ⟨rfl, h1, hb1⟩
  have s1 := hb1.size
  go_wp2_with fail
  refine (b_WriteByte w.heap.size w.heap.size _ 128 _ (.inr h1) (by simp [Lib.strCells_length]; omega) (by simp at s1; omega)).mono ?_
  rintro e w2 ⟨rfl, h2, hb2⟩
  have s2 := hb2.size
  go_wp2_with fail
  rw [HZ.out]
  refine (Tryd.strings_Repeat ⟨#[0]⟩ (zerosN left.size) _ (by omega) (by show 1 * _ ≤ _; omega)).mono ?_
  rintro e w3 ⟨rfl, hb3⟩
  have s3 := hb3.size
  have h3 := bldU_below h2 hb3
  go_wp2_with fail
  refine (b_WriteString w.heap.size w.heap.size _ _ _ (.inr h3) (by show _ + (Lib.repeatL [0] (zerosN left.size)).toArray.size ≤ _; simp [Lib.strCells_length, repeatL_len]; omega) (by simp at s1; omega)).mono ?_
  rintro e w4 ⟨rfl, h4, hb4⟩
  have s4 := hb4.size
  go_wp2_with fail
  have hbw : Below w.heap.size w w4 := (((((Below.refl _ _).alloc (Nat.le_refl _) _).trans hb1).trans hb2).trans (hb3.mono (by simp at s1; omega))).trans hb4
  have hbase : (([] ++ Lib.strCells left ++ [Value.int .u8 128]) ++ Lib.strCells ⟨(Lib.repeatL [0] (zerosN left.size)).toArray⟩) = Lib.byteCells ((left.data.toList ++ [128] ++ Lib.repeatL [0] (zerosN left.data.toList.length)) ++ lenB len 0) := by
    simp [Lib.byteCells, Lib.strCells, lenB]
  rw [hbase] at h4
  have hbl : (left.data.toList ++ [128] ++ Lib.repeatL [0] (zerosN left.data.toList.length)).length < 4294967296 + 1 + 64 := by simp [repeatL_len]; omega
  have ep : padL left.data.toList len = (left.data.toList ++ [128] ++ Lib.repeatL [0] (zerosN left.data.toList.length)) ++ lenB len 8 := rfl
  have EP := Lib.hid ep
  clear ep hbase h1 h2 h3 hB HZ
  generalize (left.data.toList ++ [128] ++ Lib.repeatL [0] (zerosN left.data.toList.length)) = base at *
  have H4 := Lib.hid h4
  clear h4
  go_loopw [8] (fun i wr => ∃ k : Nat, k ≤ 8 ∧ i = .int .i64 (7 - (k : Int)) ∧ BldU w.heap.size w.heap.size (Lib.byteCells (base ++ lenB len k)) wr ∧ Below w.heap.size w wr) (fun i _ => (intOf i + 1).toNat)
  case atStart => exact ⟨0, by omega, rfl, H4.out, hbw⟩
  case round =>
    obtain ⟨k, hk, rfl, hu, hb⟩ := hrel
    have hsz := hb.size
    have HU := Lib.hid hu
    clear hu
    by_cases h8 : k < 8
    · have hlen := lenB_len len k
      go_wp2_with fail
      refine (b_WriteByte w.heap.size w.heap.size _ _ _ (.inr HU.out) (by rw [Lib.byteCells_length, List.length_append, hlen]; omega) hsz).mono ?_
      rintro e w5 ⟨rfl, h5, hb5⟩
      have H5 := Lib.hid h5
      clear h5
      go_wp2_with fail
      go_roundw
      case measure => simp [intOf]; omega
      case rel =>
        refine ⟨k + 1, by omega, by go_num, ?_, hb.trans hb5⟩
        have := H5.out
        rw [show lenB len (k + 1) = lenB len k ++ [UInt8.ofNat (len * 8 / 2 ^ (8 * (7 - k)) % 256)] from rfl, ← List.append_assoc, byteCells_snoc1 _ _ (Nat.mod_lt _ (by decide))]
        exact this
    · have h8' : k = 8 := by omega
      subst h8'
      go_wp2_with fail
      refine (Tryd.Builder_String_any_f w.heap.size w.heap.size _ _ (.inr HU.out) hsz).mono ?_
      rintro e w5 ⟨rfl, _, hb5⟩
      go_wp2_with fail
      go_ret
      exact ⟨by rw [EP.out]; rfl, hb.trans hb5⟩
end Go.Proofs.YthfmmememdlekaaDoor
