/- The reference's texts of terms, its names and its test of a term. -/
import Derived.Test.YtgeahbmaeaoeeaaGreatDoorQ19
import Derived.Lib.Fields
import Derived.Test.YtgeahbmaeaoeeaaGreatDoorQ07
import Derived.Test.YtgeahbmaeaoeeaaGreatDoorShelfF
import Derived.Test.YtgeahbmaeaoeeaaGreatDoorQ13
set_option linter.unusedVariables false
set_option linter.unusedSimpArgs false
namespace Go.Proofs.YtgeahbmaeaoeeaaGreatDoor
open Go.RowKit Num

end Go.Proofs.YtgeahbmaeaoeeaaGreatDoor
namespace Go.Proofs.YtgeahbmaeaoeeaaGreatDoor
open Go.RowKit Num

/-- Go's table of spaces is as the library lays it. -/
def SpcOk (w : World) : Prop := Lib.TabIs Tryz.prog w "strings.asciiSpace" .u8 Lib.asciiSpaceTab
def resT : List UInt8 := [97, 108, 108, 32, 97, 110, 121, 32, 114, 101, 112, 111, 114, 116, 101, 114, 115, 32, 100, 101, 112, 97, 114, 116, 109, 101, 110, 116, 115, 32, 121, 101, 97, 114, 115, 32, 119, 105, 116, 104, 105, 110, 32, 110, 111, 116, 102, 105, 114, 115, 116, 32, 115, 97, 121, 115, 32, 97, 108, 119, 97, 121, 115, 32, 111, 102]
theorem res_fields : Lib.fields resT = resB := by decide
theorem res_ascii : ∀ (j : Nat) b, resT[j]? = some b → b.toNat < 128 := by
  intro j b h
  have : ∀ b ∈ resT, b.toNat < 128 := by decide
  exact this b (List.mem_of_getElem? h)
end Go.Proofs.YtgeahbmaeaoeeaaGreatDoor
namespace Go.Proofs.YtgeahbmaeaoeeaaGreatDoor
open Go.RowKit Num

/-- The reference's test of a term. -/
def rtermB (t : Trm) : Bool :=
  let counted := betwB t.num 64
  let plain := decide (t.yrs = 0 ∧ t.field.size = 0 ∧ t.text.size = 0)
  if t.kind = 1 ∨ t.kind = 2 then decide (2 ≤ t.args.length) && decide (t.num = 0) && plain
  else if t.kind = 3 ∨ t.kind = 4 then decide (t.args.length = 0) && counted && plain
  else if t.kind = 5 then decide (t.args.length = 0) && counted && decide (0 ≤ t.yrs ∧ t.yrs ≤ 100) && decide (t.field.size = 0 ∧ t.text.size = 0)
  else if t.kind = 6 ∨ t.kind = 8 then decide (t.args.length = 0) && decide (t.num = 0) && plain
  else if t.kind = 7 then decide (t.args.length = 0) && counted && decide (t.yrs = 0) && nameB (blOf t.field) && betwB t.text.size 256 && !(blOf t.text).contains 34
  else false
theorem rterm_eq (t : Trm) : rtermB t = (bareB t && argsOk t) := by
  have hsev : severalB t.kind = decide (t.kind = 1 ∨ t.kind = 2) := rfl
  rw [Bool.eq_iff_iff]
  unfold rtermB bareB argsOk
  rw [hsev]
  simp only
  by_cases c1 : t.kind = 1 ∨ t.kind = 2
  · have c1' : t.kind = 1 ∨ t.kind = 2 ∨ t.kind = 6 ∨ t.kind = 8 := by omega
    rw [if_pos c1, if_pos c1']
    simp only [c1, Bool.and_eq_true, decide_eq_true_eq, decide_true, beq_iff_eq, ne_eq]
    constructor
    · rintro ⟨⟨h1, h2⟩, h3, h4, h5⟩
      exact ⟨⟨h2, h3, h4, h5⟩, (decide_eq_true (by omega : 0 < t.args.length)).symm, by omega⟩
    · rintro ⟨⟨h2, h3, h4, h5⟩, h6, h7⟩
      have := of_decide_eq_true h6.symm
      exact ⟨⟨by omega, h2⟩, h3, h4, h5⟩
  · rw [if_neg c1]
    have hs : decide (t.kind = 1 ∨ t.kind = 2) = false := decide_eq_false c1
    rw [hs]
    have harg : ((false == decide (0 < t.args.length)) && decide (t.args.length ≠ 1)) = true ↔ t.args.length = 0 := by
      simp only [Bool.and_eq_true, beq_iff_eq, decide_eq_true_eq]
      constructor
      · rintro ⟨h1, _⟩
        have := of_decide_eq_false h1.symm
        omega
      · intro h
        exact ⟨(decide_eq_false (by omega)).symm, by omega⟩
    rw [Bool.and_eq_true, harg]
    by_cases c3 : t.kind = 3 ∨ t.kind = 4
    · rw [if_pos c3, if_neg (by omega), if_pos c3]
      simp only [Bool.and_eq_true, decide_eq_true_eq]
      constructor
      · rintro ⟨⟨h1, h2⟩, h3⟩; exact ⟨⟨h2, h3⟩, h1⟩
      · rintro ⟨⟨h2, h3⟩, h1⟩; exact ⟨⟨h1, h2⟩, h3⟩
    · rw [if_neg c3]
      by_cases c5 : t.kind = 5
      · rw [if_pos c5, if_neg (by omega), if_neg c3, if_pos c5]
        simp only [Bool.and_eq_true, decide_eq_true_eq]
        constructor
        · rintro ⟨⟨⟨h1, h2⟩, h3⟩, h4⟩; exact ⟨⟨h2, h3.1, h3.2, h4.1, h4.2⟩, h1⟩
        · rintro ⟨⟨h2, h3, h4, h5, h6⟩, h1⟩; exact ⟨⟨⟨h1, h2⟩, h3, h4⟩, h5, h6⟩
      · rw [if_neg c5]
        by_cases c6 : t.kind = 6 ∨ t.kind = 8
        · rw [if_pos c6, if_pos (by omega)]
          simp only [Bool.and_eq_true, decide_eq_true_eq]
          constructor
          · rintro ⟨⟨h1, h2⟩, h3⟩; exact ⟨⟨h2, h3⟩, h1⟩
          · rintro ⟨⟨h2, h3⟩, h1⟩; exact ⟨⟨h1, h2⟩, h3⟩
        · rw [if_neg c6]
          by_cases c7 : t.kind = 7
          · rw [if_pos c7, if_neg (by omega), if_neg c3, if_neg c5, if_pos c7]
            simp only [Bool.and_eq_true, decide_eq_true_eq]
            constructor
            · rintro ⟨⟨⟨⟨⟨h1, h2⟩, h3⟩, h4⟩, h5⟩, h6⟩; exact ⟨⟨⟨⟨⟨h2, h4⟩, h5⟩, h6⟩, h3⟩, h1⟩
            · rintro ⟨⟨⟨⟨⟨h2, h4⟩, h5⟩, h6⟩, h3⟩, h1⟩; exact ⟨⟨⟨⟨⟨h1, h2⟩, h3⟩, h4⟩, h5⟩, h6⟩
          · rw [if_neg c7, if_neg (by omega), if_neg c3, if_neg c5, if_neg c7]
            simp
/-- What the reference's walk gives: the number of the term behind, or -1. -/
def walkI (o : Option (Tree × Nat)) : Int := match o with
  | none => -1
  | some (_, n) => (n : Int)
theorem walk_whole {L : List Trm} : (decide (1 ≤ L.length) && decide (L.length ≤ 24) && decide (walkI (growF L 6 0) = (L.length : Int))) = (rootF L).isSome := by
  unfold rootF
  by_cases h24 : L.length ≤ 24
  · rw [if_pos h24]
    rcases hg : growF L 6 0 with _ | ⟨T, n⟩
    · have e : walkI (none : Option (Tree × Nat)) = -1 := rfl
      rw [e]
      have : ¬ (-1 : Int) = (L.length : Int) := by omega
      simp [this]
    · have e : walkI (some (T, n)) = (n : Int) := rfl
      rw [e]
      have h1 := (flat_grow 6 hg).2
      by_cases hn : n = L.length
      · simp only [hn, if_true]
        have : 1 ≤ L.length := by omega
        simp [h24, this]
      · simp only [if_neg hn]
        have : ¬ (n : Int) = (L.length : Int) := by omega
        simp [this]
  · rw [if_neg h24]
    simp [h24]
end Go.Proofs.YtgeahbmaeaoeeaaGreatDoor
namespace Go.Proofs.YtgeahbmaeaoeeaaGreatDoor
open Go.RowKit Num

/-- No years, no field, no text. -/
def plainB (y : Int) (f x : ByteArray) : Bool := decide (y = 0 ∧ f.size = 0 ∧ x.size = 0)
theorem ne_empty {s : ByteArray} (h : s.size ≠ 0) : (s.toList == []) = false ∧ ¬ s.toList = [] ∧ (!s.toList.isEmpty) = true := by
  rw [ByteArray.toList_eq]
  cases hl : s.data.toList with
  | nil => exact absurd (by rw [← blOf_len]; show s.data.toList.length = 0; rw [hl]; rfl) h
  | cons a r => exact ⟨rfl, by simp, rfl⟩
theorem eq_empty {s : ByteArray} (h : s.size = 0) : s = ⟨#[]⟩ := blOf_inj (List.eq_nil_of_length_eq_zero (by rw [blOf_len]; exact h))
end Go.Proofs.YtgeahbmaeaoeeaaGreatDoor
