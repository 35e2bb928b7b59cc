/- Contracts: FormsNames at any name. -/
import Derived.Test.YthfmmememdlekaaDoorFmNm5
set_option linter.unusedVariables false
set_option linter.unusedSimpArgs false
namespace Go.Proofs.YthfmmememdlekaaDoor
open Go.RowKit Num

def AnyEnd (w : World) (e : Ending) (w' : World) : Prop := ∃ A n c p q, e = .returned (.tuple #[.agg #[.slice A n c], .int .i64 p, .int .i64 q]) ∧ Below w.heap.size w w'
theorem f_Parse_any (s : ByteArray) (w : World) (hl : LibOk w) (h : s.size ≤ 60) : Calls Tryd.prog 8 #[.string ((⟨#[115, 97, 121, 115, 32]⟩ : ByteArray) ++ s ++ ⟨#[32, 34, 120, 34, 32, 111, 102, 32, 49]⟩)] w (AnyEnd w) := by
  have h2 := f_Parse ((⟨#[115, 97, 121, 115, 32]⟩ : ByteArray) ++ s ++ ⟨#[32, 34, 120, 34, 32, 111, 102, 32, 49]⟩) w (by have := blOf_len ((⟨#[115, 97, 121, 115, 32]⟩ : ByteArray) ++ s ++ ⟨#[32, 34, 120, 34, 32, 111, 102, 32, 49]⟩); rw [says_blOf] at this; have h3 := blOf_len s; simp only [List.length_append, List.length_cons, List.length_nil] at this; omega) hl
  refine h2.mono ?_
  rintro e w1 ⟨v, rfl, ⟨A, n, c, rfl, -⟩, hb⟩
  exact ⟨A, n, c, _, _, rfl, hb⟩
set_option maxRecDepth 100000 in
set_option maxHeartbeats 8000000 in
theorem f_names_bad (s : ByteArray) (k : Nat) (w : World) (hk : k < 256) (hl : LibOk w) (h : s.size ≤ 60) (hn : nameB (blOf s) = false) : Calls Tryd.prog 4 #[.string s, .int .u8 (k : Int)] w (AwkEnd w) := by
  have z1 : ¬ (60 : Int) < (s.size : Int) := by omega
  have HL := Lib.hid hl
  have HN := Lib.hid hn
  clear hl hn
  go_enter Tryd.func4, Tryd.ntmps4
  go_wp2_with fail
  refine (f_Parse_any s _ HL.out h).mono ?_
  rintro e w1 ⟨A, n, c, p, q, rfl, hb1⟩
  have HB1 := Lib.hid hb1
  have hs1 := hb1.size
  clear hb1
  go_wp2_with fail
  have hnm := f_Name s (w1.alloc (.cells #[.slice A n c] 24)) (by omega)
  rw [HN.out] at hnm
  refine hnm.mono ?_
  rintro e w2 ⟨rfl, hb2⟩
  have hb3 : Below w1.heap.size w1 w2 := ((Below.refl w1.heap.size w1).alloc (Nat.le_refl _) (.cells #[.slice A n c] 24)).trans (hb2.mono (by simp))
  have hs2 := hb3.size
  have HB2 := Lib.hid (HB1.out.trans (hb3.mono hs1))
  clear hb2 hb3 hnm
  have hten : k % 10 = 0 ∨ k % 10 = 1 ∨ k % 10 = 2 ∨ k % 10 = 3 ∨ k % 10 = 4 ∨ k % 10 = 5 ∨ k % 10 = 6 ∨ k % 10 = 7 ∨ k % 10 = 8 ∨ k % 10 = 9 := by omega
  have hB0 := HB2.out.size
  have HLT := Lib.hid (HL.out.later HB2.out)
  rcases hten with hm | hm | hm | hm | hm | hm | hm | hm | hm | hm
  all_goals
    go_wp2_with fail
    refine (f_Parse_own _ _ ?_ ?_ ?_).mono ?_
    · exact HLT.out.later ((Below.refl _ _).alloc (Nat.le_refl _) _)
    · decide
    · first | exact ⟨0, rfl⟩ | exact ⟨1, rfl⟩ | exact ⟨2, rfl⟩ | exact ⟨3, rfl⟩ | exact ⟨4, rfl⟩ | exact ⟨5, rfl⟩ | exact ⟨6, rfl⟩ | exact ⟨7, rfl⟩ | exact ⟨8, rfl⟩ | exact ⟨9, rfl⟩
    rintro e w3 ⟨A3, n3, c3, rfl, hb4⟩
    have hs4 := hb4.size
    simp at hs4
    have HB4 := Lib.hid (HB2.out.trans (((Below.refl w2.heap.size w2).alloc (Nat.le_refl _) _).trans (hb4.mono (by simp))|>.mono hB0))
    clear hb4
    go_wp2_with fail
    refine (f_Name_own _ _ ?_ ?_).mono ?_
    · decide
    · first | exact ⟨0, rfl⟩ | exact ⟨1, rfl⟩ | exact ⟨2, rfl⟩ | exact ⟨3, rfl⟩ | exact ⟨4, rfl⟩ | exact ⟨5, rfl⟩ | exact ⟨6, rfl⟩ | exact ⟨7, rfl⟩ | exact ⟨8, rfl⟩ | exact ⟨9, rfl⟩
    rintro e w4 ⟨rfl, hb5⟩
    have HB5 := Lib.hid (HB4.out.trans (((Below.refl w3.heap.size w3).alloc (Nat.le_refl _) (.cells #[.slice A3 n3 c3] 24)).trans (hb5.mono (by simp))|>.mono (by omega)))
    clear hb5
    go_wp2_with fail
    refine (f_awake _ (HL.out.later HB5.out)).mono ?_
    rintro e w5 ⟨rfl, hb6⟩
    have HB6 := Lib.hid (HB5.out.trans (hb6.mono HB5.out.size))
    clear hb6
    go_wp2_with fail
    go_ret
    exact ⟨rfl, HB6.out⟩
theorem f_names_all (s : ByteArray) (k : Nat) (w : World) (hk : k < 256) (hl : LibOk w) : Calls Tryd.prog 4 #[.string s, .int .u8 (k : Int)] w (AwkEnd w) := by
  by_cases h : 60 < s.size
  · exact f_names_long s k w hl h
  · cases hn : nameB (blOf s)
    · exact f_names_bad s k w hk hl (by omega) hn
    · exact f_names_good s k w hk hl (by omega) hn
end Go.Proofs.YthfmmememdlekaaDoor
