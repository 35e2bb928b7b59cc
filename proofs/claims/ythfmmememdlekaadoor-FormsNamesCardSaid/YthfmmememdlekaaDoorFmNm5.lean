/- Contracts: FormsNames at a good name . -/
import Derived.Test.YthfmmememdlekaaDoorFmNm4
set_option linter.unusedVariables false
set_option linter.unusedSimpArgs false
namespace Go.Proofs.YthfmmememdlekaaDoor
open Go.RowKit Num

theorem own_at (i : Nat) (x : List UInt8) (hx : ownW[i]? = some x) : (parseC ([115, 97, 121, 115, 32] ++ x ++ [32, 34, 120, 34, 32, 111, 102, 32, 49])).2 = (5, 12) ∧ nameB x = false := by
  have h := congrArg (fun l => l[i]?) own_plain
  simp only [List.getElem?_map, hx, Option.map_some] at h
  rw [List.getElem?_replicate] at h
  split at h
  · injection h with h; injection h with h1 h2; exact ⟨h1, h2⟩
  · cases h
def OwnEnd (w : World) (e : Ending) (w' : World) : Prop := ∃ A n c, e = .returned (.tuple #[.agg #[.slice A n c], .int .i64 5, .int .i64 12]) ∧ Below w.heap.size w w'
theorem f_Parse_own (x : ByteArray) (w : World) (hl : LibOk w) (h : x.size ≤ 60) (hx : ∃ i : Nat, ownW[i]? = some (blOf x)) : Calls Tryd.prog 8 #[.string ((⟨#[115, 97, 121, 115, 32]⟩ : ByteArray) ++ x ++ ⟨#[32, 34, 120, 34, 32, 111, 102, 32, 49]⟩)] w (OwnEnd w) := by
  obtain ⟨i, hi⟩ := hx
  have h1 := (own_at i _ hi).1
  rw [← says_blOf x] at h1
  have h2 := f_Parse ((⟨#[115, 97, 121, 115, 32]⟩ : ByteArray) ++ x ++ ⟨#[32, 34, 120, 34, 32, 111, 102, 32, 49]⟩) w (by have := blOf_len ((⟨#[115, 97, 121, 115, 32]⟩ : ByteArray) ++ x ++ ⟨#[32, 34, 120, 34, 32, 111, 102, 32, 49]⟩); rw [says_blOf] at this; have h3 := blOf_len x; simp only [List.length_append, List.length_cons, List.length_nil] at this; omega) hl
  rw [h1] at h2
  refine h2.mono ?_
  rintro e w1 ⟨v, rfl, ⟨A, n, c, rfl, -⟩, hb⟩
  exact ⟨A, n, c, rfl, hb⟩
theorem f_Name_own (x : ByteArray) (w : World) (h : x.size ≤ 60) (hx : ∃ i : Nat, ownW[i]? = some (blOf x)) : Calls Tryd.prog 10 #[.string x] w (BoolBel false w) := by
  obtain ⟨i, hi⟩ := hx
  have h1 := f_Name x w (by omega)
  rwa [(own_at i _ hi).2] at h1
set_option maxRecDepth 100000 in
set_option maxHeartbeats 8000000 in
theorem f_names_good (s : ByteArray) (k : Nat) (w : World) (hk : k < 256) (hl : LibOk w) (h : s.size ≤ 60) (hn : nameB (blOf s) = true) : Calls Tryd.prog 4 #[.string s, .int .u8 (k : Int)] w (AwkEnd w) := by
  have z1 : ¬ (60 : Int) < (s.size : Int) := by omega
  have HL := Lib.hid hl
  have HN := Lib.hid hn
  clear hl hn
  go_enter Tryd.func4, Tryd.ntmps4
  go_wp2_with fail
  refine (f_Parse_says s _ HL.out h HN.out).mono ?_
  rintro e w1 ⟨v, rfl, ⟨A, n, c, rfl, hn1, hnc, hA⟩, hb1⟩
  obtain rfl : n = 1 := hn1
  obtain ⟨b, off, rfl, hbl, hT⟩ := hA (by omega)
  have hf : w1.cell? ⟨b, off + 3, none⟩ = some (.string s) := (hT 0 (by omega)).2.2.2.1
  have HB1 := Lib.hid hb1
  have hs1 := hb1.size
  have HC := Lib.hid (fun (W : World) (hW : Below w1.heap.size w1 W) => (hW.cell (p := ⟨b, off + 3, none⟩) hbl).trans hf)
  clear hb1 hT hA hf
  go_wp2_with fail
  have hnm := f_Name s (w1.alloc (.cells #[.slice (some ⟨b, off, none⟩) 1 c] 24)) (by omega)
  rw [HN.out] at hnm
  refine hnm.mono ?_
  rintro e w2 ⟨rfl, hb2⟩
  have hb3 : Below w1.heap.size w1 w2 := ((Below.refl w1.heap.size w1).alloc (Nat.le_refl _) (.cells #[.slice (some ⟨b, off, none⟩) 1 c] 24)).trans (hb2.mono (by simp))
  have hc0 : w2.cell? ⟨w1.heap.size, 0, none⟩ = some (.slice (some ⟨b, off, none⟩) 1 c) := (hb2.cell (p := ⟨w1.heap.size, 0, none⟩) (by simp)).trans (World.cell?_alloc_new w1 _ _ _)
  have hc3 := HC.out w2 hb3
  have hs2 := hb3.size
  have HB2 := Lib.hid (HB1.out.trans (hb3.mono hs1))
  have c0d : w2.drew.cell? ⟨w1.heap.size, 0, none⟩ = some (.slice (some ⟨b, off, none⟩) 1 c) := hc0
  have c3d : w2.drew.cell? ⟨b, off + 3, none⟩ = some (.string s) := hc3
  clear hb2 hb3 hnm
  have hten : k % 10 = 0 ∨ k % 10 = 1 ∨ k % 10 = 2 ∨ k % 10 = 3 ∨ k % 10 = 4 ∨ k % 10 = 5 ∨ k % 10 = 6 ∨ k % 10 = 7 ∨ k % 10 = 8 ∨ k % 10 = 9 := by omega
  have hB0 := HB2.out.size
  have HLT := Lib.hid (HL.out.later HB2.out)
  rcases hten with hm | hm | hm | hm | hm | hm | hm | hm | hm | hm
  all_goals
    go_wp2_with fail
    refine (f_Parse_own _ _ ?_ ?_ ?_).mono ?_
    · exact HLT.out.later ((Below.refl _ _).alloc (Nat.le_refl _) _)
    · decide
    · first | exact ⟨0, rfl⟩ | exact ⟨1, rfl⟩ | exact ⟨2, rfl⟩ | exact ⟨3, rfl⟩ | exact ⟨4, rfl⟩ | exact ⟨5, rfl⟩ | exact ⟨6, rfl⟩ | exact ⟨7, rfl⟩ | exact ⟨8, rfl⟩ | exact ⟨9, rfl⟩
    rintro e w3 ⟨A3, n3, c3, rfl, hb4⟩
    have hs4 := hb4.size
    simp at hs4
    have HB4 := Lib.hid (HB2.out.trans (((Below.refl w2.heap.size w2).alloc (Nat.le_refl _) _).trans (hb4.mono (by simp))|>.mono hB0))
    clear hb4
    go_wp2_with fail
    refine (f_Name_own _ _ ?_ ?_).mono ?_
    · decide
    · first | exact ⟨0, rfl⟩ | exact ⟨1, rfl⟩ | exact ⟨2, rfl⟩ | exact ⟨3, rfl⟩ | exact ⟨4, rfl⟩ | exact ⟨5, rfl⟩ | exact ⟨6, rfl⟩ | exact ⟨7, rfl⟩ | exact ⟨8, rfl⟩ | exact ⟨9, rfl⟩
    rintro e w4 ⟨rfl, hb5⟩
    have HB5 := Lib.hid (HB4.out.trans (((Below.refl w3.heap.size w3).alloc (Nat.le_refl _) (.cells #[.slice A3 n3 c3] 24)).trans (hb5.mono (by simp))|>.mono (by omega)))
    clear hb5
    go_wp2_with fail
    refine (f_awake _ (HL.out.later HB5.out)).mono ?_
    rintro e w5 ⟨rfl, hb6⟩
    have HB6 := Lib.hid (HB5.out.trans (hb6.mono HB5.out.size))
    clear hb6
    go_wp2_with fail
    go_ret
    exact ⟨rfl, HB6.out⟩
end Go.Proofs.YthfmmememdlekaaDoor
