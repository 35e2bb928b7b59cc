/- Contracts: awake. -/
import Derived.Test.YthfmmememdlekaaDoorFmAwk
set_option linter.unusedVariables false
set_option linter.unusedSimpArgs false
namespace Go.Proofs.YthfmmememdlekaaDoor
open Go.RowKit Num

def AwkEnd (w : World) (e : Ending) (w' : World) : Prop := e = .returned (.bool true) ∧ Below w.heap.size w w'
theorem f_Name_what (w : World) : Calls Tryd.prog 10 #[.string ⟨#[119, 104, 97, 116]⟩] w (BoolBel true w) := by
  have h := f_Name ⟨#[119, 104, 97, 116]⟩ w (by show 4 ≤ _; omega)
  rwa [awk_what] at h
theorem f_Name_all (w : World) : Calls Tryd.prog 10 #[.string ⟨#[97, 108, 108]⟩] w (BoolBel false w) := by
  have h := f_Name ⟨#[97, 108, 108]⟩ w (by show 3 ≤ _; omega)
  rwa [awk_all] at h
set_option maxRecDepth 100000 in
set_option maxHeartbeats 400000 in
theorem f_awake (w : World) (hl : LibOk w) : Calls Tryd.prog 9 #[] w (AwkEnd w) := by
  have HL := Lib.hid hl
  clear hl
  go_enter Tryd.func9, Tryd.ntmps9
  go_wp2_with fail
  refine (f_Parse_awk _ HL.out).mono ?_
  rintro e w1 ⟨A, c, rfl, hb1⟩
  have HB1 := Lib.hid hb1
  have hs1 := hb1.size
  clear hb1
  have c1d : (w1.alloc (.cells #[.slice A 5 c] 24)).drew.cell? ⟨w1.heap.size, 0, none⟩ = some (.slice A 5 c) := World.cell?_alloc_new w1 _ _ _
  have KS := Lib.hid (fun (W : World) (hW : Below (w1.heap.size + 1) (w1.alloc (.cells #[.slice A 5 c] 24)) W) => (⟨(hW.cell (p := ⟨w1.heap.size, 0, none⟩) (by simp)).trans (World.cell?_alloc_new w1 _ _ _), Lib.hid hW⟩ : W.cell? ⟨w1.heap.size, 0, none⟩ = some (.slice A 5 c) ∧ Hid (Below (w1.heap.size + 1) (w1.alloc (.cells #[.slice A 5 c] 24)) W)))
  go_wp2_with fail
  refine (f_Name_what _).mono ?_
  rintro e w2 ⟨rfl, hb2⟩
  have hs2 := hb2.size
  have HB2 := Lib.hid (HB1.out.trans (((Below.refl w1.heap.size w1).alloc (Nat.le_refl _) (.cells #[.slice A 5 c] 24)).trans (hb2.mono (by simp))|>.mono hs1))
  clear hb2
  go_wp2_with fail
  refine (f_Name_all _).mono ?_
  rintro e w3 ⟨rfl, hb3⟩
  have HB3 := Lib.hid (HB2.out.trans (hb3.mono (by simp at hs2; omega)))
  clear hb3
  go_wp2_with fail
  go_ret
  exact ⟨rfl, HB3.out⟩
end Go.Proofs.YthfmmememdlekaaDoor
