/- A text in which one byte is changed: some text of the same length. -/
import Derived.Test.YtbgodionpdemeaaDoorCalRef
import Derived.Lib.ConvBytes
import Derived.Lib.AtoiErrMem
set_option linter.unusedVariables false
set_option linter.unusedSimpArgs false
namespace Go.Proofs.YtbgodionpdemeaaDoor
open Go.RowKit Cal

/-- A string result of at most so many bytes. -/
def SomeText (n : Nat) (w : World) (e : Ending) (w' : World) : Prop := ∃ l : List UInt8, l.length = n ∧ e = .returned (.string ⟨l.toArray⟩) ∧ Below w.heap.size w w'

theorem bytes_of (W : World) (l : List UInt8) : (convert 9 42 (.string ⟨l.toArray⟩)).run Tryd.prog W = .ok (.slice (some ⟨W.heap.size, 0, none⟩) l.length (grownCap W l.length 0 5)) (Lib.bytesWorld W 5 ⟨l.toArray⟩) := by
  have h := Lib.run_convert_string_bytes (P := Tryd.prog) W 9 42 5 ⟨l.toArray⟩ Tryd.underlying9 Tryd.underlying42 Tryd.underlying5
  rw [ba_sz] at h
  exact h
theorem byte_cell (W : World) (l : List UInt8) (j : Nat) (hj : j < l.length) : (Lib.bytesWorld W 5 ⟨l.toArray⟩).cell? ⟨W.heap.size, j, none⟩ = some (.int .u8 (l[j].toNat)) := by
  rw [Lib.bytesWorld_cell W 5 ⟨l.toArray⟩ j (by rw [ba_sz]; exact hj)]
  simp [List.getD, hj]
theorem byte_free (W : World) (l : List UInt8) (j : Nat) (hj : j < l.length) : (Lib.bytesWorld W 5 ⟨l.toArray⟩).frozen? ⟨W.heap.size, j, none⟩ = false := by
  have h := byte_cell W l j hj
  have hn := Lib.bytesWorld_at_new W 5 ⟨l.toArray⟩
  have hlt : j < (Lib.bytesCells W 5 ⟨l.toArray⟩).size := by
    simp [World.cell?, hn] at h
    exact (Array.getElem?_eq_some_iff.1 h).1
  simp [World.frozen?, hn]
  omega
theorem byte_back (W : World) (l : List UInt8) (j cap : Nat) (x : Int) (hj : j < l.length) (hx : 0 ≤ x) (hx2 : x < 256) :
    (convert 42 9 (.slice (some ⟨W.heap.size, 0, none⟩) l.length cap)).run Tryd.prog ((Lib.bytesWorld W 5 ⟨l.toArray⟩).setCell ⟨W.heap.size, j, none⟩ (.int .u8 x)) =
      .ok (.string ⟨(l.set j (UInt8.ofNat x.toNat)).toArray⟩) ((Lib.bytesWorld W 5 ⟨l.toArray⟩).setCell ⟨W.heap.size, j, none⟩ (.int .u8 x)) := by
  have h := run_convert_bytes_back (P := Tryd.prog) ((Lib.bytesWorld W 5 ⟨l.toArray⟩).setCell ⟨W.heap.size, j, none⟩ (.int .u8 x)) 42 9 5 ⟨W.heap.size, 0, none⟩ cap (l.set j (UInt8.ofNat x.toNat)) Tryd.underlying42 Tryd.underlying5 Tryd.underlying9 (by
    intro k hk
    rw [List.length_set] at hk
    have hck := byte_cell W l k hk
    rw [show (⟨W.heap.size, 0, none⟩ : Addr).add k = ⟨W.heap.size, k, none⟩ from by simp [Addr.add]; exact fun e => e.symm]
    by_cases e : j = k
    · subst e
      rw [World.cell?_setCell_same _ _ _ hck, List.getElem_set_self, UInt8.toNat_ofNat']
      congr 2; omega
    · rw [World.cell?_setCell_other _ _ _ _ (by intro h; injection h; omega), hck, List.getElem_set_ne e])
  rw [List.length_set] at h
  exact h

set_option maxRecDepth 100000 in
set_option maxHeartbeats 1000000 in
theorem kit_Spoil (l : List UInt8) (i b : Int) (w : World) (h0 : l.length ≠ 0) (hl : l.length ≤ 1000) :
    Calls Tryd.prog 11 #[.string ⟨l.toArray⟩, .int .i64 i, .int .i64 b] w (SomeText l.length w) := by
  have he : l.isEmpty = false := by cases l with | nil => exact absurd rfl h0 | cons _ _ => rfl
  have he2 : (l == []) = false := by cases l with | nil => exact absurd rfl h0 | cons _ _ => rfl
  have hkm := kmod_bd i (m := l.length) (by omega)
  obtain ⟨j, hj⟩ : ∃ j : Nat, kmod i l.length = j := ⟨(kmod i l.length).toNat, by omega⟩
  rw [hj] at hkm
  have HJ := Lib.hid hj
  have hjl : j < l.length := by omega
  have hcv := fun W => bytes_of W l
  have hcell := byte_cell w l j hjl
  have hfree := byte_free w l j hjl
  have hback := fun cap => byte_back w l j cap (((l[j].toNat : Int) + b) % 256) hjl (by omega) (by omega)
  clear hj
  go_enter Tryd.func11, Tryd.ntmps11
  go_wp2_with fail
  refine (kit_Mod _ _ _ (by omega) (by omega)).mono ?_
  rintro e w' ⟨rfl, rfl⟩
  rw [HJ.out]
  go_wp2_with fail
  go_ret
  exact ⟨_, List.length_set, rfl, (Lib.bytesWorld_below _ _ _).setCell (Nat.le_refl _) _⟩

set_option maxHeartbeats 1000000 in
theorem kit_Spoil_nil (i b : Int) (w : World) :
    Calls Tryd.prog 11 #[.string ⟨([] : List UInt8).toArray⟩, .int .i64 i, .int .i64 b] w (SomeText 0 w) := by
  go_enter Tryd.func11, Tryd.ntmps11
  go_wp2_with fail
  go_ret
  exact ⟨[], rfl, rfl, Below.refl _ _⟩
theorem kit_Spoil_any (l : List UInt8) (i b : Int) (w : World) (hl : l.length ≤ 1000) :
    Calls Tryd.prog 11 #[.string ⟨l.toArray⟩, .int .i64 i, .int .i64 b] w (SomeText l.length w) := by
  by_cases h0 : l.length = 0
  · have : l = [] := List.length_eq_zero_iff.1 h0
    subst this
    exact kit_Spoil_nil i b w
  · exact kit_Spoil l i b w h0 hl
end Go.Proofs.YtbgodionpdemeaaDoor
