/- Words for memory: what reading a condition comes to. -/
import Derived.Test.YthfmmememdlekaaGreatDoorP17
import Derived.Test.YthfmmememdlekaaGreatDoorP09
set_option linter.unusedVariables false
set_option linter.unusedSimpArgs false
namespace Go.Proofs.YthfmmememdlekaaGreatDoor
open Go.RowKit Num

def NewS (w w' : World) (c : Nat) : Prop := w.heap.size ≤ c ∧ c < w'.heap.size
def CondPost (w : World) (rb : Nat) (s : ByteArray) (f : Nat) (pr : PR) (e : Ending) (w' : World) : Prop :=
  w.grownBy w' (some rb) ∧ match pr with
    | .bad q => e = .panicked (wrongCh (posR s q : Int))
    | .ok [T] q => ∃ v, e = .returned v ∧ Rd w' rb s q ∧ TreeZ w' (NewS w w') f v T
    | .ok _ _ => False
def ArgsPost (w : World) (rb : Nat) (s : ByteArray) (f : Nat) (pr : PR) (e : Ending) (w' : World) : Prop :=
  w.grownBy w' (some rb) ∧ match pr with
    | .bad q => e = .panicked (wrongCh (posR s q : Int))
    | .ok xs q => ∃ v ps, e = .returned v ∧ Rd w' rb s q ∧ w'.ownsRow w.heap.size 75 1 v xs.length ps ∧ KidZ w' (NewS w w') f ps xs
abbrev tz (k n y : Int) (f x : ByteArray) (u : Value) : Array Value := #[.int .i64 k, .int .i64 n, .int .i64 y, .string f, .string x, .slice none 0 0, u]
theorem tz_tree {w w' : World} {bt f m : Nat} {k n y : Int} {fd x : ByteArray} {u : Value} {xs : List Tree} {ps : List Value} (hb : Blk w' bt 115 (tz k n y fd x u)) (hlo : w.heap.size ≤ bt)
    (ho : w'.ownsRow w.heap.size 75 1 u m ps) (hm : m = xs.length) (hk : KidZ w' (NewS w w') f ps xs) : TreeZ w' (NewS w w') (f + 1) (.pointer (some ⟨bt, 0, none⟩)) (.node (mkT k n y fd x) xs) := by
  have hlt := hb.lt
  obtain ⟨A, j, c, rfl, hn, hc⟩ : ∃ A j c, u = .slice A j c ∧ j = m ∧ j ≤ c := by
    rcases ho.2 with ⟨h1, h2⟩ | ⟨g, cap, cur, h1, _, _, h2, _⟩
    · exact ⟨_, _, _, h1, h2.symm, Nat.le_refl _⟩
    · exact ⟨_, _, _, h1, rfl, h2⟩
  refine ⟨bt, rfl, ⟨hlo, hlt⟩, ⟨hb.cell 0, hb.cell 1, hb.cell 2, hb.cell 3, hb.cell 4, hb.cell 5, rfl⟩, A, j, c, hb.cell 6, by omega, hc, fun hpos => ?_⟩
  obtain ⟨g, cap, hv, _⟩ := ho.form (by omega)
  injection hv with h1 _ _
  subst h1
  have hg := ho.lt g rfl
  refine ⟨g, 0, rfl, hg, fun i t hx => ?_⟩
  obtain ⟨p, hp, ht⟩ := hk i t hx
  refine ⟨p, ?_, ht⟩
  have := ho.cells (g := g) rfl i p hp
  rw [Nat.zero_add]
  have ha : (⟨g, 0, none⟩ : Addr).add i = ⟨g, i, none⟩ := by unfold Addr.add; split <;> simp_all
  rwa [ha] at this
theorem tz_leaf {w w' : World} {bt f : Nat} {k n y : Int} {fd x : ByteArray} (hb : Blk w' bt 115 (tz k n y fd x (.slice none 0 0))) (hlo : w.heap.size ≤ bt) :
    TreeZ w' (NewS w w') (f + 1) (.pointer (some ⟨bt, 0, none⟩)) (.node (mkT k n y fd x) []) :=
  tz_tree (ps := []) hb hlo (World.ownsRow_nil _ _ _ _) rfl (fun i t hx => by simp at hx)
theorem kindB_le (w : List UInt8) : kindB w ≤ 8 := by
  have : ∀ L : List (List UInt8), idxB w L < L.length := by
    intro L
    induction L with
    | nil => simp [idxB]
    | cons x r ih => unfold idxB; split; · simp <;> omega
                     · split
                       · simp <;> omega
                       · simp <;> omega
  have := this nmB
  show idxB w nmB ≤ 8
  have e : nmB.length = 9 := rfl
  omega
end Go.Proofs.YthfmmememdlekaaGreatDoor
