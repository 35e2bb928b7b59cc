/- Contracts: the order of a list of one statement. -/
import Derived.Test.YthfmmememdlekaaDoorOrRnk
set_option linter.unusedVariables false
set_option linter.unusedSimpArgs false
namespace Go.Proofs.YthfmmememdlekaaDoor
open Go.RowKit Num

set_option maxRecDepth 100000 in
set_option maxHeartbeats 400000 in
theorem s_Ins (v f : Value) (w : World) : Calls Tryd.prog 83 #[v, .int .i64 0, .int .i64 1, f] w fun e w' => e = .returned (.tuple #[]) ∧ w = w' := by
  go_enter Tryd.func83, Tryd.ntmps83
  go_wp2_with fail
  go_loopw [8, 9] (fun v8 _ wr => v8 = .int .i64 1 ∧ w = wr) (fun _ _ _ => 0)
  case atStart => exact ⟨rfl, rfl⟩
  case round =>
    obtain ⟨rfl, rfl⟩ := hrel
    go_wp2_with fail
    go_end0
    exact ⟨rfl, rfl⟩
set_option maxRecDepth 100000 in
set_option maxHeartbeats 400000 in
theorem s_Stable (v f : Value) (w : World) : Calls Tryd.prog 64 #[v, .int .i64 1, f] w fun e w' => e = .returned (.tuple #[]) ∧ w = w' := by
  go_enter Tryd.func64, Tryd.ntmps64
  go_wp2_with fail
  go_loopw [7, 8] (fun v7 v8 wr => v7 = .int .i64 0 ∧ v8 = .int .i64 20 ∧ w = wr) (fun _ _ _ => 0)
  case atStart => exact ⟨rfl, rfl, rfl⟩
  case round =>
    obtain ⟨rfl, rfl, rfl⟩ := hrel
    go_wp2_with fail
    refine (s_Ins v f _).mono ?_
    rintro e w1 ⟨rfl, rfl⟩
    go_wp2_with fail
    go_loopw [6, 7, 8, 9] (fun v6 _ _ _ wr => v6 = .int .i64 20 ∧ w = wr) (fun _ _ _ _ _ => 0)
    case atStart => exact ⟨rfl, rfl⟩
    case round =>
      obtain ⟨rfl, rfl⟩ := hrel
      go_wp2_with fail
      go_end0
      exact ⟨rfl, rfl⟩
set_option maxRecDepth 100000 in
set_option maxHeartbeats 400000 in
theorem s_SortStable (A : Option Addr) (c : Nat) (f : Value) (w : World) : Calls Tryd.prog 42 #[.slice A 1 c, f] w fun e w' => e = .returned (.tuple #[]) ∧ w = w' := by
  go_enter Tryd.func42, Tryd.ntmps42
  go_wp2_with fail
  refine (s_Stable _ f _).mono ?_
  rintro e w1 ⟨rfl, rfl⟩
  go_wp2_with fail
  go_end0
  exact ⟨rfl, rfl⟩
set_option maxRecDepth 100000 in
set_option maxHeartbeats 400000 in
theorem s_IsSorted (A : Option Addr) (c : Nat) (f : Value) (w : World) : Calls Tryd.prog 46 #[.slice A 1 c, f] w fun e w' => e = .returned (.bool true) ∧ w = w' := by
  go_enter Tryd.func46, Tryd.ntmps46
  go_wp2_with fail
  go_loopw [5] (fun v5 wr => v5 = .int .i64 0 ∧ w = wr) (fun _ _ => 0)
  case atStart => exact ⟨rfl, rfl⟩
  case round =>
    obtain ⟨rfl, rfl⟩ := hrel
    go_wp2_with fail
    go_ret
    exact ⟨rfl, rfl⟩
set_option maxRecDepth 100000 in
set_option maxHeartbeats 400000 in
theorem a_Sorted (A At : Option Addr) (c ct : Nat) (w : World) (h : AlwAt w A At ct) : Calls Tryd.prog 29 #[.string xS, .slice A 1 c] w fun e w' => e = .returned (.bool true) ∧ Below w.heap.size w w' := by
  have HA := Lib.hid h
  clear h
  go_enter Tryd.func29, Tryd.ntmps29
  go_wp2_with fail
  refine (a_rank A At c ct _ HA.out).mono ?_
  rintro e w1 ⟨g, gc, r, A', n, ca, rfl, ho, hb⟩
  have HB := Lib.hid hb
  clear ho hb
  go_wp2_with fail
  refine (s_IsSorted _ _ _ _).mono ?_
  rintro e w2 ⟨rfl, rfl⟩
  go_wp2_with fail
  go_ret
  exact ⟨rfl, HB.out⟩
set_option maxRecDepth 100000 in
set_option maxHeartbeats 4000000 in
theorem a_Sort (A At : Option Addr) (c ct : Nat) (w : World) (h : AlwAt w A At ct) : Calls Tryd.prog 27 #[.string xS, .slice A 1 c] w fun e w' => ∃ g gc, e = .returned (.tuple #[.slice (some ⟨g, 0, none⟩) 1 gc, .int .i64 0]) ∧ Below w.heap.size w w' := by
  obtain ⟨i0, hi, hz0, hz1, hz2⟩ := info_parts infoSt
  have HA := Lib.hid h
  clear h
  go_enter Tryd.func27, Tryd.ntmps27
  go_wp2_with fail
  refine (a_rank A At c ct _ HA.out).mono ?_
  rintro e w1 ⟨g, gc, r, A', n, ca, rfl, ho, hb⟩
  have HO := Lib.hid ho
  have HB := Lib.hid hb
  clear ho hb
  go_wp2_with fail
  refine (s_SortStable _ _ _ _).mono ?_
  rintro e w2 ⟨rfl, rfl⟩
  go_wp2_with fail
  go_loopw [8, 10, 27] (fun v8 v10 v27 wr => (v8 = .slice none 0 0 ∧ v27 = .int .i64 0 ∧ w1 = wr) ∨ (∃ (g c : Nat), v27 = .int .i64 1 ∧ v8 = .slice (some ⟨g, 0, none⟩) 1 c ∧ Below w.heap.size w wr)) (fun _ _ v27 _ => 1 - (intOf v27).toNat)
  case atStart => exact .inl ⟨rfl, rfl, rfl⟩
  case round =>
    rcases hrel with ⟨rfl, rfl, rfl⟩ | ⟨g', c', rfl, rfl, hb⟩
    · have e0 := own_cell HO.out 0 (.string ⟨#[]⟩) rfl
      have e1 := own_cell HO.out 1 (.int .i64 0) rfl
      have e2 := own_cell HO.out 2 (.int .i64 0) rfl
      have e3 := own_cell HO.out 3 (.slice none 0 0) rfl
      have e4 := own_cell HO.out 4 (.slice A' n ca) rfl
      have e5 := own_cell HO.out 5 (.slice none 0 0) rfl
      have e6 := own_cell HO.out 6 (.string r) rfl
      have hs1 := HB.out.size
      go_wp2_with (at_builtin; refine wpList_append_own_at _ rfl _ _ 40 rfl w.heap.size 44 i0 (.agg #[.string ⟨#[]⟩, .int .i64 0, .int .i64 0, .slice none 0 0, .slice none 0 0, .slice none 0 0]) 6 104 Tryd.underlying40 hi hz0 hz1 hz2 rfl (by decide) _ _ _ rfl (World.ownsRow_nil _ _ _ _) ⟨w1.heap.size + 1, 0, none⟩ 1 1 [.string ⟨#[]⟩, .int .i64 0, .int .i64 0, .slice none 0 0, .slice A' n ca, .slice none 0 0] rfl rfl (by have := cell_six_new (w1.alloc (.cells #[.string ⟨#[]⟩, .int .i64 0, .int .i64 0, .slice none 0 0, .slice A' n ca, .slice none 0 0, .string r] 96)) (.string ⟨#[]⟩) (.int .i64 0) (.int .i64 0) (.slice none 0 0) (.slice A' n ca) (.slice none 0 0) 44; rwa [World.size_alloc] at this) (by intro u hu; simp at hu; rcases hu with rfl | rfl | rfl | rfl | rfl | rfl <;> rfl) (by unfold maxLen; omega) (by omega) (by simp; omega) ?_)
      intro v3 w3 hown3 hgrow3 _ _
      obtain ⟨g3, gc3, rfl, -, -⟩ := World.ownsRow.form hown3 (by omega)
      have HB3 := Lib.hid (HB.out.trans ((((Below.refl w.heap.size w1).alloc hs1 _).alloc (by simp; omega) _).grown hgrow3 (by simp; omega) (fun g hg => by cases hg)))
      clear hown3 hgrow3 e0 e1 e2 e3 e4 e5 e6
      go_wp2_with fail
      go_roundw
      case measure => simp [intOf]
      case rel => exact .inr ⟨g3, gc3, rfl, rfl, HB3.out⟩
    · have HB3 := Lib.hid hb
      clear hb
      go_wp2_with fail
      go_ret2
      exact ⟨g', c', rfl, HB3.out⟩
end Go.Proofs.YthfmmememdlekaaDoor
