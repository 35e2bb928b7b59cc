/- Contracts: awake of chapter 31. -/
import Derived.Test.YthfmmememdlekaaDoorOrBat
import Derived.ArgAppend
set_option linter.unusedVariables false
set_option linter.unusedSimpArgs false
namespace Go.Proofs.YthfmmememdlekaaDoor
open Go.RowKit Num

def AwkO (w : World) (e : Ending) (w' : World) : Prop := e = .returned (.bool true) ∧ Below w.heap.size w w'
theorem o_Slot13 (w : World) : Calls Tryd.prog 11 #[.int .i64 13, .int .i64 5] w fun e w' => e = .returned (.tuple #[.int .i64 15, .int .i64 0]) ∧ w = w' := o_Slot 13 5 15 w (by omega) (by omega) (by omega) (by decide)
theorem o_Slot15 (w : World) : Calls Tryd.prog 11 #[.int .i64 15, .int .i64 5] w fun e w' => e = .returned (.tuple #[.int .i64 15, .int .i64 0]) ∧ w = w' := o_Slot 15 5 15 w (by omega) (by omega) (by omega) (by decide)
theorem below_none {w w' : World} (h : w.grownBy w' none) : Below w.heap.size w w' := ⟨h.os, h.tape, h.output, h.size, fun k hk => h.block k hk (by intro e; cases e)⟩
abbrev awkT : Obj := .cells #[.int .i64 8, .int .i64 0, .int .i64 0, .string ⟨#[]⟩, .string ⟨#[]⟩, .slice none 0 0] 33
abbrev awkC (g : Nat) : Obj := .cells #[.string ⟨#[]⟩, .int .i64 0, .int .i64 0, .slice none 0 0, .slice (some ⟨g, 0, none⟩) 1 1, .slice none 0 0] 44
theorem awk_at (w : World) : AlwAt ((w.alloc awkT).alloc (awkC w.heap.size)) (some ⟨w.heap.size + 1, 0, none⟩) (some ⟨w.heap.size, 0, none⟩) 1 := by
  have h0 : Blk ((w.alloc awkT).alloc (awkC w.heap.size)) w.heap.size 33 #[.int .i64 8, .int .i64 0, .int .i64 0, .string ⟨#[]⟩, .string ⟨#[]⟩, .slice none 0 0] := (Blk.new w _ _).alloc _
  have h1 : Blk ((w.alloc awkT).alloc (awkC w.heap.size)) (w.heap.size + 1) 44 #[.string ⟨#[]⟩, .int .i64 0, .int .i64 0, .slice none 0 0, .slice (some ⟨w.heap.size, 0, none⟩) 1 1, .slice none 0 0] := by
    have := Blk.new (w.alloc awkT) 44 #[.string ⟨#[]⟩, .int .i64 0, .int .i64 0, .slice none 0 0, .slice (some ⟨w.heap.size, 0, none⟩) 1 1, .slice none 0 0]
    rwa [World.size_alloc] at this
  have hs : ((w.alloc awkT).alloc (awkC w.heap.size)).heap.size = w.heap.size + 2 := by simp
  refine ⟨w.heap.size + 1, 0, rfl, by omega, h1.cell 0, h1.cell 1, h1.cell 2, h1.cell 3, h1.cell 4, h1.cell 5, ?_, ?_⟩
  · refine ⟨_, 1, 1, rfl, rfl, Nat.le_refl _, fun _ => ⟨w.heap.size, 0, rfl, by show w.heap.size < _; omega, fun k hk => ?_⟩⟩
    obtain rfl : k = 0 := by omega
    refine ⟨h0.cell 0, h0.cell 1, h0.cell 2, h0.cell 3, h0.cell 4, _, h0.cell 5, none, 0, 0, rfl, rfl, Nat.le_refl _, fun h => absurd h (by omega)⟩
  · intro _
    refine ⟨w.heap.size, 0, rfl, by omega, fun k hk => ?_⟩
    obtain rfl : k = 0 := by omega
    exact ⟨_, _, _, _, _, h0.cell 0, h0.cell 1, h0.cell 2, h0.cell 3, h0.cell 4, h0.cell 5⟩
theorem awk_cells (w : World) (g : Nat) : ∀ j u, ([.string ⟨#[]⟩, .int .i64 0, .int .i64 0, .slice none 0 0, .slice (some ⟨g, 0, none⟩) 1 1, .slice none 0 0] : List Value)[j]? = some u → ((w.alloc awkT).alloc (awkC g)).cell? ((⟨w.heap.size + 1, 0, none⟩ : Addr).add j) = some u := by
  have := cell_six_new (w.alloc awkT) (.string ⟨#[]⟩) (.int .i64 0) (.int .i64 0) (.slice none 0 0) (.slice (some ⟨g, 0, none⟩) 1 1) (.slice none 0 0) 44
  rwa [World.size_alloc] at this
set_option maxRecDepth 100000 in
set_option maxHeartbeats 4000000 in
theorem o_awake (w : World) : Calls Tryd.prog 12 #[] w (AwkO w) := by
  obtain ⟨i0, hi, hz0, hz1, hz2⟩ := info_parts infoSt
  have hal := awk_at w
  have hba : Below w.heap.size w ((w.alloc awkT).alloc (awkC w.heap.size)) := ((Below.refl _ _).alloc (Nat.le_refl _) _).alloc (by simp) _
  have hcs := awk_cells w w.heap.size
  have HAL := Lib.hid hal
  have HBA := Lib.hid hba
  have HCS := Lib.hid hcs
  clear hal hba hcs
  go_enter Tryd.func12, Tryd.ntmps12
  go_wp2_with fail
  refine (o_Slot13 _).mono ?_
  rintro e w1 ⟨rfl, rfl⟩
  go_wp2_with fail
  refine (o_Slot15 _).mono ?_
  rintro e w1 ⟨rfl, rfl⟩
  go_wp2_with (at_builtin; refine wpList_append_grows _ rfl _ _ 40 rfl 44 i0 (.agg #[.string ⟨#[]⟩, .int .i64 0, .int .i64 0, .slice none 0 0, .slice none 0 0, .slice none 0 0]) 6 104 Tryd.underlying40 hi hz0 hz1 hz2 rfl (by decide) (some ⟨w.heap.size + 1, 0, none⟩) 1 1 [.string ⟨#[]⟩, .int .i64 0, .int .i64 0, .slice none 0 0, .slice (some ⟨w.heap.size, 0, none⟩) 1 1, .slice none 0 0] rfl (fun h => by cases h) rfl (fun b hb => by cases hb; exact HCS.out) ⟨w.heap.size + 1, 0, none⟩ 1 1 [.string ⟨#[]⟩, .int .i64 0, .int .i64 0, .slice none 0 0, .slice (some ⟨w.heap.size, 0, none⟩) 1 1, .slice none 0 0] rfl rfl HCS.out (by intro u hu; simp at hu; rcases hu with rfl | rfl | rfl | rfl | rfl | rfl <;> rfl) (by omega) (by unfold maxLen; omega) (by omega) ?_)
  intro v3 w3 hown3 hgrow3
  have hb3 : Below ((w.alloc awkT).alloc (awkC w.heap.size)).heap.size ((w.alloc awkT).alloc (awkC w.heap.size)) w3 := below_none hgrow3
  have hAL3 := HAL.out.later hb3
  have hB3 := HBA.out.trans (hb3.mono (by simp; omega))
  obtain ⟨g3, c3, hv3, hg3, hg3l⟩ := World.ownsRow.form hown3 (by omega)
  subst hv3
  have hcap3 : 2 ≤ c3 := by
    rcases hown3.2 with ⟨h, _⟩ | ⟨g, cap, cur, h, _, _, hc, _⟩
    · cases h
    · injection h with _ _ h; omega
  obtain ⟨b', off', hA', hbb, x0, x1, x2, x3, x4, x5, hTs, hTN⟩ := id hAL3
  have hst : ∀ i, i < 2 → StmAt w3 g3 (0 + i * 6) 0 := by
    intro i hi
    rcases (show i = 0 ∨ i = 1 by omega) with rfl | rfl
    · exact ⟨⟨#[]⟩, 0, some ⟨w.heap.size, 0, none⟩, 1, 1, own_cell hown3 0 _ rfl, own_cell hown3 1 _ rfl, own_cell hown3 2 _ rfl, own_cell hown3 3 _ rfl, own_cell hown3 4 _ rfl, own_cell hown3 5 _ rfl, hTN, by omega⟩
    · exact ⟨⟨#[]⟩, 0, some ⟨w.heap.size, 0, none⟩, 1, 1, own_cell hown3 6 _ rfl, own_cell hown3 7 _ rfl, own_cell hown3 8 _ rfl, own_cell hown3 9 _ rfl, own_cell hown3 10 _ rfl, own_cell hown3 11 _ rfl, hTN, by omega⟩
  have HST := Lib.hid hst
  have HA3 := Lib.hid hAL3
  have HB3 := Lib.hid hB3
  clear hb3 hAL3 hB3 hst x0 x1 x2 x3 x4 x5 hTs hTN hA' hbb hown3 hgrow3 HAL HBA HCS
  go_wp2_with fail
  refine (o_Batches (some ⟨g3, 0, none⟩) g3 0 2 c3 1 (fun _ => 0) w3 (by omega) (by omega) (by omega) hcap3 (fun _ => rfl) hg3l HST.out).mono ?_
  rintro e w4 ⟨v4, outs, xs, rfl, ho4, -, hb4⟩
  rw [show chQ 2 1 = 2 by decide] at ho4
  obtain ⟨A4, c4, rfl⟩ := own_slice ho4
  have HA4 := Lib.hid (HA3.out.later hb4)
  have HB4 := Lib.hid (HB3.out.trans (hb4.mono HB3.out.size))
  clear ho4 hb4 HA3 HST HB3
  go_wp2_with fail
  refine (a_Sort _ _ _ _ _ HA4.out).mono ?_
  rintro e w5 ⟨g5, c5, rfl, hb5⟩
  have hAL5 := HA4.out.later hb5
  have HA5 := Lib.hid hAL5
  have HB5 := Lib.hid (HB4.out.trans (hb5.mono HB4.out.size))
  obtain ⟨b6, off6, hA6, hbb6, x0, x1, x2, x3, x4, x5, hTs, -⟩ := hAL5
  injection hA6 with hA6
  injection hA6 with hb6 ho6
  subst hb6
  subst ho6
  have HTS := Lib.hid hTs
  clear hb5 HA4 HB4 hTs
  go_wp2_with fail
  refine (a_Rank _ _ _ HTS.out).mono ?_
  rintro e w6 ⟨r, rfl, hr, hb6⟩
  have HA6 := Lib.hid (HA5.out.later hb6)
  have HB6 := Lib.hid (HB5.out.trans (hb6.mono HB5.out.size))
  have hrz : ((r.size : Nat) : Int) = 32 := by rw [hr]; rfl
  clear hb6 HA5 HB5 x0 x1 x2 x3 x4 x5 HTS
  go_wp2_with fail
  refine (a_Sorted _ _ _ _ _ HA6.out).mono ?_
  rintro e w7 ⟨rfl, hb7⟩
  have HB7 := Lib.hid (HB6.out.trans (hb7.mono HB6.out.size))
  clear hb7
  go_wp2_with fail
  go_ret
  exact ⟨rfl, HB7.out⟩
end Go.Proofs.YthfmmememdlekaaDoor
