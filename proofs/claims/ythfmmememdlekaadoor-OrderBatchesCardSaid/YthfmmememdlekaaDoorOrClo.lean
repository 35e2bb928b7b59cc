/- Contracts: slices.Clone of no elements; copies of terms without numbers, and of conditions. -/
import Derived.Test.YthfmmememdlekaaDoorFmMem
import Derived.Test.YthfmmememdlekaaDoorFmGroM
import Derived.Test.YthfmmememdlekaaDoorFmFlt
import Derived.Lib.SliceRun
set_option linter.unusedVariables false
set_option linter.unusedSimpArgs false
namespace Go.Proofs.YthfmmememdlekaaDoor
open Go.RowKit Num

set_option maxHeartbeats 400000 in
theorem s_CloneA0 (w : World) : Calls Tryd.prog 48 #[.slice none 0 0] w fun e w' => e = .returned (.slice none 0 0) ∧ w = w' := by
  have q41 := fun (W : World) => Lib.run_eql_slice_nil (P := Tryd.prog) W 41 104 none 0 0 0 0 Tryd.underlying41
  go_enter Tryd.func48, Tryd.ntmps48
  go_wp2_with fail
  go_ret
  exact ⟨rfl, rfl⟩
set_option maxHeartbeats 400000 in
theorem s_CloneS0 (w : World) : Calls Tryd.prog 50 #[.slice none 0 0] w fun e w' => e = .returned (.slice none 0 0) ∧ w = w' := by
  have q41 := fun (W : World) => Lib.run_eql_slice_nil (P := Tryd.prog) W 42 108 none 0 0 0 0 Tryd.underlying42
  go_enter Tryd.func50, Tryd.ntmps50
  go_wp2_with fail
  go_ret
  exact ⟨rfl, rfl⟩
set_option maxHeartbeats 400000 in
theorem s_CloneI0 (w : World) : Calls Tryd.prog 90 #[.slice none 0 0] w fun e w' => e = .returned (.slice none 0 0) ∧ w = w' := by
  have q41 := fun (W : World) => Lib.run_eql_slice_nil (P := Tryd.prog) W 31 3 none 0 0 0 0 Tryd.underlying31
  go_enter Tryd.func90, Tryd.ntmps90
  go_wp2_with fail
  go_ret
  exact ⟨rfl, rfl⟩
set_option maxRecDepth 100000 in
set_option maxHeartbeats 400000 in
theorem c_term (k n y : Int) (f x : ByteArray) (w : World) : Calls Tryd.prog 71 #[.agg #[.int .i64 k, .int .i64 n, .int .i64 y, .string f, .string x, .slice none 0 0]] w fun e w' => e = .returned (.agg #[.int .i64 k, .int .i64 n, .int .i64 y, .string f, .string x, .slice none 0 0]) ∧ Below w.heap.size w w' := by
  go_enter Tryd.func71, Tryd.ntmps71
  go_wp2_with fail
  refine (s_CloneI0 _).mono ?_
  rintro e w1 ⟨rfl, rfl⟩
  go_wp2_with fail
  have hbk := Blk.new (w.alloc (.cells #[.int .i64 k, .int .i64 n, .int .i64 y, .string f, .string x, .slice none 0 0] 33)) 33 #[.int .i64 k, .int .i64 n, .int .i64 y, .string f, .string x, .slice none 0 0]
  rw [World.size_alloc] at hbk
  have q0 := (hbk.cell 0).trans (show _ = some (Value.int .i64 k) from rfl)
  have q1 := (hbk.cell 1).trans (show _ = some (Value.int .i64 n) from rfl)
  have q2 := (hbk.cell 2).trans (show _ = some (Value.int .i64 y) from rfl)
  have q3 := (hbk.cell 3).trans (show _ = some (Value.string f) from rfl)
  have q4 := (hbk.cell 4).trans (show _ = some (Value.string x) from rfl)
  have q5 := (hbk.cell 5).trans (show _ = some (Value.slice none 0 0) from rfl)
  refine bodyPost_ret (v := .agg #[.int .i64 k, .int .i64 n, .int .i64 y, .string f, .string x, .slice none 0 0]) (by simp [results, Tryd.results71, go_sem, q0, q1, q2, q3, q4, q5]) rfl ⟨rfl, ?_⟩
  exact ((Below.refl _ _).alloc (Nat.le_refl _) _).alloc (by simp) _
/-- A list of terms each of which has no numbers behind it (nil). -/
def TermsN (w : World) (A : Option Addr) (n : Nat) : Prop := 0 < n → ∃ b off, A = some ⟨b, off, none⟩ ∧ b < w.heap.size ∧ ∀ k, k < n → ∃ (kd nm yr : Int) (f x : ByteArray), w.cell? ⟨b, off + k * 6, none⟩ = some (.int .i64 kd) ∧ w.cell? ⟨b, off + k * 6 + 1, none⟩ = some (.int .i64 nm) ∧ w.cell? ⟨b, off + k * 6 + 2, none⟩ = some (.int .i64 yr) ∧ w.cell? ⟨b, off + k * 6 + 3, none⟩ = some (.string f) ∧ w.cell? ⟨b, off + k * 6 + 4, none⟩ = some (.string x) ∧ w.cell? ⟨b, off + k * 6 + 5, none⟩ = some (.slice none 0 0)
def SlcE (w : World) (e : Ending) (w' : World) : Prop := ∃ A n c, e = .returned (.slice A n c) ∧ Below w.heap.size w w'
set_option maxRecDepth 100000 in
set_option maxHeartbeats 1000000 in
theorem c_ListT (A : Option Addr) (n c : Nat) (w : World) (h : TermsN w A n) (hn : n ≤ 1000) : Calls Tryd.prog 70 #[.slice A n c, .func (.func 71) #[] #[]] w (SlcE w) := by
  obtain ⟨i0, hi, hz0, hz1, hz2⟩ := info_parts infoT
  have HT := Lib.hid h
  clear h
  go_enter Tryd.func70, Tryd.ntmps70
  go_wp2_with fail
  go_loopw [5, 7, 10] (fun v5 v7 v10 wr => ∃ (k : Nat) (A5 : Option Addr) (c5 : Nat) (xs : List Value), k ≤ n ∧ v10 = .int .i64 (k : Int) ∧ v5 = .slice A5 k c5 ∧ wr.ownsRow w.heap.size 33 6 v5 k xs ∧ Below w.heap.size w wr) (fun _ _ v10 _ => n - (intOf v10).toNat)
  case atStart => exact ⟨0, none, 0, [], by omega, rfl, rfl, World.ownsRow_nil _ _ _ _, Below.refl _ _⟩
  case round =>
    obtain ⟨k, A5, c5, xs, hk, rfl, rfl, ho, hb⟩ := hrel
    have HO := Lib.hid ho
    have HB := Lib.hid hb
    have hsz := hb.size
    clear ho hb
    by_cases hlt : k < n
    · obtain ⟨b, off, rfl, hbw, hc⟩ := HT.out (by omega)
      obtain ⟨kd, nm, yr, f, x, c0, c1, c2, c3, c4, c5'⟩ := hc k hlt
      have e0 : wr.cell? ⟨b, off + k * 6, none⟩ = _ := (HB.out.cell (p := ⟨b, off + k * 6, none⟩) hbw).trans c0
      have e1 : wr.cell? ⟨b, off + k * 6 + 1, none⟩ = _ := (HB.out.cell (p := ⟨b, off + k * 6 + 1, none⟩) hbw).trans c1
      have e2 : wr.cell? ⟨b, off + k * 6 + 2, none⟩ = _ := (HB.out.cell (p := ⟨b, off + k * 6 + 2, none⟩) hbw).trans c2
      have e3 : wr.cell? ⟨b, off + k * 6 + 3, none⟩ = _ := (HB.out.cell (p := ⟨b, off + k * 6 + 3, none⟩) hbw).trans c3
      have e4 : wr.cell? ⟨b, off + k * 6 + 4, none⟩ = _ := (HB.out.cell (p := ⟨b, off + k * 6 + 4, none⟩) hbw).trans c4
      have e5 : wr.cell? ⟨b, off + k * 6 + 5, none⟩ = _ := (HB.out.cell (p := ⟨b, off + k * 6 + 5, none⟩) hbw).trans c5'
      clear c0 c1 c2 c3 c4 c5' hc
      have zi : (k : Int) < (n : Int) := by omega
      go_wp2_with fail
      refine (c_term kd nm yr f x _).mono ?_
      rintro e w1 ⟨rfl, hb1⟩
      have hb2 : Below w.heap.size w w1 := HB.out.trans (((Below.refl w.heap.size wr).alloc hsz _).trans (hb1.mono (by simp; omega)))
      have ho1 := (HO.out.alloc (.cells #[.int .i64 kd, .int .i64 nm, .int .i64 yr, .string f, .string x, .slice none 0 0] 33)).kept (only_of_below hb1 none) (by cases (Value.slice A5 k c5).ownBlock <;> simp)
      have HB2 := Lib.hid hb2
      have hsz2 := hb2.size
      have HO1 := Lib.hid ho1
      clear hb1 hb2 e0 e1 e2 e3 e4 e5
      go_wp2_with (at_builtin; refine wpList_append_own_at _ rfl _ _ 22 rfl w.heap.size 33 i0 (.agg #[.int .i64 0, .int .i64 0, .int .i64 0, .string ⟨#[]⟩, .string ⟨#[]⟩, .slice none 0 0]) 6 80 Tryd.underlying22 hi hz0 hz1 hz2 rfl (by decide) _ _ _ rfl (ho1.alloc _) ⟨w1.heap.size, 0, none⟩ 1 1 [.int .i64 kd, .int .i64 nm, .int .i64 yr, .string f, .string x, .slice none 0 0] rfl rfl (cell_six_new _ _ _ _ _ _ _ _) (by intro u hu; simp at hu; rcases hu with rfl | rfl | rfl | rfl | rfl | rfl <;> rfl) (by unfold maxLen; omega) (by omega) (by simp; omega) ?_)
      intro v2 w2 hown2 hgrow2 _ _
      obtain ⟨A6, c6, rfl⟩ := own_slice hown2
      have hb3 : Below w.heap.size w w2 := HB2.out.trans (((Below.refl w.heap.size w1).alloc hsz2 _).grown hgrow2 (by simp; omega) (fun g hg => (HO1.out.lt g hg).1))
      have HO2 := Lib.hid hown2
      have HB3 := Lib.hid hb3
      clear hown2 hgrow2 hb3 ho1
      go_wp2_with fail
      go_roundw
      case measure => simp [intOf]; omega
      case rel => exact ⟨k + 1, A6, c6, _, by omega, by go_num, rfl, HO2.out, HB3.out⟩
    · have zi : ¬ (k : Int) < (n : Int) := by omega
      go_wp2_with fail
      go_ret
      exact ⟨_, _, _, rfl, HB.out⟩
set_option maxRecDepth 100000 in
set_option maxHeartbeats 400000 in
theorem c_Condition (A : Option Addr) (n c : Nat) (w : World) (h : TermsN w A n) (hn : n ≤ 1000) : Calls Tryd.prog 49 #[.agg #[.slice A n c]] w fun e w' => ∃ A' n' c', e = .returned (.agg #[.slice A' n' c']) ∧ Below w.heap.size w w' := by
  have hb0 : Below w.heap.size w ((w.alloc (.cells #[.slice A n c] 24)).alloc (.cells #[.slice none 0 0] 24)) := ((Below.refl _ _).alloc (Nat.le_refl _) _).alloc (by simp) _
  have hT2 : TermsN ((w.alloc (.cells #[.slice A n c] 24)).alloc (.cells #[.slice none 0 0] 24)) A n := by
    intro h0
    obtain ⟨b, off, hA, hb, hc⟩ := h h0
    refine ⟨b, off, hA, by simp; omega, fun k hk => ?_⟩
    obtain ⟨kd, nm, yr, f, x, c0, c1, c2, c3, c4, c5⟩ := hc k hk
    exact ⟨kd, nm, yr, f, x, (hb0.cell (p := ⟨b, off + k * 6, none⟩) hb).trans c0, (hb0.cell (p := ⟨b, off + k * 6 + 1, none⟩) hb).trans c1, (hb0.cell (p := ⟨b, off + k * 6 + 2, none⟩) hb).trans c2, (hb0.cell (p := ⟨b, off + k * 6 + 3, none⟩) hb).trans c3, (hb0.cell (p := ⟨b, off + k * 6 + 4, none⟩) hb).trans c4, (hb0.cell (p := ⟨b, off + k * 6 + 5, none⟩) hb).trans c5⟩
  have hbk : Blk ((w.alloc (.cells #[.slice A n c] 24)).alloc (.cells #[.slice none 0 0] 24)) (w.heap.size + 1) 24 #[.slice none 0 0] := by
    have := Blk.new (w.alloc (.cells #[.slice A n c] 24)) 24 #[.slice none 0 0]
    rwa [World.size_alloc] at this
  have HBK := Lib.hid hbk
  have HB0 := Lib.hid hb0
  have HT2 := Lib.hid hT2
  clear hbk hb0 hT2 h
  go_enter Tryd.func49, Tryd.ntmps49
  go_wp2_with fail
  refine (c_ListT A n c _ HT2.out hn).mono ?_
  rintro e w1 ⟨A1, n1, c1, rfl, hb1⟩
  have hbk := HBK.out.below' hb1 HBK.out.lt
  have x0 := (hbk.cell 0).trans (show _ = some (Value.slice none 0 0) from rfl)
  have f0 := hbk.frozen 0
  have HB1 := Lib.hid (HB0.out.trans (hb1.mono HB0.out.size))
  clear hb1 hbk
  go_wp2_with fail
  have e1 : (w1.setCell ⟨w.heap.size + 1, 0, none⟩ (.slice A1 n1 c1)).cell? ⟨w.heap.size + 1, 0, none⟩ = some (.slice A1 n1 c1) := World.cell?_setCell_same w1 ⟨w.heap.size + 1, 0, none⟩ _ x0
  refine bodyPost_ret (v := .agg #[.slice A1 n1 c1]) (by simp [results, Tryd.results49, go_sem, e1]) rfl ⟨_, _, _, rfl, ?_⟩
  exact HB1.out.setCell (by show w.heap.size ≤ w.heap.size + 1; omega) _
end Go.Proofs.YthfmmememdlekaaDoor
