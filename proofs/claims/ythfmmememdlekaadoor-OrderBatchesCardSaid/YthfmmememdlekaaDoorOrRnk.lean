/- Contracts: the rank of the statement that opens always; a list of one such statement: its ranks, its order. -/
import Derived.Test.YthfmmememdlekaaDoorOrByt
set_option linter.unusedVariables false
set_option linter.unusedSimpArgs false
namespace Go.Proofs.YthfmmememdlekaaDoor
open Go.RowKit Num

theorem infoSt : (Tryd.prog.info? 44).map (fun i => (i.zero, i.size, i.bytes)) = some (some (.agg #[.string ⟨#[]⟩, .int .i64 0, .int .i64 0, .slice none 0 0, .slice none 0 0, .slice none 0 0]), 6, 104) := by kernel_rfl
theorem infoRk : (Tryd.prog.info? 96).map (fun i => (i.zero, i.size, i.bytes)) = some (some (.agg #[.string ⟨#[]⟩, .int .i64 0, .int .i64 0, .slice none 0 0, .slice none 0 0, .slice none 0 0, .string ⟨#[]⟩]), 7, 120) := by kernel_rfl
set_option maxRecDepth 100000 in
set_option maxHeartbeats 400000 in
theorem d_four1 (w : World) : Calls Tryd.prog 69 #[.int .i64 1] w (StrE ⟨#[0, 0, 0, 1]⟩ w) := by
  have hcv := run_convert_bytes_arg (P := Tryd.prog) (w.alloc (.cells #[.int .u8 0, .int .u8 0, .int .u8 0, .int .u8 1] 5)) 130 5 Tryd.underlying130 Tryd.underlying5 w.heap.size 0 4 4 [0, 0, 0, 1] rfl (fun i hi => by
    match i, hi with
    | 0, _ | 1, _ | 2, _ | 3, _ => exact World.cell?_alloc_new w _ _ _) 9 Tryd.underlying9
  go_enter Tryd.func69, Tryd.ntmps69
  go_wp2_with fail
  go_ret
  exact ⟨rfl, (Below.refl _ _).alloc (Nat.le_refl _) _⟩
set_option maxRecDepth 100000 in
set_option maxHeartbeats 400000 in
theorem d_four12 (w : World) : Calls Tryd.prog 69 #[.int .i64 12] w (StrE ⟨#[0, 0, 0, 12]⟩ w) := by
  have hcv := run_convert_bytes_arg (P := Tryd.prog) (w.alloc (.cells #[.int .u8 0, .int .u8 0, .int .u8 0, .int .u8 12] 5)) 130 5 Tryd.underlying130 Tryd.underlying5 w.heap.size 0 4 4 [0, 0, 0, 12] rfl (fun i hi => by
    match i, hi with
    | 0, _ | 1, _ | 2, _ | 3, _ => exact World.cell?_alloc_new w _ _ _) 9 Tryd.underlying9
  go_enter Tryd.func69, Tryd.ntmps69
  go_wp2_with fail
  go_ret
  exact ⟨rfl, (Below.refl _ _).alloc (Nat.le_refl _) _⟩
def xS : ByteArray := ⟨#[120]⟩
def SumE (w : World) (e : Ending) (w' : World) : Prop := ∃ r : ByteArray, e = .returned (.string r) ∧ r.size = 32 ∧ Below w.heap.size w w'
set_option maxRecDepth 100000 in
set_option maxHeartbeats 400000 in
theorem a_Pair (w : World) : Calls Tryd.prog 45 #[.string xS, .string v6S] w (SumE w) := by
  have e1 : ((xS.size : Nat) : Int) = 1 := rfl
  have e2 : ((v6S.size : Nat) : Int) = 12 := rfl
  have n1 : xS.size = 1 := rfl
  have n2 : v6S.size = 12 := rfl
  go_enter Tryd.func45, Tryd.ntmps45
  go_wp2_with fail
  refine (d_four1 _).mono ?_
  rintro e w1 ⟨rfl, hb1⟩
  have HB1 := Lib.hid hb1
  clear hb1
  go_wp2_with fail
  refine (d_four12 _).mono ?_
  rintro e w2 ⟨rfl, hb2⟩
  have HB2 := Lib.hid (HB1.out.trans (hb2.mono HB1.out.size))
  clear hb2
  go_wp2_with fail
  refine (d_Sum _ _ ?_).mono ?_
  · simp only [ByteArray.size_append, n1, n2]; decide
  rintro e w3 ⟨rfl, hb3⟩
  have HB3 := Lib.hid (HB2.out.trans (hb3.mono HB2.out.size))
  clear hb3
  go_wp2_with fail
  go_ret
  exact ⟨_, rfl, shaOf_size _, HB3.out⟩
set_option maxRecDepth 100000 in
set_option maxHeartbeats 400000 in
theorem a_Rank (A : Option Addr) (c : Nat) (w : World) (hv : TermsAt w (· < w.heap.size) (.slice A 1 c) [alwT]) :
    Calls Tryd.prog 28 #[.string xS, alwV A c] w fun e w' => ∃ r : ByteArray, e = .returned (.tuple #[.string r, .int .i64 0]) ∧ r.size = 32 ∧ Below w.heap.size w w' := by
  have hv2 : TermsAt (w.alloc (.cells #[.string ⟨#[]⟩, .int .i64 0, .int .i64 0, .slice none 0 0, .slice A 1 c, .slice none 0 0] 44)) (· < (w.alloc (.cells #[.string ⟨#[]⟩, .int .i64 0, .int .i64 0, .slice none 0 0, .slice A 1 c, .slice none 0 0] 44)).heap.size) (.slice A 1 c) [alwT] := (hv.keep fun b hb => Below.heap_alloc w _ b hb).mono fun b hb => by simp; omega
  have HV := Lib.hid hv2
  clear hv hv2
  go_enter Tryd.func28, Tryd.ntmps28
  go_wp2_with fail
  refine (a_Bytes A c _ HV.out).mono ?_
  rintro e w1 ⟨rfl, hb1⟩
  have HB1 := Lib.hid (((Below.refl w.heap.size w).alloc (Nat.le_refl _) (.cells #[.string ⟨#[]⟩, .int .i64 0, .int .i64 0, .slice none 0 0, .slice A 1 c, .slice none 0 0] 44)).trans (hb1.mono (by simp)))
  clear hb1
  go_wp2_with fail
  refine (a_Pair _).mono ?_
  rintro e w2 ⟨r, rfl, hr, hb2⟩
  have HB2 := Lib.hid (HB1.out.trans (hb2.mono HB1.out.size))
  clear hb2
  go_wp2_with fail
  go_ret2
  exact ⟨r, rfl, hr, HB2.out⟩
/-- One statement that opens always, in the memory. -/
def AlwAt (w : World) (A : Option Addr) (At : Option Addr) (ct : Nat) : Prop := ∃ b off, A = some ⟨b, off, none⟩ ∧ b < w.heap.size ∧ w.cell? ⟨b, off, none⟩ = some (.string ⟨#[]⟩) ∧ w.cell? ⟨b, off + 1, none⟩ = some (.int .i64 0) ∧ w.cell? ⟨b, off + 2, none⟩ = some (.int .i64 0) ∧ w.cell? ⟨b, off + 3, none⟩ = some (.slice none 0 0) ∧ w.cell? ⟨b, off + 4, none⟩ = some (.slice At 1 ct) ∧ w.cell? ⟨b, off + 5, none⟩ = some (.slice none 0 0) ∧ TermsAt w (· < w.heap.size) (.slice At 1 ct) [alwT] ∧ TermsN w At 1
theorem AlwAt.later {w w' : World} {A At : Option Addr} {ct : Nat} (h : AlwAt w A At ct) (hb : Below w.heap.size w w') : AlwAt w' A At ct := by
  obtain ⟨b, off, hA, hbb, c0, c1, c2, c3, c4, c5, ht, hN⟩ := h
  refine ⟨b, off, hA, Nat.lt_of_lt_of_le hbb hb.size, (hb.cell (p := ⟨b, off, none⟩) hbb).trans c0, (hb.cell (p := ⟨b, off + 1, none⟩) hbb).trans c1, (hb.cell (p := ⟨b, off + 2, none⟩) hbb).trans c2, (hb.cell (p := ⟨b, off + 3, none⟩) hbb).trans c3, (hb.cell (p := ⟨b, off + 4, none⟩) hbb).trans c4, (hb.cell (p := ⟨b, off + 5, none⟩) hbb).trans c5, ?_, hN.later hb⟩
  exact (ht.keep fun b hB => hb.block b hB).mono fun b hB => Nat.lt_of_lt_of_le hB hb.size
theorem cell_seven_new (w : World) (a b c d e f g : Value) (t : TypeId) : ∀ j u, [a, b, c, d, e, f, g][j]? = some u → (w.alloc (.cells #[a, b, c, d, e, f, g] t)).cell? ((⟨w.heap.size, 0, none⟩ : Addr).add j) = some u := by
  intro j u hj
  have ha : (⟨w.heap.size, 0, none⟩ : Addr).add j = ⟨w.heap.size, j, none⟩ := by unfold Addr.add; split <;> simp_all
  rw [ha, World.cell?_alloc_new]
  simpa using hj
def RnkE (w : World) (e : Ending) (w' : World) : Prop := ∃ (g c : Nat) (r : ByteArray) (A : Option Addr) (n ca : Nat), e = .returned (.tuple #[.slice (some ⟨g, 0, none⟩) 1 c, .int .i64 0]) ∧ w'.ownsRow w.heap.size 96 7 (.slice (some ⟨g, 0, none⟩) 1 c) 1 [.string ⟨#[]⟩, .int .i64 0, .int .i64 0, .slice none 0 0, .slice A n ca, .slice none 0 0, .string r] ∧ Below w.heap.size w w'
set_option maxRecDepth 100000 in
set_option maxHeartbeats 4000000 in
theorem a_rank (A At : Option Addr) (c ct : Nat) (w : World) (h : AlwAt w A At ct) : Calls Tryd.prog 41 #[.string xS, .slice A 1 c] w (RnkE w) := by
  obtain ⟨i0, hi, hz0, hz1, hz2⟩ := info_parts infoRk
  have HA := Lib.hid h
  clear h
  go_enter Tryd.func41, Tryd.ntmps41
  go_wp2_with fail
  go_loopw [6, 8, 9, 10, 13] (fun v6 v8 v9 v10 v13 wr => (v6 = .slice none 0 0 ∧ v13 = .int .i64 0 ∧ w = wr) ∨ (∃ (g c : Nat) (r : ByteArray) (A : Option Addr) (n ca : Nat), v13 = .int .i64 1 ∧ v6 = .slice (some ⟨g, 0, none⟩) 1 c ∧ wr.ownsRow w.heap.size 96 7 v6 1 [.string ⟨#[]⟩, .int .i64 0, .int .i64 0, .slice none 0 0, .slice A n ca, .slice none 0 0, .string r] ∧ Below w.heap.size w wr)) (fun _ _ _ _ v13 _ => 1 - (intOf v13).toNat)
  case atStart => exact .inl ⟨rfl, rfl, rfl⟩
  case round =>
    rcases hrel with ⟨rfl, rfl, rfl⟩ | ⟨g, c', r, A', n, ca, rfl, rfl, ho, hb⟩
    · obtain ⟨b, off, rfl, hbb, c0, c1, c2, c3, c4, c5, ht, hN⟩ := HA.out
      go_wp2_with fail
      have hb0 : Below w.heap.size w (w.alloc (.cells #[.string ⟨#[]⟩, .int .i64 0, .int .i64 0, .slice none 0 0, .slice At 1 ct, .slice none 0 0] 44)) := (Below.refl _ _).alloc (Nat.le_refl _) _
      have hx0 := Blk.new w 44 #[.string ⟨#[]⟩, .int .i64 0, .int .i64 0, .slice none 0 0, .slice At 1 ct, .slice none 0 0]
      have ht2 : TermsAt (w.alloc (.cells #[.string ⟨#[]⟩, .int .i64 0, .int .i64 0, .slice none 0 0, .slice At 1 ct, .slice none 0 0] 44)) (· < (w.alloc (.cells #[.string ⟨#[]⟩, .int .i64 0, .int .i64 0, .slice none 0 0, .slice At 1 ct, .slice none 0 0] 44)).heap.size) (.slice At 1 ct) [alwT] := (ht.keep fun b hb => hb0.block b hb).mono fun b hb => by simp; omega
      have HN2 := Lib.hid (hN.later hb0)
      have HX0 := Lib.hid hx0
      have HB0 := Lib.hid hb0
      clear c0 c1 c2 c3 c4 c5 ht hN hx0 hb0
      refine (a_Rank At ct _ ht2).mono ?_
      rintro e w1 ⟨r, rfl, hr, hb1⟩
      have hb1' := hb1
      have hx1 := HX0.out.below' hb1 (by simp)
      have e0 := (hx1.cell 0).trans (show _ = some (Value.string ⟨#[]⟩) from rfl)
      have e1 := (hx1.cell 1).trans (show _ = some (Value.int .i64 0) from rfl)
      have e2 := (hx1.cell 2).trans (show _ = some (Value.int .i64 0) from rfl)
      have e3 := (hx1.cell 3).trans (show _ = some (Value.slice none 0 0) from rfl)
      have e4 := (hx1.cell 4).trans (show _ = some (Value.slice At 1 ct) from rfl)
      have e5 := (hx1.cell 5).trans (show _ = some (Value.slice none 0 0) from rfl)
      have HN3 := Lib.hid (HN2.out.later hb1)
      have HB1 := Lib.hid (HB0.out.trans (hb1.mono (by simp)))
      clear hb1 hb1' hx1 ht2 HN2
      go_wp2_with fail
      refine (c_Statement ⟨#[]⟩ 0 0 At 1 ct _ HN3.out (by omega)).mono ?_
      rintro e w2 ⟨A', n', ca, he, hb2⟩
      unfold stmV at he
      subst he
      have HB2 := Lib.hid (HB1.out.trans (hb2.mono HB1.out.size))
      have hs2 := HB2.out.size
      clear hb2 e0 e1 e2 e3 e4 e5 HN3 HX0 HB0 HB1
      go_wp2_with (at_builtin; refine wpList_append_own_at _ rfl _ _ 91 rfl w.heap.size 96 i0 (.agg #[.string ⟨#[]⟩, .int .i64 0, .int .i64 0, .slice none 0 0, .slice none 0 0, .slice none 0 0, .string ⟨#[]⟩]) 7 120 Tryd.underlying91 hi hz0 hz1 hz2 rfl (by decide) _ _ _ rfl (World.ownsRow_nil _ _ _ _) ⟨w2.heap.size, 0, none⟩ 1 1 [.string ⟨#[]⟩, .int .i64 0, .int .i64 0, .slice none 0 0, .slice A' n' ca, .slice none 0 0, .string r] rfl rfl (cell_seven_new _ _ _ _ _ _ _ _ _) (by intro u hu; simp at hu; rcases hu with rfl | rfl | rfl | rfl | rfl | rfl | rfl <;> rfl) (by unfold maxLen; omega) (by omega) (by simp; omega) ?_)
      intro v3 w3 hown3 hgrow3 _ _
      obtain ⟨g, gc, rfl, -, -⟩ := World.ownsRow.form hown3 (by omega)
      have HB3 := Lib.hid (HB2.out.trans (((Below.refl w.heap.size w2).alloc hs2 _).grown hgrow3 (by simp; omega) (fun g hg => by cases hg)))
      have HO3 := Lib.hid hown3
      clear hown3 hgrow3
      go_wp2_with fail
      go_roundw
      case measure => simp [intOf]
      case rel => exact .inr ⟨g, gc, r, A', n', ca, rfl, rfl, HO3.out, HB3.out⟩
    · have HO := Lib.hid ho
      have HB := Lib.hid hb
      clear ho hb
      go_wp2_with fail
      go_ret2
      exact ⟨g, c', r, A', n, ca, rfl, HO.out, HB.out⟩
end Go.Proofs.YthfmmememdlekaaDoor
