/- Contracts: copies.Statement of a statement without answers and shows. -/
import Derived.Test.YthfmmememdlekaaDoorOrClo
import Derived.BigRegion
import Derived.Deep.CutRange
import Derived.Deep.CutBlock
import Derived.Deep.RegionLaw
set_option linter.unusedVariables false
set_option linter.unusedSimpArgs false
namespace Go.Proofs.YthfmmememdlekaaDoor
open Go.RowKit Num

theorem blk6 {w : World} {g : Nat} {t : TypeId} {c0 c1 c2 c3 c4 c5 : Value} (h : Blk w g t #[c0, c1, c2, c3, c4, c5]) (v0 v1 v2 v3 v4 v5 : Value) :
    (w.setCell ⟨g, 0, none⟩ v0).cell? ⟨g, 1, none⟩ = some c1 ∧ ((w.setCell ⟨g, 0, none⟩ v0).setCell ⟨g, 1, none⟩ v1).cell? ⟨g, 2, none⟩ = some c2 ∧
      (((w.setCell ⟨g, 0, none⟩ v0).setCell ⟨g, 1, none⟩ v1).setCell ⟨g, 2, none⟩ v2).cell? ⟨g, 3, none⟩ = some c3 ∧
      ((((w.setCell ⟨g, 0, none⟩ v0).setCell ⟨g, 1, none⟩ v1).setCell ⟨g, 2, none⟩ v2).setCell ⟨g, 3, none⟩ v3).cell? ⟨g, 4, none⟩ = some c4 ∧
      (((((w.setCell ⟨g, 0, none⟩ v0).setCell ⟨g, 1, none⟩ v1).setCell ⟨g, 2, none⟩ v2).setCell ⟨g, 3, none⟩ v3).setCell ⟨g, 4, none⟩ v4).cell? ⟨g, 5, none⟩ = some c5 ∧
      Blk ((((((w.setCell ⟨g, 0, none⟩ v0).setCell ⟨g, 1, none⟩ v1).setCell ⟨g, 2, none⟩ v2).setCell ⟨g, 3, none⟩ v3).setCell ⟨g, 4, none⟩ v4).setCell ⟨g, 5, none⟩ v5) g t #[v0, v1, v2, v3, v4, v5] := by
  have s0 := h.set_ 0 v0
  have s1 := s0.set_ 1 v1
  have s2 := s1.set_ 2 v2
  have s3 := s2.set_ 3 v3
  have s4 := s3.set_ 4 v4
  have s5 := s4.set_ 5 v5
  exact ⟨(s0.cell 1).trans rfl, (s1.cell 2).trans rfl, (s2.cell 3).trans rfl, (s3.cell 4).trans rfl, (s4.cell 5).trans rfl, s5⟩
/-- A statement's value, with neither answers nor shows. -/
def stmV (r : ByteArray) (dep day : Int) (A : Option Addr) (n c : Nat) : Value := .agg #[.string r, .int .i64 dep, .int .i64 day, .slice none 0 0, .slice A n c, .slice none 0 0]
theorem TermsN.later {w w' : World} {A : Option Addr} {n : Nat} (h : TermsN w A n) (hb : Below w.heap.size w w') : TermsN w' A n := by
  intro h0
  obtain ⟨b, off, hA, hbb, hc⟩ := h h0
  refine ⟨b, off, hA, Nat.lt_of_lt_of_le hbb hb.size, fun k hk => ?_⟩
  obtain ⟨kd, nm, yr, f, x, c0, c1, c2, c3, c4, c5⟩ := hc k hk
  exact ⟨kd, nm, yr, f, x, (hb.cell (p := ⟨b, off + k * 6, none⟩) hbb).trans c0, (hb.cell (p := ⟨b, off + k * 6 + 1, none⟩) hbb).trans c1, (hb.cell (p := ⟨b, off + k * 6 + 2, none⟩) hbb).trans c2, (hb.cell (p := ⟨b, off + k * 6 + 3, none⟩) hbb).trans c3, (hb.cell (p := ⟨b, off + k * 6 + 4, none⟩) hbb).trans c4, (hb.cell (p := ⟨b, off + k * 6 + 5, none⟩) hbb).trans c5⟩
def StmK (w wx : World) (r : ByteArray) (dep day : Int) : Prop := ∃ A n c, Blk wx w.heap.size 44 #[.string r, .int .i64 dep, .int .i64 day, .slice none 0 0, .slice A n c, .slice none 0 0] ∧ Blk wx (w.heap.size + 1) 44 #[.string ⟨#[]⟩, .int .i64 0, .int .i64 0, .slice none 0 0, .slice none 0 0, .slice none 0 0] ∧ Below w.heap.size w wx
theorem stm_cut {w wB wk : World} {r : ByteArray} {dep day : Int} {A A1 : Option Addr} {n c n1 c1 : Nat} (hB : Below w.heap.size w wB) (hk : Below wB.heap.size wB wk) (h0 : Blk wk w.heap.size 44 #[.string r, .int .i64 dep, .int .i64 day, .slice none 0 0, .slice A n c, .slice none 0 0]) (h1 : Blk wk (w.heap.size + 1) 44 #[.string ⟨#[]⟩, .int .i64 0, .int .i64 0, .slice none 0 0, .slice none 0 0, .slice none 0 0]) :
    StmK w (((wk.setCell ⟨w.heap.size, 3, none⟩ (.slice none 0 0)).setCell ⟨w.heap.size, 4, none⟩ (.slice A1 n1 c1)).setCell ⟨w.heap.size, 5, none⟩ (.slice none 0 0)) r dep day := by
  have hne : w.heap.size + 1 ≠ w.heap.size := by omega
  refine ⟨A1, n1, c1, ((h0.set_ 3 _).set_ 4 _).set_ 5 _, (((h1.far (p := ⟨w.heap.size, 3, none⟩) hne _).far (p := ⟨w.heap.size, 4, none⟩) hne _).far (p := ⟨w.heap.size, 5, none⟩) hne _), ?_⟩
  exact (((hB.trans (hk.mono hB.size)).setCell (p := ⟨w.heap.size, 3, none⟩) (Nat.le_refl _) _).setCell (p := ⟨w.heap.size, 4, none⟩) (Nat.le_refl _) _).setCell (p := ⟨w.heap.size, 5, none⟩) (Nat.le_refl _) _
set_option maxRecDepth 100000 in
set_option maxHeartbeats 4000000 in
theorem c_Statement (r : ByteArray) (dep day : Int) (A : Option Addr) (n c : Nat) (w : World) (h : TermsN w A n) (hn : n ≤ 1000) : Calls Tryd.prog 32 #[stmV r dep day A n c] w fun e w' => ∃ A' n' c', e = .returned (stmV r dep day A' n' c') ∧ Below w.heap.size w w' := by
  unfold stmV
  obtain ⟨wB, hwB⟩ : ∃ wB, (w.alloc (.cells #[.string r, .int .i64 dep, .int .i64 day, .slice none 0 0, .slice A n c, .slice none 0 0] 44)).alloc (.cells #[.string ⟨#[]⟩, .int .i64 0, .int .i64 0, .slice none 0 0, .slice none 0 0, .slice none 0 0] 44) = wB := ⟨_, rfl⟩
  have hbB : Below w.heap.size w wB := by rw [← hwB]; exact ((Below.refl _ _).alloc (Nat.le_refl _) _).alloc (by simp) _
  have b0 : Blk wB w.heap.size 44 #[.string r, .int .i64 dep, .int .i64 day, .slice none 0 0, .slice A n c, .slice none 0 0] := by rw [← hwB]; exact (Blk.new w _ _).alloc _
  have b1 : Blk wB (w.heap.size + 1) 44 #[.string ⟨#[]⟩, .int .i64 0, .int .i64 0, .slice none 0 0, .slice none 0 0, .slice none 0 0] := by
    have := Blk.new (w.alloc (.cells #[.string r, .int .i64 dep, .int .i64 day, .slice none 0 0, .slice A n c, .slice none 0 0] 44)) 44 #[.string ⟨#[]⟩, .int .i64 0, .int .i64 0, .slice none 0 0, .slice none 0 0, .slice none 0 0]
    rw [World.size_alloc, hwB] at this; exact this
  have hT := h.later hbB
  have HT := Lib.hid hT
  have HBB := Lib.hid hbB
  have HB0 := Lib.hid b0
  have HB1 := Lib.hid b1
  have HWB := Lib.hid hwB
  clear h hT hbB b0 b1 hwB
  go_enter Tryd.func32, Tryd.ntmps32
  go_upto_region 1 with fail
  rw [HWB.out]
  have x3 := (HB0.out.cell 3).trans (show _ = some (Value.slice none 0 0) from rfl)
  have x4 := (HB0.out.cell 4).trans (show _ = some (Value.slice A n c) from rfl)
  have x5 := (HB0.out.cell 5).trans (show _ = some (Value.slice none 0 0) from rfl)
  have hlB := HB0.out.lt
  have hlB1 := HB1.out.lt
  have KC := Lib.hid (fun (W : World) (hW : Below wB.heap.size wB W) => (⟨HB0.out.below' hW hlB, HB1.out.below' hW hlB1⟩ : Blk W w.heap.size 44 #[.string r, .int .i64 dep, .int .i64 day, .slice none 0 0, .slice A n c, .slice none 0 0] ∧ Blk W (w.heap.size + 1) 44 #[.string ⟨#[]⟩, .int .i64 0, .int .i64 0, .slice none 0 0, .slice none 0 0, .slice none 0 0]))
  clear HWB
  go_cut [] from 3 to 14 (fun wx => StmK w wx r dep day)
  case first =>
    go_region_law (first
      | ((try go_simp); go_at_call 48; (refine (s_CloneA0 _).mono ?_); rintro e w' ⟨rfl, rfl⟩; go_simp)
      | ((try go_simp); go_at_call 50; (refine (s_CloneS0 _).mono ?_); rintro e w' ⟨rfl, rfl⟩; go_simp)
      | ((try go_simp); go_at_call 49; (refine (c_Condition A n c _ (by exact HT.out) hn).mono ?_); rintro e wk ⟨A1, n1, c1, rfl, hbk⟩; have hbk' : Below wB.heap.size wB wk := ((Below.refl wB.heap.size wB).drew).trans hbk; have k3 := ((KC.out wk hbk').1.cell 3).trans (show _ = some (Value.slice none 0 0) from rfl); have k4 := ((KC.out wk hbk').1.cell 4).trans (show _ = some (Value.slice A n c) from rfl); have k5 := ((KC.out wk hbk').1.cell 5).trans (show _ = some (Value.slice none 0 0) from rfl); have g3 := (KC.out wk hbk').1.frozen 3; have g4 := (KC.out wk hbk').1.frozen 4; have g5 := (KC.out wk hbk').1.frozen 5; have m4 : (wk.setCell ⟨w.heap.size, 3, none⟩ (.slice none 0 0)).cell? ⟨w.heap.size, 4, none⟩ = some (.slice A n c) := (((KC.out wk hbk').1.set_ 3 (.slice none 0 0)).cell 4).trans rfl; have m5 : ((wk.setCell ⟨w.heap.size, 3, none⟩ (.slice none 0 0)).setCell ⟨w.heap.size, 4, none⟩ (.slice A1 n1 c1)).cell? ⟨w.heap.size, 5, none⟩ = some (.slice none 0 0) := ((((KC.out wk hbk').1.set_ 3 (.slice none 0 0)).set_ 4 (.slice A1 n1 c1)).cell 5).trans rfl; have HBK := Lib.hid hbk'; clear hbk hbk'; go_simp))
    all_goals
      try go_wp2_with fail
      go_meet
      exact stm_cut HBB.out HBK.out (KC.out _ HBK.out).1 (KC.out _ HBK.out).2
  case rest =>
    obtain ⟨A1, n1, c1, y0, y1, hb⟩ := hcut
    have HB := Lib.hid hb
    clear HT HBB HB0 HB1 x3 x4 x5 hlB hlB1 KC hb
    have p0 := (y0.cell 0).trans (show _ = some (Value.string r) from rfl)
    have p1 := (y0.cell 1).trans (show _ = some (Value.int .i64 dep) from rfl)
    have p2 := (y0.cell 2).trans (show _ = some (Value.int .i64 day) from rfl)
    have p3 := (y0.cell 3).trans (show _ = some (Value.slice none 0 0) from rfl)
    have p4 := (y0.cell 4).trans (show _ = some (Value.slice A1 n1 c1) from rfl)
    have p5 := (y0.cell 5).trans (show _ = some (Value.slice none 0 0) from rfl)
    have q0 := (y1.cell 0).trans (show _ = some (Value.string ⟨#[]⟩) from rfl)
    obtain ⟨q1, q2, q3, q4, q5, qb⟩ := blk6 y1 (.string r) (.int .i64 dep) (.int .i64 day) (.slice none 0 0) (.slice A1 n1 c1) (.slice none 0 0)
    have f0 := y1.frozen 0
    have f1 := y1.frozen 1
    have f2 := y1.frozen 2
    have f3 := y1.frozen 3
    have f4 := y1.frozen 4
    have f5 := y1.frozen 5
    have e0 := (qb.cell 0).trans (show _ = some (Value.string r) from rfl)
    have e1 := (qb.cell 1).trans (show _ = some (Value.int .i64 dep) from rfl)
    have e2 := (qb.cell 2).trans (show _ = some (Value.int .i64 day) from rfl)
    have e3 := (qb.cell 3).trans (show _ = some (Value.slice none 0 0) from rfl)
    have e4 := (qb.cell 4).trans (show _ = some (Value.slice A1 n1 c1) from rfl)
    have e5 := (qb.cell 5).trans (show _ = some (Value.slice none 0 0) from rfl)
    clear y0 y1 qb
    go_wp2_with fail
    refine bodyPost_ret (v := .agg #[.string r, .int .i64 dep, .int .i64 day, .slice none 0 0, .slice A1 n1 c1, .slice none 0 0]) (by simp [results, Tryd.results32, go_sem, e0, e1, e2, e3, e4, e5]) rfl ⟨_, _, _, rfl, ?_⟩
    have hw : w.heap.size ≤ w.heap.size + 1 := by omega
    exact (((((HB.out.setCell (p := ⟨w.heap.size + 1, 0, none⟩) hw _).setCell (p := ⟨w.heap.size + 1, 1, none⟩) hw _).setCell (p := ⟨w.heap.size + 1, 2, none⟩) hw _).setCell (p := ⟨w.heap.size + 1, 3, none⟩) hw _).setCell (p := ⟨w.heap.size + 1, 4, none⟩) hw _).setCell (p := ⟨w.heap.size + 1, 5, none⟩) hw _
end Go.Proofs.YthfmmememdlekaaDoor
