/- Contracts: copies.Statement of any statement. Contracts: the reference's text of a term without parts (printed by gen_fmrx.py). -/
import Derived.Test.YtgbhaaongmlpkaaGreatDoorX23
import Derived.BigRegion
import Derived.Deep.CutRange
import Derived.Deep.CutBlock
import Derived.Deep.RegionLaw
import Derived.Test.YtgbhaaongmlpkaaGreatDoorX17
set_option linter.unusedVariables false
set_option linter.unusedSimpArgs false
namespace Go.Proofs.YtgbhaaongmlpkaaGreatDoor
open Go.RowKit Num

theorem blk6 {w : World} {g : Nat} {t : TypeId} {c0 c1 c2 c3 c4 c5 : Value} (h : Blk w g t #[c0, c1, c2, c3, c4, c5]) (v0 v1 v2 v3 v4 v5 : Value) :
    (w.setCell ⟨g, 0, none⟩ v0).cell? ⟨g, 1, none⟩ = some c1 ∧ ((w.setCell ⟨g, 0, none⟩ v0).setCell ⟨g, 1, none⟩ v1).cell? ⟨g, 2, none⟩ = some c2 ∧
      (((w.setCell ⟨g, 0, none⟩ v0).setCell ⟨g, 1, none⟩ v1).setCell ⟨g, 2, none⟩ v2).cell? ⟨g, 3, none⟩ = some c3 ∧
      ((((w.setCell ⟨g, 0, none⟩ v0).setCell ⟨g, 1, none⟩ v1).setCell ⟨g, 2, none⟩ v2).setCell ⟨g, 3, none⟩ v3).cell? ⟨g, 4, none⟩ = some c4 ∧
      (((((w.setCell ⟨g, 0, none⟩ v0).setCell ⟨g, 1, none⟩ v1).setCell ⟨g, 2, none⟩ v2).setCell ⟨g, 3, none⟩ v3).setCell ⟨g, 4, none⟩ v4).cell? ⟨g, 5, none⟩ = some c5 ∧
      Blk ((((((w.setCell ⟨g, 0, none⟩ v0).setCell ⟨g, 1, none⟩ v1).setCell ⟨g, 2, none⟩ v2).setCell ⟨g, 3, none⟩ v3).setCell ⟨g, 4, none⟩ v4).setCell ⟨g, 5, none⟩ v5) g t #[v0, v1, v2, v3, v4, v5] := by
  have s0 := h.set_ 0 v0
  have s1 := s0.set_ 1 v1
  have s2 := s1.set_ 2 v2
  have s3 := s2.set_ 3 v3
  have s4 := s3.set_ 4 v4
  have s5 := s4.set_ 5 v5
  exact ⟨(s0.cell 1).trans rfl, (s1.cell 2).trans rfl, (s2.cell 3).trans rfl, (s3.cell 4).trans rfl, (s4.cell 5).trans rfl, s5⟩
/-- A copy of a statement: its lists lie in new blocks. -/
def StmQ (s : Stm) (w : World) (e : Ending) (w' : World) : Prop := ∃ A1 n1 c1 A2 n2 c2 A3 n3 c3, e = .returned (.agg #[.string s.resp, .int .i64 s.dep, .int .i64 s.day, .slice A1 n1 c1, .slice A2 n2 c2, .slice A3 n3 c3]) ∧ StmAt w' (fun b => w.heap.size ≤ b ∧ b < w'.heap.size) (.slice A1 n1 c1) (.slice A2 n2 c2) (.slice A3 n3 c3) s ∧ Below w.heap.size w w'
def StmK (s : Stm) (w wx : World) : Prop := ∃ A1 n1 c1 A2 n2 c2 A3 n3 c3, Blk wx w.heap.size 36 #[.string s.resp, .int .i64 s.dep, .int .i64 s.day, .slice A1 n1 c1, .slice A2 n2 c2, .slice A3 n3 c3] ∧ Blk wx (w.heap.size + 1) 36 #[.string ⟨#[]⟩, .int .i64 0, .int .i64 0, .slice none 0 0, .slice none 0 0, .slice none 0 0] ∧ StmAt wx (fun b => w.heap.size + 2 ≤ b ∧ b < wx.heap.size) (.slice A1 n1 c1) (.slice A2 n2 c2) (.slice A3 n3 c3) s ∧ Below w.heap.size w wx
theorem stm_cut {s : Stm} {w wB wk : World} {Aa Ac As : Option Addr} {na ca nc cc ns cs : Nat} {A1 A2 A3 : Option Addr} {n1 c1 n2 c2 n3 c3 : Nat} (hB : Below w.heap.size w wB) (hk : Below wB.heap.size wB wk) (hz : wB.heap.size = w.heap.size + 2) (h0 : Blk wk w.heap.size 36 #[.string s.resp, .int .i64 s.dep, .int .i64 s.day, .slice Aa na ca, .slice Ac nc cc, .slice As ns cs]) (h1 : Blk wk (w.heap.size + 1) 36 #[.string ⟨#[]⟩, .int .i64 0, .int .i64 0, .slice none 0 0, .slice none 0 0, .slice none 0 0])
    (hs : StmAt wk (fun b => wB.heap.size ≤ b ∧ b < wk.heap.size) (.slice A1 n1 c1) (.slice A2 n2 c2) (.slice A3 n3 c3) s) :
    StmK s w (((wk.setCell ⟨w.heap.size, 3, none⟩ (.slice A1 n1 c1)).setCell ⟨w.heap.size, 4, none⟩ (.slice A2 n2 c2)).setCell ⟨w.heap.size, 5, none⟩ (.slice A3 n3 c3)) := by
  have hne : w.heap.size + 1 ≠ w.heap.size := by omega
  have hc : Chg wk (((wk.setCell ⟨w.heap.size, 3, none⟩ (.slice A1 n1 c1)).setCell ⟨w.heap.size, 4, none⟩ (.slice A2 n2 c2)).setCell ⟨w.heap.size, 5, none⟩ (.slice A3 n3 c3)) (fun q => q = w.heap.size) :=
    (((Chg.refl wk (fun q => q = w.heap.size)).setCell ⟨w.heap.size, 3, none⟩ (fun _ => rfl) _).setCell ⟨w.heap.size, 4, none⟩ (fun _ => rfl) _).setCell ⟨w.heap.size, 5, none⟩ (fun _ => rfl) _
  refine ⟨A1, n1, c1, A2, n2, c2, A3, n3, c3, ((h0.set_ 3 _).set_ 4 _).set_ 5 _, (((h1.far (p := ⟨w.heap.size, 3, none⟩) hne _).far (p := ⟨w.heap.size, 4, none⟩) hne _).far (p := ⟨w.heap.size, 5, none⟩) hne _), (hs.keep fun b hb => hc.block b hb.2 (by omega)).mono fun b hb => ⟨by omega, by have := hc.size; omega⟩, ?_⟩
  exact (((hB.trans (hk.mono hB.size)).setCell (p := ⟨w.heap.size, 3, none⟩) (Nat.le_refl _) _).setCell (p := ⟨w.heap.size, 4, none⟩) (Nat.le_refl _) _).setCell (p := ⟨w.heap.size, 5, none⟩) (Nat.le_refl _) _
set_option maxRecDepth 100000 in
set_option maxHeartbeats 4000000 in
theorem c_StatementG (s : Stm) (Aa Ac As : Option Addr) (na ca nc cc ns cs : Nat) (S : Nat → Prop) (w : World) (hv : StmAt w S (.slice Aa na ca) (.slice Ac nc cc) (.slice As ns cs) s) (hS : ∀ b, S b → b < w.heap.size) (hok : StmOk s) (hoa : ∀ t ∈ s.cond, t.args.length ≤ 1000000) :
    Calls Tryz.prog 29 #[.agg #[.string s.resp, .int .i64 s.dep, .int .i64 s.day, .slice Aa na ca, .slice Ac nc cc, .slice As ns cs]] w (StmQ s w) := by
  obtain ⟨wB, hwB⟩ : ∃ wB, (w.alloc (.cells #[.string s.resp, .int .i64 s.dep, .int .i64 s.day, .slice Aa na ca, .slice Ac nc cc, .slice As ns cs] 36)).alloc (.cells #[.string ⟨#[]⟩, .int .i64 0, .int .i64 0, .slice none 0 0, .slice none 0 0, .slice none 0 0] 36) = wB := ⟨_, rfl⟩
  have hbB : Below w.heap.size w wB := by rw [← hwB]; exact ((Below.refl _ _).alloc (Nat.le_refl _) _).alloc (by simp) _
  have hzB : wB.heap.size = w.heap.size + 2 := by rw [← hwB]; simp
  have b0 : Blk wB w.heap.size 36 #[.string s.resp, .int .i64 s.dep, .int .i64 s.day, .slice Aa na ca, .slice Ac nc cc, .slice As ns cs] := by rw [← hwB]; exact (Blk.new w _ _).alloc _
  have b1 : Blk wB (w.heap.size + 1) 36 #[.string ⟨#[]⟩, .int .i64 0, .int .i64 0, .slice none 0 0, .slice none 0 0, .slice none 0 0] := by
    have := Blk.new (w.alloc (.cells #[.string s.resp, .int .i64 s.dep, .int .i64 s.day, .slice Aa na ca, .slice Ac nc cc, .slice As ns cs] 36)) 36 #[.string ⟨#[]⟩, .int .i64 0, .int .i64 0, .slice none 0 0, .slice none 0 0, .slice none 0 0]
    rw [World.size_alloc, hwB] at this; exact this
  have hvB : ∀ W : World, Below wB.heap.size wB W → StmAt W S (.slice Aa na ca) (.slice Ac nc cc) (.slice As ns cs) s ∧ ∀ b, S b → b < W.heap.size := fun W hW => ⟨hv.keep fun b hb => (hW.block b (by have := hS b hb; omega)).trans (hbB.block b (hS b hb)), fun b hb => by have := hS b hb; have := hW.size; omega⟩
  have HCA := Lib.hid (fun (W : World) (hW : Below wB.heap.size wB W) => (s_CloneA Aa na ca s.ans S W (hvB W hW).1.aa (hvB W hW).2 hok.an).mono (R' := fun e w' => ∃ A1 n1 c1, e = .returned (.slice A1 n1 c1) ∧ AnssAt w' (fun b => wB.heap.size ≤ b ∧ b < w'.heap.size) (.slice A1 n1 c1) s.ans ∧ Below wB.heap.size wB w') fun e w' h => by
    obtain ⟨v, he, ho, hb⟩ := h
    obtain ⟨A1, c1, rfl⟩ := own_slice ho
    exact ⟨A1, _, c1, he, (AnssAt.of_own ho).mono fun b hb => ⟨Nat.le_trans hW.size hb.1, hb.2⟩, hW.trans (hb.mono hW.size)⟩)
  have HCC := Lib.hid (fun (W : World) (hW : Below wB.heap.size wB W) => (c_ConditionG Ac nc cc s.cond S W (hvB W hW).1.cc (hvB W hW).2 hok.cn hoa).mono (R' := fun e w' => ∃ A2 n2 c2, e = .returned (.agg #[.slice A2 n2 c2]) ∧ TermsAt w' (fun b => wB.heap.size ≤ b ∧ b < w'.heap.size) (.slice A2 n2 c2) s.cond ∧ Below wB.heap.size wB w' ∧ (∀ q, q < W.heap.size → w'.heap[q]? = W.heap[q]?) ∧ W.heap.size ≤ w'.heap.size) fun e w' h => by
    obtain ⟨A2, n2, c2, he, ho, hb⟩ := h
    exact ⟨A2, n2, c2, he, ho.mono fun b hb => ⟨Nat.le_trans hW.size hb.1, hb.2⟩, hW.trans (hb.mono hW.size), hb.block, hb.size⟩)
  have HCS := Lib.hid (fun (W : World) (hW : Below wB.heap.size wB W) => (s_CloneS As ns cs s.shw S W (hvB W hW).1.ss (hvB W hW).2 hok.sn).mono (R' := fun e w' => ∃ A3 n3 c3, e = .returned (.slice A3 n3 c3) ∧ ShwsAt w' (fun b => wB.heap.size ≤ b ∧ b < w'.heap.size) (.slice A3 n3 c3) s.shw ∧ Below wB.heap.size wB w' ∧ (∀ q, q < W.heap.size → w'.heap[q]? = W.heap[q]?) ∧ W.heap.size ≤ w'.heap.size) fun e w' h => by
    obtain ⟨v, he, ho, hb⟩ := h
    obtain ⟨A3, c3, rfl⟩ := own_slice ho
    exact ⟨A3, _, c3, he, (ShwsAt.of_own ho).mono fun b hb => ⟨Nat.le_trans hW.size hb.1, hb.2⟩, hW.trans (hb.mono hW.size), hb.block, hb.size⟩)
  have HBB := Lib.hid hbB
  have HB0 := Lib.hid b0
  have HB1 := Lib.hid b1
  have HWB := Lib.hid hwB
  have HZB := Lib.hid hzB
  clear hv hS hok hoa hvB hbB b0 b1 hwB hzB
  go_enter Tryz.func29, Tryz.ntmps29
  go_upto_region 1 with fail
  rw [HWB.out]
  have x3 := (HB0.out.cell 3).trans (show _ = some (Value.slice Aa na ca) from rfl)
  have x4 := (HB0.out.cell 4).trans (show _ = some (Value.slice Ac nc cc) from rfl)
  have x5 := (HB0.out.cell 5).trans (show _ = some (Value.slice As ns cs) from rfl)
  have hlB := HB0.out.lt
  have hlB1 := HB1.out.lt
  have KC := Lib.hid (fun (W : World) (hW : Below wB.heap.size wB W) => (⟨HB0.out.below' hW hlB, HB1.out.below' hW hlB1⟩ : Blk W w.heap.size 36 #[.string s.resp, .int .i64 s.dep, .int .i64 s.day, .slice Aa na ca, .slice Ac nc cc, .slice As ns cs] ∧ Blk W (w.heap.size + 1) 36 #[.string ⟨#[]⟩, .int .i64 0, .int .i64 0, .slice none 0 0, .slice none 0 0, .slice none 0 0]))
  clear HWB
  go_cut [] from 3 to 14 (fun wx => StmK s w wx)
  case first =>
    go_region_law (first
      | ((try go_simp); go_at_call 41; (with_reducible refine (HCA.out _ ((Below.refl wB.heap.size wB).drew)).mono ?_); rintro e wk1 ⟨A1, n1, c1, rfl, ha1, hbk1⟩; have k3 := ((KC.out wk1 hbk1).1.cell 3).trans (show _ = some (Value.slice Aa na ca) from rfl); have k4 := ((KC.out wk1 hbk1).1.cell 4).trans (show _ = some (Value.slice Ac nc cc) from rfl); have k5 := ((KC.out wk1 hbk1).1.cell 5).trans (show _ = some (Value.slice As ns cs) from rfl); have HA1 := Lib.hid ha1; have HBK1 := Lib.hid hbk1; clear ha1 hbk1)
      | ((try go_simp); go_at_call 42; (with_reducible refine (HCC.out _ HBK1.out).mono ?_); rintro e wk2 ⟨A2, n2, c2, rfl, ha2, hbk2, hkp2, lz2⟩; have k3 := ((KC.out wk2 hbk2).1.cell 3).trans (show _ = some (Value.slice Aa na ca) from rfl); have k4 := ((KC.out wk2 hbk2).1.cell 4).trans (show _ = some (Value.slice Ac nc cc) from rfl); have k5 := ((KC.out wk2 hbk2).1.cell 5).trans (show _ = some (Value.slice As ns cs) from rfl); have HA2 := Lib.hid ha2; have HBK2 := Lib.hid hbk2; have HKP2 := Lib.hid hkp2; clear ha2 hbk2 hkp2)
      | ((try go_simp); go_at_call 43; (with_reducible refine (HCS.out _ HBK2.out).mono ?_); rintro e wk3 ⟨A3, n3, c3, rfl, ha3, hbk3, hkp3, lz3⟩; have k3 := ((KC.out wk3 hbk3).1.cell 3).trans (show _ = some (Value.slice Aa na ca) from rfl); have k4 := ((KC.out wk3 hbk3).1.cell 4).trans (show _ = some (Value.slice Ac nc cc) from rfl); have k5 := ((KC.out wk3 hbk3).1.cell 5).trans (show _ = some (Value.slice As ns cs) from rfl); have g3 := (KC.out wk3 hbk3).1.frozen 3; have g4 := (KC.out wk3 hbk3).1.frozen 4; have g5 := (KC.out wk3 hbk3).1.frozen 5; have m4 : (wk3.setCell ⟨w.heap.size, 3, none⟩ (.slice A1 n1 c1)).cell? ⟨w.heap.size, 4, none⟩ = some (.slice Ac nc cc) := (((KC.out wk3 hbk3).1.set_ 3 (.slice A1 n1 c1)).cell 4).trans rfl; have m5 : ((wk3.setCell ⟨w.heap.size, 3, none⟩ (.slice A1 n1 c1)).setCell ⟨w.heap.size, 4, none⟩ (.slice A2 n2 c2)).cell? ⟨w.heap.size, 5, none⟩ = some (.slice As ns cs) := ((((KC.out wk3 hbk3).1.set_ 3 (.slice A1 n1 c1)).set_ 4 (.slice A2 n2 c2)).cell 5).trans rfl; have HA3 := Lib.hid ha3; have HBK3 := Lib.hid hbk3; have HKP3 := Lib.hid hkp3; clear ha3 hbk3 hkp3))
    all_goals
      try go_wp2_with fail
      go_meet
      exact stm_cut HBB.out HBK3.out HZB.out (KC.out _ HBK3.out).1 (KC.out _ HBK3.out).2 ⟨((HA1.out.keep fun b hb => HKP2.out b hb.2).keep (S := fun b => wB.heap.size ≤ b ∧ b < wk1.heap.size) fun b hb => HKP3.out b (by have := hb.2; omega)).mono fun b hb => ⟨hb.1, by omega⟩, (HA2.out.keep fun b hb => HKP3.out b hb.2).mono fun b hb => ⟨hb.1, by omega⟩, HA3.out⟩
  case rest =>
    obtain ⟨A1, n1, c1, A2, n2, c2, A3, n3, c3, y0, y1, hst, hb⟩ := hcut
    rename World => wx
    have HB := Lib.hid hb
    have HST := Lib.hid hst
    have hy1 := y1.lt
    clear HBB HB0 HB1 x3 x4 x5 hlB hlB1 KC hb HCA HCC HCS HZB hst
    have p0 := (y0.cell 0).trans (show _ = some (Value.string s.resp) from rfl)
    have p1 := (y0.cell 1).trans (show _ = some (Value.int .i64 s.dep) from rfl)
    have p2 := (y0.cell 2).trans (show _ = some (Value.int .i64 s.day) from rfl)
    have p3 := (y0.cell 3).trans (show _ = some (Value.slice A1 n1 c1) from rfl)
    have p4 := (y0.cell 4).trans (show _ = some (Value.slice A2 n2 c2) from rfl)
    have p5 := (y0.cell 5).trans (show _ = some (Value.slice A3 n3 c3) from rfl)
    have q0 := (y1.cell 0).trans (show _ = some (Value.string ⟨#[]⟩) from rfl)
    obtain ⟨q1, q2, q3, q4, q5, qb⟩ := blk6 y1 (.string s.resp) (.int .i64 s.dep) (.int .i64 s.day) (.slice A1 n1 c1) (.slice A2 n2 c2) (.slice A3 n3 c3)
    have f0 := y1.frozen 0
    have f1 := y1.frozen 1
    have f2 := y1.frozen 2
    have f3 := y1.frozen 3
    have f4 := y1.frozen 4
    have f5 := y1.frozen 5
    have e0 := (qb.cell 0).trans (show _ = some (Value.string s.resp) from rfl)
    have e1 := (qb.cell 1).trans (show _ = some (Value.int .i64 s.dep) from rfl)
    have e2 := (qb.cell 2).trans (show _ = some (Value.int .i64 s.day) from rfl)
    have e3 := (qb.cell 3).trans (show _ = some (Value.slice A1 n1 c1) from rfl)
    have e4 := (qb.cell 4).trans (show _ = some (Value.slice A2 n2 c2) from rfl)
    have e5 := (qb.cell 5).trans (show _ = some (Value.slice A3 n3 c3) from rfl)
    clear y0 y1 qb
    go_wp2_with fail
    have hc : Chg wx ((((((wx.setCell ⟨w.heap.size + 1, 0, none⟩ (.string s.resp)).setCell ⟨w.heap.size + 1, 1, none⟩ (.int .i64 s.dep)).setCell ⟨w.heap.size + 1, 2, none⟩ (.int .i64 s.day)).setCell ⟨w.heap.size + 1, 3, none⟩ (.slice A1 n1 c1)).setCell ⟨w.heap.size + 1, 4, none⟩ (.slice A2 n2 c2)).setCell ⟨w.heap.size + 1, 5, none⟩ (.slice A3 n3 c3)) (fun q => q = w.heap.size + 1) :=
      ((((((Chg.refl wx (fun q => q = w.heap.size + 1)).setCell ⟨w.heap.size + 1, 0, none⟩ (fun _ => rfl) _).setCell ⟨w.heap.size + 1, 1, none⟩ (fun _ => rfl) _).setCell ⟨w.heap.size + 1, 2, none⟩ (fun _ => rfl) _).setCell ⟨w.heap.size + 1, 3, none⟩ (fun _ => rfl) _).setCell ⟨w.heap.size + 1, 4, none⟩ (fun _ => rfl) _).setCell ⟨w.heap.size + 1, 5, none⟩ (fun _ => rfl) _
    refine bodyPost_ret (v := .agg #[.string s.resp, .int .i64 s.dep, .int .i64 s.day, .slice A1 n1 c1, .slice A2 n2 c2, .slice A3 n3 c3]) (by simp [results, Tryz.results29, go_sem, e0, e1, e2, e3, e4, e5]) rfl ⟨_, _, _, _, _, _, _, _, _, rfl, (HST.out.keep fun b hb => hc.block b hb.2 (by omega)).mono fun b hb => ⟨by omega, by have := hc.size; omega⟩, ?_⟩
    exact HB.out.trans (hc.below (fun i hi hq => by omega) (by omega))
end Go.Proofs.YtgbhaaongmlpkaaGreatDoor
namespace Go.Proofs.YtgbhaaongmlpkaaGreatDoor
open Go.RowKit Num

set_option maxRecDepth 100000 in
set_option maxHeartbeats 4000000 in
theorem r_text_word (b off n c k : Nat) (tk tn ty : Int) (tf tt : ByteArray) (Aa : Option Addr) (na ca : Nat) (w : World) (hk : tk = 6 ∨ tk = 8) (hb : b < w.heap.size) (hkn : k < n) (hn : n ≤ 1000000) (hl : LibOk w) (hn0 : 0 ≤ tn) (hn1 : tn ≤ 100)
    (c0 : w.cell? ⟨b, off + k * 6, none⟩ = some (.int .i64 tk)) (c1 : w.cell? ⟨b, off + k * 6 + 1, none⟩ = some (.int .i64 tn)) (c2 : w.cell? ⟨b, off + k * 6 + 2, none⟩ = some (.int .i64 ty)) (c3 : w.cell? ⟨b, off + k * 6 + 3, none⟩ = some (.string tf))
    (c4 : w.cell? ⟨b, off + k * 6 + 4, none⟩ = some (.string tt)) (c5 : w.cell? ⟨b, off + k * 6 + 5, none⟩ = some (.slice Aa na ca)) :
    Calls Tryz.prog 88 #[.agg #[.slice (some ⟨b, off, none⟩) n c], .int .i64 (k : Int)] w (StrBel (nmK tk) w) := by
  have q2 : (0 : Int) ≤ (k : Int) := by omega
  have q3 : (k : Int) < (n : Int) := by omega
  have hb2 : ∀ o, Below w.heap.size w ((w.alloc (.cells #[.slice (some ⟨b, off, none⟩) n c] 33)).alloc o) := fun o => ((Below.refl _ _).alloc (Nat.le_refl _) _).alloc (by simp) _
  have hl2 : ∀ o, LibOk ((w.alloc (.cells #[.slice (some ⟨b, off, none⟩) n c] 33)).alloc o) := fun o => hl.later (hb2 o)
  have s1 : (bsOf (Lib.itoa tn)).size ≤ 3 := by rw [bsOf_data]; exact itoa_small tn hn0 hn1
  have HB2 := Lib.hid hb2
  have HL2 := Lib.hid hl2
  clear hb2 hl2 hl
  rcases hk with rfl | rfl
  all_goals
    go_enter Tryz.func88, Tryz.ntmps88
    go_wp2_with fail
    refine (i_Itoa tn _ (HL2.out _).tab (by omega) (by omega)).mono ?_
    rintro e wk ⟨rfl, hbk⟩
    obtain ⟨hcc, hff⟩ := bcellx hbk
    go_wp2_with fail
    go_ret
    refine ⟨?_, (HB2.out _).trans (hbk.mono (by simp; omega))⟩
    rfl
set_option maxRecDepth 100000 in
set_option maxHeartbeats 4000000 in
theorem r_text_num (b off n c k : Nat) (tk tn ty : Int) (tf tt : ByteArray) (Aa : Option Addr) (na ca : Nat) (w : World) (hk : tk = 3 ∨ tk = 4) (hb : b < w.heap.size) (hkn : k < n) (hn : n ≤ 1000000) (hl : LibOk w) (hn0 : 0 ≤ tn) (hn1 : tn ≤ 100)
    (c0 : w.cell? ⟨b, off + k * 6, none⟩ = some (.int .i64 tk)) (c1 : w.cell? ⟨b, off + k * 6 + 1, none⟩ = some (.int .i64 tn)) (c2 : w.cell? ⟨b, off + k * 6 + 2, none⟩ = some (.int .i64 ty)) (c3 : w.cell? ⟨b, off + k * 6 + 3, none⟩ = some (.string tf))
    (c4 : w.cell? ⟨b, off + k * 6 + 4, none⟩ = some (.string tt)) (c5 : w.cell? ⟨b, off + k * 6 + 5, none⟩ = some (.slice Aa na ca)) :
    Calls Tryz.prog 88 #[.agg #[.slice (some ⟨b, off, none⟩) n c], .int .i64 (k : Int)] w (StrBel (nmK tk ++ [32] ++ Lib.itoa tn) w) := by
  have q2 : (0 : Int) ≤ (k : Int) := by omega
  have q3 : (k : Int) < (n : Int) := by omega
  have hb2 : ∀ o, Below w.heap.size w ((w.alloc (.cells #[.slice (some ⟨b, off, none⟩) n c] 33)).alloc o) := fun o => ((Below.refl _ _).alloc (Nat.le_refl _) _).alloc (by simp) _
  have hl2 : ∀ o, LibOk ((w.alloc (.cells #[.slice (some ⟨b, off, none⟩) n c] 33)).alloc o) := fun o => hl.later (hb2 o)
  have s1 : (bsOf (Lib.itoa tn)).size ≤ 3 := by rw [bsOf_data]; exact itoa_small tn hn0 hn1
  have HB2 := Lib.hid hb2
  have HL2 := Lib.hid hl2
  clear hb2 hl2 hl
  rcases hk with rfl | rfl
  all_goals
    go_enter Tryz.func88, Tryz.ntmps88
    go_wp2_with fail
    refine (i_Itoa tn _ (HL2.out _).tab (by omega) (by omega)).mono ?_
    rintro e wk ⟨rfl, hbk⟩
    obtain ⟨hcc, hff⟩ := bcellx hbk
    go_wp2_with fail
    go_ret
    refine ⟨?_, (HB2.out _).trans (hbk.mono (by simp; omega))⟩
    exact congrArg (fun x : ByteArray => Ending.returned (.string x)) (by show bsOf _ ++ bsOf _ = _; rw [bsOf_app]; rfl)
set_option maxRecDepth 100000 in
set_option maxHeartbeats 4000000 in
theorem r_text_yrs (b off n c k : Nat) (tk tn ty : Int) (tf tt : ByteArray) (Aa : Option Addr) (na ca : Nat) (w : World) (hk : tk = 5) (hb : b < w.heap.size) (hkn : k < n) (hn : n ≤ 1000000) (hl : LibOk w) (hn0 : 0 ≤ tn) (hn1 : tn ≤ 100) (hy0 : 0 ≤ ty) (hy1 : ty ≤ 100) (s2 : (bsOf (Lib.itoa ty)).size ≤ 3)
    (c0 : w.cell? ⟨b, off + k * 6, none⟩ = some (.int .i64 tk)) (c1 : w.cell? ⟨b, off + k * 6 + 1, none⟩ = some (.int .i64 tn)) (c2 : w.cell? ⟨b, off + k * 6 + 2, none⟩ = some (.int .i64 ty)) (c3 : w.cell? ⟨b, off + k * 6 + 3, none⟩ = some (.string tf))
    (c4 : w.cell? ⟨b, off + k * 6 + 4, none⟩ = some (.string tt)) (c5 : w.cell? ⟨b, off + k * 6 + 5, none⟩ = some (.slice Aa na ca)) :
    Calls Tryz.prog 88 #[.agg #[.slice (some ⟨b, off, none⟩) n c], .int .i64 (k : Int)] w (StrBel (nmK 5 ++ [32] ++ Lib.itoa ty ++ [32] ++ ofB ++ [32] ++ Lib.itoa tn) w) := by
  have q2 : (0 : Int) ≤ (k : Int) := by omega
  have q3 : (k : Int) < (n : Int) := by omega
  have hb2 : ∀ o, Below w.heap.size w ((w.alloc (.cells #[.slice (some ⟨b, off, none⟩) n c] 33)).alloc o) := fun o => ((Below.refl _ _).alloc (Nat.le_refl _) _).alloc (by simp) _
  have hl2 : ∀ o, LibOk ((w.alloc (.cells #[.slice (some ⟨b, off, none⟩) n c] 33)).alloc o) := fun o => hl.later (hb2 o)
  have s1 : (bsOf (Lib.itoa tn)).size ≤ 3 := by rw [bsOf_data]; exact itoa_small tn hn0 hn1
  have HB2 := Lib.hid hb2
  have HL2 := Lib.hid hl2
  clear hb2 hl2 hl
  subst hk
  all_goals
    go_enter Tryz.func88, Tryz.ntmps88
    go_wp2_with fail
    refine (i_Itoa tn _ (HL2.out _).tab (by omega) (by omega)).mono ?_
    rintro e wk ⟨rfl, hbk⟩
    obtain ⟨hcc, hff⟩ := bcellx hbk
    go_wp2_with fail
    refine (i_Itoa ty _ (LibOk.tab (LibOk.later (HL2.out _) hbk)) (by omega) (by omega)).mono ?_
    rintro e wm ⟨rfl, hbm⟩
    go_wp2_with fail
    go_ret
    refine ⟨?_, (HB2.out _).trans ((hbk.mono (by simp; omega)).trans (hbm.mono (by have := (HB2.out (.cells #[] 0)).size; have := hbk.size; simp at *; omega)))⟩
    exact congrArg (fun x : ByteArray => Ending.returned (.string x)) (by show bsOf _ ++ bsOf _ ++ bsOf _ ++ bsOf _ = _; rw [bsOf_app, bsOf_app, bsOf_app]; congr 1; simp [nmK, nmB, ofB])
set_option maxRecDepth 100000 in
set_option maxHeartbeats 4000000 in
theorem r_text_says (b off n c k : Nat) (tk tn ty : Int) (tf tt : ByteArray) (Aa : Option Addr) (na ca : Nat) (w : World) (hk : tk = 7) (hb : b < w.heap.size) (hkn : k < n) (hn : n ≤ 1000000) (hl : LibOk w) (hn0 : 0 ≤ tn) (hn1 : tn ≤ 100) (hf : tf.size ≤ 1000) (hx : tt.size ≤ 1000)
    (c0 : w.cell? ⟨b, off + k * 6, none⟩ = some (.int .i64 tk)) (c1 : w.cell? ⟨b, off + k * 6 + 1, none⟩ = some (.int .i64 tn)) (c2 : w.cell? ⟨b, off + k * 6 + 2, none⟩ = some (.int .i64 ty)) (c3 : w.cell? ⟨b, off + k * 6 + 3, none⟩ = some (.string tf))
    (c4 : w.cell? ⟨b, off + k * 6 + 4, none⟩ = some (.string tt)) (c5 : w.cell? ⟨b, off + k * 6 + 5, none⟩ = some (.slice Aa na ca)) :
    Calls Tryz.prog 88 #[.agg #[.slice (some ⟨b, off, none⟩) n c], .int .i64 (k : Int)] w (StrBel (nmK 7 ++ [32] ++ blOf tf ++ [32, 34] ++ blOf tt ++ [34, 32] ++ ofB ++ [32] ++ Lib.itoa tn) w) := by
  have q2 : (0 : Int) ≤ (k : Int) := by omega
  have q3 : (k : Int) < (n : Int) := by omega
  have hb2 : ∀ o, Below w.heap.size w ((w.alloc (.cells #[.slice (some ⟨b, off, none⟩) n c] 33)).alloc o) := fun o => ((Below.refl _ _).alloc (Nat.le_refl _) _).alloc (by simp) _
  have hl2 : ∀ o, LibOk ((w.alloc (.cells #[.slice (some ⟨b, off, none⟩) n c] 33)).alloc o) := fun o => hl.later (hb2 o)
  have s1 : (bsOf (Lib.itoa tn)).size ≤ 3 := by rw [bsOf_data]; exact itoa_small tn hn0 hn1
  have HB2 := Lib.hid hb2
  have HL2 := Lib.hid hl2
  clear hb2 hl2 hl
  subst hk
  all_goals
    go_enter Tryz.func88, Tryz.ntmps88
    go_wp2_with fail
    refine (i_Itoa tn _ (HL2.out _).tab (by omega) (by omega)).mono ?_
    rintro e wk ⟨rfl, hbk⟩
    obtain ⟨hcc, hff⟩ := bcellx hbk
    go_wp2_with fail
    go_ret
    refine ⟨?_, (HB2.out _).trans (hbk.mono (by simp; omega))⟩
    exact congrArg (fun x : ByteArray => Ending.returned (.string x)) (by rw [← bsOf_blOf tf, ← bsOf_blOf tt]; show bsOf _ ++ bsOf _ ++ bsOf _ ++ bsOf _ ++ bsOf _ ++ bsOf _ = _; rw [bsOf_app, bsOf_app, bsOf_app, bsOf_app, bsOf_app]; congr 1; simp [nmK, nmB, ofB, blOf_bsOf])
end Go.Proofs.YtgbhaaongmlpkaaGreatDoor
