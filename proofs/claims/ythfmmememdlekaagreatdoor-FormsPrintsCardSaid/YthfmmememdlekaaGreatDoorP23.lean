/- Contracts: the deferred function that catches the reader's panic. Contracts: a text is read, or where it fails. -/
import Derived.Test.YthfmmememdlekaaGreatDoorP22
import Derived.Tactics2
import Derived.Defers
import Derived.Recover
import Derived.Laws.Pointers
set_option linter.unusedVariables false
set_option linter.unusedSimpArgs false
namespace Go.Proofs.YthfmmememdlekaaGreatDoor
open Go.RowKit Num

theorem run_wrong (n : Int) (w : World) : (Instr.typeAssert (.iface 156 (.int .i64 n)) 20 156 true).run Tryz.prog w = .ok (.tuple #[.int .i64 n, .bool true]) w := by
  have h := run_underlying (P := Tryz.prog) (w := w) Tryz.underlying156
  unfold Instr.typeAssert
  simp only [Sem.run_bind, h, Result.andThen_ok]
  simp [Sem.run]
def NormQ (w0 : World) (e : Exit) (a : Act) (w : World) : Prop := e = .normal ∧ a.defers = [] ∧ w = w0
set_option maxRecDepth 100000 in
set_option maxHeartbeats 1000000 in
theorem catch_idle (p : Addr) (w : World) :
    CallsD Tryz.prog 100 #[.pointer (some p)] .returning w fun e u' w' => e = .returned (.tuple #[]) ∧ u' = .returning ∧ w' = w := by
  refine callsD_of_wpS Tryz.func100 rfl fun c₀ cs hu => ?_
  apply wpS_seq
  apply wpS_region
  simp [wpOpsS, go_sem, recoverD, hu, Tryz.ntmps100, Exit.thenS]
  simp only [Array.replicate_succ, Array.replicate_zero, List.push_toArray, List.append_toArray, List.nil_append, List.cons_append, List.setIfInBounds_toArray, List.set_cons_zero, List.set_cons_succ]
  refine wpS_of_wp (Code.wp_mono (Q := NormQ w) (fun e a w' h => ?_) ?_)
  · obtain ⟨rfl, h2, rfl⟩ := h
    exact ⟨h2, .returning, by cases c₀; simp_all, _, results_none rfl _ _ _, rfl, rfl, rfl⟩
  · go_wp2_with fail
    exact ⟨rfl, rfl, rfl⟩
set_option maxRecDepth 100000 in
set_option maxHeartbeats 1000000 in
theorem catch_panicking (p : Addr) (x n : Int) (w : World) (hc : w.cell? p = some (.int .i64 x)) (hz : w.frozen? p = false) :
    CallsD Tryz.prog 100 #[.pointer (some p)] (.panicking (wrongCh n)) w fun e u' w' =>
      e = .returned (.tuple #[]) ∧ u' = .panicking [{ v := .iface 156 (.int .i64 n), recovered := true }] ∧ w' = w.setCell p (.int .i64 n) := by
  unfold wrongCh
  refine callsD_of_wpS Tryz.func100 rfl fun c₀ cs hu => ?_
  apply wpS_seq
  apply wpS_region
  simp [wpOpsS, go_sem, recoverD, hu, Tryz.ntmps100, Exit.thenS]
  simp only [Array.replicate_succ, Array.replicate_zero, List.push_toArray, List.append_toArray, List.nil_append, List.cons_append, List.setIfInBounds_toArray, List.set_cons_zero, List.set_cons_succ]
  clear hu
  have HW := run_wrong n w
  refine wpS_of_wp (Code.wp_mono (Q := NormQ (w.setCell p (.int .i64 n))) (fun e a w' h => ?_) ?_)
  · obtain ⟨rfl, h2, rfl⟩ := h
    exact ⟨h2, _, rfl, _, results_none rfl _ _ _, rfl, rfl, rfl⟩
  · go_wp2_with fail
    exact ⟨rfl, rfl, rfl⟩
end Go.Proofs.YthfmmememdlekaaGreatDoor
namespace Go.Proofs.YthfmmememdlekaaGreatDoor
open Go.RowKit Num

def ParsePost (w : World) (F : Nat) (o : Tree ⊕ Nat) (e : Ending) (w' : World) : Prop := Below w.heap.size w w' ∧ match o with
  | .inr k => ∃ v, e = .returned (.tuple #[v, .int .i64 (k : Int)])
  | .inl T => ∃ v, e = .returned (.tuple #[v, .int .i64 (-1)]) ∧ TreeZ w' (NewS w w') F v T
abbrev parW (w : World) (s : ByteArray) : World := (w.alloc (.cells #[.int .i64 (-1)] 3)).alloc (.cells #[.string s, .int .i64 0] 155)
set_option maxRecDepth 100000 in
set_option maxHeartbeats 4000000 in
theorem f_parse_bad (s : ByteArray) (q : List UInt8) (w : World) (hs : s.size ≤ 100000) (hl : LibOk w) (hp : PF (s.size + 1) .cond (spaceB (blOf s)) = .bad q) :
    Calls Tryz.prog 65 #[.string s] w (ParsePost w (s.size + 1) (.inr (posR s q))) := by
  have hmf : ∀ (fn : Fn) (first cap : Array Value) (w : World), (Instr.makeFunc fn first cap).run Tryz.prog w = .ok (.func fn first cap) w := fun _ _ _ _ => rfl
  have hb1 : Below w.heap.size w (parW w s) := ((Below.refl _ _).alloc (Nat.le_refl _) _).alloc (by simp) _
  have hbk : Blk (parW w s) (w.heap.size + 1) 155 #[.string s, .int .i64 ((0 : Nat) : Int)] := by
    have := Blk.new (w.alloc (.cells #[.int .i64 (-1)] 3)) 155 #[.string s, .int .i64 0]
    simpa using this
  have hrd : Rd (parW w s) (w.heap.size + 1) s (blOf s) := ⟨0, hbk, by omega, rfl⟩
  have hab : Blk (parW w s) w.heap.size 3 #[.int .i64 (-1)] := (Blk.new w 3 #[.int .i64 (-1)]).alloc _
  have h6 : 6 ≤ w.heap.size + 1 := by have := hl.size; omega
  have HRD := Lib.hid hrd
  have HAB := Lib.hid hab
  have HB1 := Lib.hid hb1
  have HL1 := Lib.hid (hl.later hb1)
  have HP := Lib.hid hp
  have hsl := space_len (blOf s)
  have hbl := blOf_len s
  have hbel : ∀ (W : World), (parW w s).grownBy W (some (w.heap.size + 1)) → Below w.heap.size w W := fun W hg => HB1.out.trans ⟨hg.os, hg.tape, hg.output, hg.size, fun i hi => hg.block i (by simp; omega) (by intro e; injection e with e; omega)⟩
  have HBEL := Lib.hid hbel
  clear hbel
  clear hb1 hbk hrd hab hl hp
  go_enter_defers Tryz.func65, Tryz.ntmps65
  go_wp2_with fail
  refine (f_space (w.heap.size + 1) s (blOf s) _ HRD.out hs).mono ?_
  rintro e w2 ⟨rfl, hrd2, hg2⟩
  have HRD2 := Lib.hid hrd2
  have HL2 := Lib.hid (HL1.out.rb hg2 h6)
  have hab2 := Blk.grown' HAB.out hg2 (by intro e; injection e with e; omega)
  have HAB2 := Lib.hid hab2
  have HG2 := Lib.hid hg2
  have hs2 : w.heap.size + 2 ≤ w2.heap.size := by have := hg2.size; simp at this; omega
  clear hrd2 hg2 hab2
  go_wp2_with fail
  refine (f_condition (s.size + 1) (w.heap.size + 1) s _ _ HRD2.out (by omega) h6 hs HL2.out).mono ?_
  rw [HP.out]
  rintro e w3 ⟨hg3, rfl⟩
  have hab3 := Blk.grown' HAB2.out hg3 (by intro e; injection e with e; omega)
  have c3 := (hab3.cell 0).trans (show _ = some (Value.int .i64 (-1)) from rfl)
  have f3 := hab3.frozen 0
  have HB3 := Lib.hid (HBEL.out w3 (HG2.out.trans hg3))
  clear hg3
  go_wp2_with fail
  refine leaves_cons (f := 100) (args := #[.pointer (some ⟨w.heap.size, 0, none⟩)]) (by simp) (by simp [go_sem]) ?_
  refine (catch_panicking ⟨w.heap.size, 0, none⟩ (-1) _ _ c3 f3).mono ?_
  rintro e u' w'' ⟨rfl, rfl, rfl⟩
  have hk3 : (w3.setCell ⟨w.heap.size, 0, none⟩ (.int .i64 (posR s q : Int))).cell? ⟨w.heap.size, 0, none⟩ = some (.int .i64 (posR s q : Int)) := World.cell?_setCell_same _ _ _ c3
  have hfin : Below w.heap.size w (w3.setCell ⟨w.heap.size, 0, none⟩ (.int .i64 (posR s q : Int))) := HB3.out.setCell (Nat.le_refl _) _
  simp [Leaves, settle, results, Tryz.results65, go_sem, hk3]
  exact ⟨hfin, _, rfl⟩
set_option maxRecDepth 100000 in
set_option maxHeartbeats 4000000 in
theorem f_parse_rest (s : ByteArray) (q : List UInt8) (T : Tree) (w : World) (hs : s.size ≤ 100000) (hl : LibOk w) (hp : PF (s.size + 1) .cond (spaceB (blOf s)) = .ok [T] q) (hq : q ≠ []) :
    Calls Tryz.prog 65 #[.string s] w (ParsePost w (s.size + 1) (.inr (posR s q))) := by
  have hql : posR s q < s.size := by
    have h1 := (PF_len _ _ _ _ _ hp).1
    have h2 := space_len (blOf s)
    have h3 := blOf_len s
    have h4 := List.length_pos_iff.2 hq
    unfold posR; omega
  clear hq
  have hmf : ∀ (fn : Fn) (first cap : Array Value) (w : World), (Instr.makeFunc fn first cap).run Tryz.prog w = .ok (.func fn first cap) w := fun _ _ _ _ => rfl
  have hb1 : Below w.heap.size w (parW w s) := ((Below.refl _ _).alloc (Nat.le_refl _) _).alloc (by simp) _
  have hbk : Blk (parW w s) (w.heap.size + 1) 155 #[.string s, .int .i64 ((0 : Nat) : Int)] := by
    have := Blk.new (w.alloc (.cells #[.int .i64 (-1)] 3)) 155 #[.string s, .int .i64 0]
    simpa using this
  have hrd : Rd (parW w s) (w.heap.size + 1) s (blOf s) := ⟨0, hbk, by omega, rfl⟩
  have hab : Blk (parW w s) w.heap.size 3 #[.int .i64 (-1)] := (Blk.new w 3 #[.int .i64 (-1)]).alloc _
  have h6 : 6 ≤ w.heap.size + 1 := by have := hl.size; omega
  have HRD := Lib.hid hrd
  have HAB := Lib.hid hab
  have HB1 := Lib.hid hb1
  have HL1 := Lib.hid (hl.later hb1)
  have HP := Lib.hid hp
  have hsl := space_len (blOf s)
  have hbl := blOf_len s
  have hbel : ∀ (W : World), (parW w s).grownBy W (some (w.heap.size + 1)) → Below w.heap.size w W := fun W hg => HB1.out.trans ⟨hg.os, hg.tape, hg.output, hg.size, fun i hi => hg.block i (by simp; omega) (by intro e; injection e with e; omega)⟩
  have HBEL := Lib.hid hbel
  clear hbel
  clear hb1 hbk hrd hab hl hp
  go_enter_defers Tryz.func65, Tryz.ntmps65
  go_wp2_with fail
  refine (f_space (w.heap.size + 1) s (blOf s) _ HRD.out hs).mono ?_
  rintro e w2 ⟨rfl, hrd2, hg2⟩
  have HRD2 := Lib.hid hrd2
  have HL2 := Lib.hid (HL1.out.rb hg2 h6)
  have hab2 := Blk.grown' HAB.out hg2 (by intro e; injection e with e; omega)
  have HAB2 := Lib.hid hab2
  have HG2 := Lib.hid hg2
  have hs2 : w.heap.size + 2 ≤ w2.heap.size := by have := hg2.size; simp at this; omega
  clear hrd2 hg2 hab2
  go_wp2_with fail
  refine (f_condition (s.size + 1) (w.heap.size + 1) s _ _ HRD2.out (by omega) h6 hs HL2.out).mono ?_
  rw [HP.out]
  rintro e w3 ⟨hg3, v, rfl, hrd3, ht3⟩
  have hab3 := Blk.grown' HAB2.out hg3 (by intro e; injection e with e; omega)
  have c3 := (hab3.cell 0).trans (show _ = some (Value.int .i64 (-1)) from rfl)
  have f3 := hab3.frozen 0
  have HB3 := Lib.hid (HBEL.out w3 (HG2.out.trans hg3))
  have HBK3 := Lib.hid hrd3.pos.1
  have r3 := (hrd3.pos.1.cell 1).trans (show _ = some (Value.int .i64 (posR s q : Int)) from rfl)
  have HT3 := Lib.hid ht3
  obtain ⟨vb, rfl, hvb⟩ := ht3.ptr
  clear hg3 hrd3 ht3
  go_wp2_with fail
  refine (f_fail (w.heap.size + 1) (posR s q) s _ HBK3.out).mono ?_
  rintro e w4 ⟨rfl, rfl⟩
  go_wp2_with fail
  refine leaves_cons (f := 100) (args := #[.pointer (some ⟨w.heap.size, 0, none⟩)]) (by simp) (by simp [go_sem]) ?_
  refine (catch_panicking ⟨w.heap.size, 0, none⟩ (-1) _ _ c3 f3).mono ?_
  rintro e u' w'' ⟨rfl, rfl, rfl⟩
  have hk3 : (w3.setCell ⟨w.heap.size, 0, none⟩ (.int .i64 (posR s q : Int))).cell? ⟨w.heap.size, 0, none⟩ = some (.int .i64 (posR s q : Int)) := World.cell?_setCell_same _ _ _ c3
  have hfin : Below w.heap.size w (w3.setCell ⟨w.heap.size, 0, none⟩ (.int .i64 (posR s q : Int))) := HB3.out.setCell (Nat.le_refl _) _
  simp [Leaves, settle, results, Tryz.results65, go_sem, hk3]
  exact ⟨hfin, _, rfl⟩
set_option maxRecDepth 100000 in
set_option maxHeartbeats 4000000 in
theorem f_parse_ok (s : ByteArray) (T : Tree) (w : World) (hs : s.size ≤ 100000) (hl : LibOk w) (hp : PF (s.size + 1) .cond (spaceB (blOf s)) = .ok [T] []) :
    Calls Tryz.prog 65 #[.string s] w (ParsePost w (s.size + 1) (.inl T)) := by
  have hmf : ∀ (fn : Fn) (first cap : Array Value) (w : World), (Instr.makeFunc fn first cap).run Tryz.prog w = .ok (.func fn first cap) w := fun _ _ _ _ => rfl
  have hb1 : Below w.heap.size w (parW w s) := ((Below.refl _ _).alloc (Nat.le_refl _) _).alloc (by simp) _
  have hbk : Blk (parW w s) (w.heap.size + 1) 155 #[.string s, .int .i64 ((0 : Nat) : Int)] := by
    have := Blk.new (w.alloc (.cells #[.int .i64 (-1)] 3)) 155 #[.string s, .int .i64 0]
    simpa using this
  have hrd : Rd (parW w s) (w.heap.size + 1) s (blOf s) := ⟨0, hbk, by omega, rfl⟩
  have hab : Blk (parW w s) w.heap.size 3 #[.int .i64 (-1)] := (Blk.new w 3 #[.int .i64 (-1)]).alloc _
  have h6 : 6 ≤ w.heap.size + 1 := by have := hl.size; omega
  have HRD := Lib.hid hrd
  have HAB := Lib.hid hab
  have HB1 := Lib.hid hb1
  have HL1 := Lib.hid (hl.later hb1)
  have HP := Lib.hid hp
  have hsl := space_len (blOf s)
  have hbl := blOf_len s
  have hbel : ∀ (W : World), (parW w s).grownBy W (some (w.heap.size + 1)) → Below w.heap.size w W := fun W hg => HB1.out.trans ⟨hg.os, hg.tape, hg.output, hg.size, fun i hi => hg.block i (by simp; omega) (by intro e; injection e with e; omega)⟩
  have HBEL := Lib.hid hbel
  clear hbel
  clear hb1 hbk hrd hab hl hp
  go_enter_defers Tryz.func65, Tryz.ntmps65
  go_wp2_with fail
  refine (f_space (w.heap.size + 1) s (blOf s) _ HRD.out hs).mono ?_
  rintro e w2 ⟨rfl, hrd2, hg2⟩
  have HRD2 := Lib.hid hrd2
  have HL2 := Lib.hid (HL1.out.rb hg2 h6)
  have hab2 := Blk.grown' HAB.out hg2 (by intro e; injection e with e; omega)
  have HAB2 := Lib.hid hab2
  have HG2 := Lib.hid hg2
  have hs2 : w.heap.size + 2 ≤ w2.heap.size := by have := hg2.size; simp at this; omega
  clear hrd2 hg2 hab2
  go_wp2_with fail
  refine (f_condition (s.size + 1) (w.heap.size + 1) s _ _ HRD2.out (by omega) h6 hs HL2.out).mono ?_
  rw [HP.out]
  rintro e w3 ⟨hg3, v, rfl, hrd3, ht3⟩
  have hab3 := Blk.grown' HAB2.out hg3 (by intro e; injection e with e; omega)
  have c3 := (hab3.cell 0).trans (show _ = some (Value.int .i64 (-1)) from rfl)
  have f3 := hab3.frozen 0
  have HB3 := Lib.hid (HBEL.out w3 (HG2.out.trans hg3))
  have r3 := (hrd3.pos.1.cell 1).trans (show _ = some (Value.int .i64 (s.size : Int)) from rfl)
  have HT3 := Lib.hid ht3
  obtain ⟨vb, rfl, hvb⟩ := ht3.ptr
  clear hg3 hrd3 ht3
  have hns : ¬ (s.size : Int) < (s.size : Int) := by omega
  have c3d : w3.drew.cell? ⟨w.heap.size, 0, none⟩ = some (.int .i64 (-1)) := c3
  have f3d : w3.drew.frozen? ⟨w.heap.size, 0, none⟩ = false := f3
  go_wp2_with fail
  go_region
  all_goals
    go_wp2_with fail
    refine leaves_cons (f := 100) (args := #[.pointer (some ⟨w.heap.size, 0, none⟩)]) (by simp) (by simp [go_sem]) ?_
    refine (catch_idle ⟨w.heap.size, 0, none⟩ _).mono ?_
    rintro e u' w'' ⟨rfl, rfl, rfl⟩
    have hk3 : ((w3.setCell ⟨w.heap.size, 0, none⟩ (.int .i64 (-1))).drew).cell? ⟨w.heap.size, 0, none⟩ = some (.int .i64 (-1)) := World.cell?_setCell_same _ _ _ c3
    have hfin : Below w.heap.size w ((w3.setCell ⟨w.heap.size, 0, none⟩ (.int .i64 (-1))).drew) := (HB3.out.setCell (Nat.le_refl _) _).drew
    have htr : TreeZ ((w3.setCell ⟨w.heap.size, 0, none⟩ (.int .i64 (-1))).drew) (NewS w ((w3.setCell ⟨w.heap.size, 0, none⟩ (.int .i64 (-1))).drew)) (s.size + 1) (.pointer (some ⟨vb, 0, none⟩)) T := by
      refine (HT3.out.keep (w' := (w3.setCell ⟨w.heap.size, 0, none⟩ (.int .i64 (-1))).drew) (fun b hb => Below.heap_setCell w3 ⟨w.heap.size, 0, none⟩ _ b ?_)).mono fun b hb => ⟨?_, ?_⟩
      · have := hb.1; show b ≠ w.heap.size; omega
      · have := hb.1; omega
      · have := hb.2; show b < (w3.setCell ⟨w.heap.size, 0, none⟩ (.int .i64 (-1))).heap.size; simpa [World.setCell] using this
    simp [Leaves, settle, results, Tryz.results65, go_sem, c3]
    exact ⟨hfin, _, rfl, htr⟩
theorem f_parse (s : ByteArray) (w : World) (hs : s.size ≤ 100000) (hl : LibOk w) :
    Calls Tryz.prog 65 #[.string s] w (ParsePost w (s.size + 1) (parseF (blOf s))) := by
  have hbl := blOf_len s
  rcases hp : PF (s.size + 1) .cond (spaceB (blOf s)) with ⟨xs, q⟩ | q
  · obtain ⟨T, rfl⟩ := (PF_len _ _ _ _ _ hp).2 rfl
    cases q with
    | nil =>
      have e : parseF (blOf s) = .inl T := by unfold parseF; rw [hbl, hp]
      rw [e]; exact f_parse_ok s T w hs hl hp
    | cons c q =>
      have e : parseF (blOf s) = .inr (posR s (c :: q)) := by unfold parseF; rw [hbl, hp]; rfl
      rw [e]; exact f_parse_rest s (c :: q) T w hs hl hp (by simp)
  · have e : parseF (blOf s) = .inr (posR s q) := by unfold parseF; rw [hbl, hp]; rfl
    rw [e]; exact f_parse_bad s q w hs hl hp
end Go.Proofs.YthfmmememdlekaaGreatDoor
