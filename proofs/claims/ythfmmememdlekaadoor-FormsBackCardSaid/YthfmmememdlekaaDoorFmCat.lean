/- Contracts: the deferred function that catches the reader's panic. -/
import Derived.Test.YthfmmememdlekaaDoorFmCnd
import Derived.Tactics2
import Derived.Defers
import Derived.Recover
import Derived.Laws.Pointers
set_option linter.unusedVariables false
set_option linter.unusedSimpArgs false
namespace Go.Proofs.YthfmmememdlekaaDoor
open Go.RowKit Num

theorem run_wrong (n : Int) (w : World) : (Instr.typeAssert (.iface 84 (.int .i64 n)) 20 84 true).run Tryd.prog w = .ok (.tuple #[.int .i64 n, .bool true]) w := by
  have h := run_underlying (P := Tryd.prog) (w := w) Tryd.underlying84
  unfold Instr.typeAssert
  simp only [Sem.run_bind, h, Result.andThen_ok]
  simp [Sem.run]
def NormQ (w0 : World) (e : Exit) (a : Act) (w : World) : Prop := e = .normal ∧ a.defers = [] ∧ w = w0
set_option maxRecDepth 100000 in
set_option maxHeartbeats 1000000 in
theorem catch_idle (p : Addr) (w : World) :
    CallsD Tryd.prog 36 #[.pointer (some p)] .returning w fun e u' w' => e = .returned (.tuple #[]) ∧ u' = .returning ∧ w' = w := by
  refine callsD_of_wpS Tryd.func36 rfl fun c₀ cs hu => ?_
  apply wpS_seq
  apply wpS_region
  simp [wpOpsS, go_sem, recoverD, hu, Tryd.ntmps36, Exit.thenS]
  simp only [Array.replicate_succ, Array.replicate_zero, List.push_toArray, List.append_toArray, List.nil_append, List.cons_append, List.setIfInBounds_toArray, List.set_cons_zero, List.set_cons_succ]
  refine wpS_of_wp (Code.wp_mono (Q := NormQ w) (fun e a w' h => ?_) ?_)
  · obtain ⟨rfl, h2, rfl⟩ := h
    exact ⟨h2, .returning, by cases c₀; simp_all, _, results_none rfl _ _ _, rfl, rfl, rfl⟩
  · go_wp2_with fail
    exact ⟨rfl, rfl, rfl⟩
set_option maxRecDepth 100000 in
set_option maxHeartbeats 1000000 in
theorem catch_panicking (p : Addr) (x n : Int) (w : World) (hc : w.cell? p = some (.int .i64 x)) (hz : w.frozen? p = false) :
    CallsD Tryd.prog 36 #[.pointer (some p)] (.panicking (wrongCh n)) w fun e u' w' =>
      e = .returned (.tuple #[]) ∧ u' = .panicking [{ v := .iface 84 (.int .i64 n), recovered := true }] ∧ w' = w.setCell p (.int .i64 n) := by
  unfold wrongCh
  refine callsD_of_wpS Tryd.func36 rfl fun c₀ cs hu => ?_
  apply wpS_seq
  apply wpS_region
  simp [wpOpsS, go_sem, recoverD, hu, Tryd.ntmps36, Exit.thenS]
  simp only [Array.replicate_succ, Array.replicate_zero, List.push_toArray, List.append_toArray, List.nil_append, List.cons_append, List.setIfInBounds_toArray, List.set_cons_zero, List.set_cons_succ]
  clear hu
  have HW := run_wrong n w
  refine wpS_of_wp (Code.wp_mono (Q := NormQ (w.setCell p (.int .i64 n))) (fun e a w' h => ?_) ?_)
  · obtain ⟨rfl, h2, rfl⟩ := h
    exact ⟨h2, _, rfl, _, results_none rfl _ _ _, rfl, rfl, rfl⟩
  · go_wp2_with fail
    exact ⟨rfl, rfl, rfl⟩
end Go.Proofs.YthfmmememdlekaaDoor
