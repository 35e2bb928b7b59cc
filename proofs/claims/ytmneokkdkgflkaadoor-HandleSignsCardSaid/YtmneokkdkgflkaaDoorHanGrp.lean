/- Contracts: the group of a safe prime. -/
import Derived.Test.YtmneokkdkgflkaaDoorHanVal
set_option linter.unusedVariables false
set_option linter.unusedSimpArgs false
namespace Go.Proofs.YtmneokkdkgflkaaDoor
open Go.RowKit Num

theorem cellOf {B : Nat} {w w' : World} (h : Below B w w') {a : Addr} {v : Value} (hc : w.cell? a = some v) (hB : w.heap.size ≤ B) : w'.cell? a = some v := by
  rw [h.cell (Nat.lt_of_lt_of_le (World.block_lt_of_cell? w a hc) hB)]
  exact hc
theorem BasesOk.below {w w' : World} (h : BasesOk w) (hb : Below w.heap.size w w') : BasesOk w' :=
  ⟨cellOf hb h.1 (Nat.le_refl _), cellOf hb h.2.1 (Nat.le_refl _), cellOf hb h.2.2.1 (Nat.le_refl _), cellOf hb h.2.2.2 (Nat.le_refl _)⟩
theorem BasesOk.alloc {w : World} (h : BasesOk w) (o : Obj) : BasesOk (w.alloc o) := h.below ((Below.refl _ _).alloc (Nat.le_refl _) _)
/-- A safe prime: it and twice it plus one are prime. -/
def SPrm (p : Nat) : Prop := Prm p ∧ Prm (2 * p + 1) ∧ 3 ≤ p ∧ p ≤ 1073741823
theorem safe_sprm {p : Nat} (h : Num.Safe p) : SPrm p := ⟨safe_prm h, safe_prm2 h, (safe_bd h).1, by have := (safe_bd h).2; omega⟩

set_option maxHeartbeats 400000 in
theorem h_Modulus (p : Nat) (w : World) (hw : BasesOk w) (h : SPrm p) :
    Calls Tryd.prog 23 #[.int .i64 (p : Int)] w fun r w' => r = .returned (.tuple #[.int .i64 ((2 * p + 1 : Nat) : Int), .bool true]) ∧ w = w' := by
  obtain ⟨h1, h2, h3, h4⟩ := h
  go_enter Tryd.func23, Tryd.ntmps23
  go_wp2_with fail
  refine (f_Valid p _ hw h1 (by omega)).mono ?_
  rintro e w' ⟨rfl, rfl⟩
  go_wp2_with fail
  refine (h_prime (2 * p + 1) _ h2 (by omega) (by omega)).mono ?_
  rintro e w' ⟨rfl, rfl⟩
  go_wp2_with fail
  go_ret2
  exact ⟨rfl, rfl⟩
set_option maxHeartbeats 400000 in
theorem h_of (p : Nat) (w : World) (hw : BasesOk w) (h : SPrm p) :
    Calls Tryd.prog 58 #[.int .i64 (p : Int)] w fun r w' => r = .returned (.tuple #[.agg #[.int .i64 (p : Int), .int .i64 ((2 * p + 1 : Nat) : Int)], .bool true]) ∧ Below w.heap.size w w' := by
  have h4 := h.2.2
  have hw1 := fun o => hw.alloc o
  go_enter Tryd.func58, Tryd.ntmps58
  go_wp2_with fail
  refine (h_Modulus p _ (hw1 _) h).mono ?_
  rintro e w' ⟨rfl, rfl⟩
  go_wp2_with fail
  exact bodyPost_ret (v := .tuple #[.agg #[.int .i64 (p : Int), .int .i64 ((2 * p + 1 : Nat) : Int)], .bool true]) (by simp [results, Tryd.results58, go_sem]) rfl ⟨rfl, (Below.refl _ _).alloc (Nat.le_refl _) _⟩
set_option maxHeartbeats 400000 in
theorem h_Member (p : Nat) (x : Int) (w : World) (hw : BasesOk w) (h : SPrm p) :
    Calls Tryd.prog 25 #[.int .i64 (p : Int), .int .i64 x] w fun r w' => r = .returned (.bool (inG p (2 * p + 1) x)) ∧ Below w.heap.size w w' := by
  have h4 := h.2.2
  have hw1 := fun o => hw.alloc o
  go_enter Tryd.func25, Tryd.ntmps25
  go_wp2_with fail
  refine (h_of p _ (by first | exact hw | exact hw1 _) h).mono ?_
  rintro e w1 ⟨rfl, hb1⟩
  go_wp2_with fail
  refine (h_has p (2 * p + 1) x _ (by omega) (by omega) (by omega)).mono ?_
  rintro e w' ⟨rfl, hb⟩
  go_wp2_with fail
  all_goals go_ret
  exact ⟨rfl, (hb1.alloc hb1.size _).trans (hb.mono (by have := hb1.size; simp; omega))⟩
end Go.Proofs.YtmneokkdkgflkaaDoor
