/- The reference's sum: a block. -/
import Derived.Test.YtmneokkdkgflkaaDoorHanSumW
import Derived.Test.YtmneokkdkgflkaaDoorRegLast
import Derived.BigRegion
set_option linter.unusedVariables false
set_option linter.unusedSimpArgs false
namespace Go.Proofs.YtmneokkdkgflkaaDoor
open Go.RowKit Num

theorem or_comm32 (a b : Int) : bits .or .u32 a b = bits .or .u32 b a := by
  show IntKind.u32.wrap ((BitVec.ofInt 32 a ||| BitVec.ofInt 32 b).toNat : Int) = IntKind.u32.wrap ((BitVec.ofInt 32 b ||| BitVec.ofInt 32 a).toNat : Int)
  rw [BitVec.or_comm]

set_option maxHeartbeats 1000000 in
theorem rf_right (x : Int) (n : Nat) (w : World) (h : n ∈ rots) :
    Calls Tryd.prog 115 #[.int .u32 x, .int .i64 (n : Int)] w fun r w' => r = .returned (.int .u32 (rot x n)) ∧ w = w' := by
  simp only [rots, List.mem_cons, List.mem_nil_iff, or_false] at h
  rcases h with rfl | rfl | rfl | rfl | rfl | rfl | rfl | rfl | rfl | rfl <;>
  (go_enter Tryd.func115, Tryd.ntmps115
   go_wp2
   go_ret
   refine ⟨?_, rfl⟩
   rw [rot, or_comm32]
   rfl)

theorem rf_word (b : ByteArray) (w : World) (h : 4 ≤ b.size) :
    Calls Tryd.prog 114 #[.string b] w fun r w' => r = .returned (.int .u32 (word4 (byteAt b 0) (byteAt b 1) (byteAt b 2) (byteAt b 3))) ∧ ∃ n, w' = w.drewN n := by
  have i0 : ∀ w, (Instr.index 9 (.string b) (.int .i64 0)).run Tryd.prog w = .ok (.int .u8 (byteAt b 0)) w := fun w => index_byte b 0 (by omega) w
  have i1 : ∀ w, (Instr.index 9 (.string b) (.int .i64 1)).run Tryd.prog w = .ok (.int .u8 (byteAt b 1)) w := fun w => index_byte b 1 (by omega) w
  have i2 : ∀ w, (Instr.index 9 (.string b) (.int .i64 2)).run Tryd.prog w = .ok (.int .u8 (byteAt b 2)) w := fun w => index_byte b 2 (by omega) w
  have i3 : ∀ w, (Instr.index 9 (.string b) (.int .i64 3)).run Tryd.prog w = .ok (.int .u8 (byteAt b 3)) w := fun w => index_byte b 3 (by omega) w
  have z0 := byteAt_bd b 0
  have z1 := byteAt_bd b 1
  have z2 := byteAt_bd b 2
  have z3 := byteAt_bd b 3
  generalize byteAt b 0 = c0 at *
  generalize byteAt b 1 = c1 at *
  generalize byteAt b 2 = c2 at *
  generalize byteAt b 3 = c3 at *
  go_enter Tryd.func114, Tryd.ntmps114
  go_wp2_with fail
  go_quiet (fail)
  go_wp2_with fail
  go_ret
  refine ⟨rfl, ?_⟩
  exact ⟨_, rfl⟩
end Go.Proofs.YtmneokkdkgflkaaDoor
