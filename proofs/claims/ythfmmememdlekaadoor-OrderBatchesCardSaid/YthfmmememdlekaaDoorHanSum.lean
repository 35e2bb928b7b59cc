/- Contracts of the sum: its constants, its padding, the whole. -/
import Derived.Test.YthfmmememdlekaaDoorHanSha
set_option linter.unusedVariables false
set_option linter.unusedSimpArgs false
namespace Go.Proofs.YthfmmememdlekaaDoor
open Go.RowKit Num

/-- The constants of the rounds, and the state at the beginning. -/
def shaK : List Int := [0x428a2f98, 0x71374491, 0xb5c0fbcf, 0xe9b5dba5, 0x3956c25b, 0x59f111f1, 0x923f82a4, 0xab1c5ed5, 0xd807aa98, 0x12835b01, 0x243185be, 0x550c7dc3, 0x72be5d74, 0x80deb1fe, 0x9bdc06a7, 0xc19bf174, 0xe49b69c1, 0xefbe4786, 0x0fc19dc6, 0x240ca1cc, 0x2de92c6f, 0x4a7484aa, 0x5cb0a9dc, 0x76f988da, 0x983e5152, 0xa831c66d, 0xb00327c8, 0xbf597fc7, 0xc6e00bf3, 0xd5a79147, 0x06ca6351, 0x14292967, 0x27b70a85, 0x2e1b2138, 0x4d2c6dfc, 0x53380d13, 0x650a7354, 0x766a0abb, 0x81c2c92e, 0x92722c85, 0xa2bfe8a1, 0xa81a664b, 0xc24b8b70, 0xc76c51a3, 0xd192e819, 0xd6990624, 0xf40e3585, 0x106aa070, 0x19a4c116, 0x1e376c08, 0x2748774c, 0x34b0bcb5, 0x391c0cb3, 0x4ed8aa4a, 0x5b9cca4f, 0x682e6ff3, 0x748f82ee, 0x78a5636f, 0x84c87814, 0x8cc70208, 0x90befffa, 0xa4506ceb, 0xbef9a3f7, 0xc67178f2]
def kOf (i : Nat) : Int := shaK.getD i 0
def shaB : List Int := [0x6a09e667, 0xbb67ae85, 0x3c6ef372, 0xa54ff53a, 0x510e527f, 0x9b05688c, 0x1f83d9ab, 0x5be0cd19]
def bOf (i : Nat) : Int := shaB.getD i 0

theorem map_get (l : List Int) (i : Nat) (h : i < l.length) : (l.map (Value.int .u32)).toArray[i]? = some (.int .u32 (l.getD i 0)) := by
  simp [List.getD, h]
theorem d_begin (w : World) :
    Calls Tryd.prog 86 #[] w fun r w' => r = .returned (.agg (shaB.map (Value.int .u32)).toArray) ∧ Below w.heap.size w w' := by
  go_enter Tryd.func86, Tryd.ntmps86
  go_wp2_with fail
  exact bodyPost_ret (v := .agg (shaB.map (Value.int .u32)).toArray) (by simp [results, Tryd.results86, go_sem, shaB]) rfl ⟨rfl, (Below.refl _ _).alloc (Nat.le_refl _) _⟩
set_option maxRecDepth 100000 in
set_option maxHeartbeats 2000000 in
theorem d_constants (w : World) :
    Calls Tryd.prog 87 #[] w fun r w' => r = .returned (.pointer (some ⟨w.heap.size, 0, none⟩)) ∧ Below w.heap.size w w' ∧ w.heap.size < w'.heap.size ∧ Arr w' w.heap.size 64 kOf := by
  go_enter Tryd.func87, Tryd.ntmps87
  go_wp2_with fail
  go_ret
  refine ⟨rfl, (Below.refl _ _).alloc (Nat.le_refl _) _, by simp, ⟨fun i hi => ?_, fun i hi => World.frozen?_alloc_new _ _ _ _⟩⟩
  rw [World.cell?_alloc_new]
  exact map_get shaK i hi
end Go.Proofs.YthfmmememdlekaaDoor
