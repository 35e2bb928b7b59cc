/- Contracts of Go's library that this claim uses, laid by the kit's own program at this translation's numbers. -/
import Derived.Shelf.Sort.Plain
import Derived.Shelf.Slices.In.SortNone
import Derived.Test.YtjfphobfikadlaaDoorProg
namespace Go.Proofs
open Go.Shelf
def Tryd.lays189_ren : Go.Shelf.Ren := ⟨fun | 189 => 34 | 125 => 53 | 257 => 52 | 128 => 82 | 129 => 83 | 294 => 73 | 295 => 74 | 296 => 75 | 297 => 76 | 298 => 77 | 299 => 78 | 216 => 79 | 300 => 80 | 301 => 81 | 328 => 93 | 329 => 94 | 330 => 95 | 331 => 96 | 332 => 97 | 215 => 98 | 343 => 102 | n => n, fun | 28 => 22 | 3 => 3 | 46 => 81 | 0 => 0 | 51 => 105 | 53 => 107 | 4 => 4 | 183 => 98 | 182 => 97 | 131 => 102 | 5 => 5 | 9 => 9 | 218 => 112 | 222 => 116 | 228 => 120 | 229 => 121 | n => n, fun | n => n⟩
theorem Tryd.lays189 : Go.Proofs.Lays.n189 Tryd.prog Tryd.lays189_ren := {
  mixed := by kernel_rfl
  f125 := Tryd.func53.trans (congrArg some (by kernel_rfl))
  f128 := Tryd.func82.trans (congrArg some (by kernel_rfl))
  f129 := Tryd.func83.trans (congrArg some (by kernel_rfl))
  f189 := Tryd.func34.trans (congrArg some (by kernel_rfl))
  f215 := Tryd.func98.trans (congrArg some (by kernel_rfl))
  f216 := Tryd.func79.trans (congrArg some (by kernel_rfl))
  f257 := Tryd.func52.trans (congrArg some (by kernel_rfl))
  f294 := Tryd.func73.trans (congrArg some (by kernel_rfl))
  f295 := Tryd.func74.trans (congrArg some (by kernel_rfl))
  f296 := Tryd.func75.trans (congrArg some (by kernel_rfl))
  f297 := Tryd.func76.trans (congrArg some (by kernel_rfl))
  f298 := Tryd.func77.trans (congrArg some (by kernel_rfl))
  f299 := Tryd.func78.trans (congrArg some (by kernel_rfl))
  f300 := Tryd.func80.trans (congrArg some (by kernel_rfl))
  f301 := Tryd.func81.trans (congrArg some (by kernel_rfl))
  f328 := Tryd.func93.trans (congrArg some (by kernel_rfl))
  f329 := Tryd.func94.trans (congrArg some (by kernel_rfl))
  f330 := Tryd.func95.trans (congrArg some (by kernel_rfl))
  f331 := Tryd.func96.trans (congrArg some (by kernel_rfl))
  f332 := Tryd.func97.trans (congrArg some (by kernel_rfl))
  f343 := Tryd.func102.trans (congrArg some (by kernel_rfl))
  t0 := Tryd.underlying0
  a0 := Tryd.isAgg0
  z0 := Tryd.sizeOf0
  v0 := Tryd.zeroValue0
  t3 := Tryd.underlying3
  a3 := Tryd.isAgg3
  z3 := Tryd.sizeOf3
  v3 := Tryd.zeroValue3
  t4 := Tryd.underlying4
  a4 := Tryd.isAgg4
  z4 := Tryd.sizeOf4
  v4 := Tryd.zeroValue4
  t5 := Tryd.underlying5
  a5 := Tryd.isAgg5
  z5 := Tryd.sizeOf5
  v5 := Tryd.zeroValue5
  t9 := Tryd.underlying9
  a9 := Tryd.isAgg9
  z9 := Tryd.sizeOf9
  v9 := Tryd.zeroValue9
  t28 := Tryd.underlying22
  a28 := Tryd.isAgg22
  z28 := Tryd.sizeOf22
  v28 := Tryd.zeroValue22
  t46 := Tryd.underlying81
  a46 := Tryd.isAgg81
  z46 := Tryd.sizeOf81
  v46 := Tryd.zeroValue81
  t51 := Tryd.underlying105
  a51 := Tryd.isAgg105
  z51 := Tryd.sizeOf105
  v51 := Tryd.zeroValue105
  t53 := Tryd.underlying107
  a53 := Tryd.isAgg107
  z53 := Tryd.sizeOf107
  v53 := Tryd.zeroValue107
  t131 := Tryd.underlying102
  a131 := Tryd.isAgg102
  z131 := Tryd.sizeOf102
  v131 := Tryd.zeroValue102
  t182 := Tryd.underlying97
  a182 := Tryd.isAgg97
  z182 := Tryd.sizeOf97
  v182 := Tryd.zeroValue97
  t183 := Tryd.underlying98
  a183 := Tryd.isAgg98
  z183 := Tryd.sizeOf98
  v183 := Tryd.zeroValue98
  t218 := Tryd.underlying112
  a218 := Tryd.isAgg112
  z218 := Tryd.sizeOf112
  v218 := Tryd.zeroValue112
  t222 := Tryd.underlying116
  a222 := Tryd.isAgg116
  z222 := Tryd.sizeOf116
  v222 := Tryd.zeroValue116
  t228 := Tryd.underlying120
  a228 := Tryd.isAgg120
  z228 := Tryd.sizeOf120
  v228 := Tryd.zeroValue120
  t229 := Tryd.underlying121
  a229 := Tryd.isAgg121
  z229 := Tryd.sizeOf121
  v229 := Tryd.zeroValue121 }
open Go.Sort Go.RowKit in
theorem Tryd.slices_Sort_int (blk off cap : Nat) (zs : List Int) (w : World) (hH : Holds (Value.int .i64) w blk off zs.toArray) (hblk : blk < w.heap.size) (hsz : zs.length < 4611686018427387904) :
    Calls Tryd.prog 34 #[.slice (some ⟨blk, off, none⟩) zs.length cap] w fun e w' =>
      e = .returned (.tuple #[]) ∧ ∃ n os, w' = grow (putRow (Value.int .i64) (Sort.ahead w n) blk off (zs.mergeSort fun x y => decide (x ≤ y)).toArray) os := Any.slices_Sort_int Tryd.lays189 blk off cap zs w hH hblk hsz
open Go.RowKit Go.Sort in
/-- .. and plain. (LAID: no walk: one application.) -/
theorem Tryd.slices_Sort_int_none (p : Option Addr) (cap : Nat) (w : World) :
    Calls Tryd.prog 34 #[.slice p 0 cap] w fun e w' => e = .returned (.tuple #[]) ∧ w' = w := Any.slices_Sort_int_none Tryd.lays189 p cap w
end Go.Proofs
