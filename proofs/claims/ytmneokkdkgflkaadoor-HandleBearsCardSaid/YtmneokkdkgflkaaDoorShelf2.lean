/- Contracts of Go's library that this claim uses, laid by the kit's own program at this translation's numbers. -/
import Derived.Shelf.Small.Bits
import Derived.Shelf.Small.Wraps
import Derived.Shelf.Sort.Plain
import Derived.Ground.Names2Prog
import Derived.Shelf.Slices.SearchI
import Derived.Shelf.Slices.In.SortNone
import Derived.Test.YtmneokkdkgflkaaDoorProg
namespace Go.Proofs
open Go.Shelf
def Tryd.lays189_ren : Go.Shelf.Ren := ⟨fun | 189 => 90 | 125 => 105 | 257 => 104 | 128 => 125 | 129 => 126 | 294 => 116 | 295 => 117 | 296 => 118 | 297 => 119 | 298 => 120 | 299 => 121 | 216 => 122 | 300 => 123 | 301 => 124 | 328 => 135 | 329 => 136 | 330 => 137 | 331 => 138 | 332 => 139 | 215 => 140 | 343 => 142 | n => n, fun | 28 => 22 | 3 => 3 | 46 => 91 | 0 => 0 | 51 => 92 | 53 => 115 | 4 => 4 | 183 => 135 | 182 => 134 | 131 => 44 | 5 => 5 | 9 => 9 | 218 => 148 | 222 => 152 | 228 => 155 | 229 => 156 | n => n, fun | n => n⟩
theorem Tryd.lays189 : Go.Proofs.Lays.n189 Tryd.prog Tryd.lays189_ren := {
  mixed := by kernel_rfl
  f125 := Tryd.func105.trans (congrArg some (by kernel_rfl))
  f128 := Tryd.func125.trans (congrArg some (by kernel_rfl))
  f129 := Tryd.func126.trans (congrArg some (by kernel_rfl))
  f189 := Tryd.func90.trans (congrArg some (by kernel_rfl))
  f215 := Tryd.func140.trans (congrArg some (by kernel_rfl))
  f216 := Tryd.func122.trans (congrArg some (by kernel_rfl))
  f257 := Tryd.func104.trans (congrArg some (by kernel_rfl))
  f294 := Tryd.func116.trans (congrArg some (by kernel_rfl))
  f295 := Tryd.func117.trans (congrArg some (by kernel_rfl))
  f296 := Tryd.func118.trans (congrArg some (by kernel_rfl))
  f297 := Tryd.func119.trans (congrArg some (by kernel_rfl))
  f298 := Tryd.func120.trans (congrArg some (by kernel_rfl))
  f299 := Tryd.func121.trans (congrArg some (by kernel_rfl))
  f300 := Tryd.func123.trans (congrArg some (by kernel_rfl))
  f301 := Tryd.func124.trans (congrArg some (by kernel_rfl))
  f328 := Tryd.func135.trans (congrArg some (by kernel_rfl))
  f329 := Tryd.func136.trans (congrArg some (by kernel_rfl))
  f330 := Tryd.func137.trans (congrArg some (by kernel_rfl))
  f331 := Tryd.func138.trans (congrArg some (by kernel_rfl))
  f332 := Tryd.func139.trans (congrArg some (by kernel_rfl))
  f343 := Tryd.func142.trans (congrArg some (by kernel_rfl))
  t0 := Tryd.underlying0
  a0 := Tryd.isAgg0
  z0 := Tryd.sizeOf0
  v0 := Tryd.zeroValue0
  t3 := Tryd.underlying3
  a3 := Tryd.isAgg3
  z3 := Tryd.sizeOf3
  v3 := Tryd.zeroValue3
  t4 := Tryd.underlying4
  a4 := Tryd.isAgg4
  z4 := Tryd.sizeOf4
  v4 := Tryd.zeroValue4
  t5 := Tryd.underlying5
  a5 := Tryd.isAgg5
  z5 := Tryd.sizeOf5
  v5 := Tryd.zeroValue5
  t9 := Tryd.underlying9
  a9 := Tryd.isAgg9
  z9 := Tryd.sizeOf9
  v9 := Tryd.zeroValue9
  t28 := Tryd.underlying22
  a28 := Tryd.isAgg22
  z28 := Tryd.sizeOf22
  v28 := Tryd.zeroValue22
  t46 := Tryd.underlying91
  a46 := Tryd.isAgg91
  z46 := Tryd.sizeOf91
  v46 := Tryd.zeroValue91
  t51 := Tryd.underlying92
  a51 := Tryd.isAgg92
  z51 := Tryd.sizeOf92
  v51 := Tryd.zeroValue92
  t53 := Tryd.underlying115
  a53 := Tryd.isAgg115
  z53 := Tryd.sizeOf115
  v53 := Tryd.zeroValue115
  t131 := Tryd.underlying44
  a131 := Tryd.isAgg44
  z131 := Tryd.sizeOf44
  v131 := Tryd.zeroValue44
  t182 := Tryd.underlying134
  a182 := Tryd.isAgg134
  z182 := Tryd.sizeOf134
  v182 := Tryd.zeroValue134
  t183 := Tryd.underlying135
  a183 := Tryd.isAgg135
  z183 := Tryd.sizeOf135
  v183 := Tryd.zeroValue135
  t218 := Tryd.underlying148
  a218 := Tryd.isAgg148
  z218 := Tryd.sizeOf148
  v218 := Tryd.zeroValue148
  t222 := Tryd.underlying152
  a222 := Tryd.isAgg152
  z222 := Tryd.sizeOf152
  v222 := Tryd.zeroValue152
  t228 := Tryd.underlying155
  a228 := Tryd.isAgg155
  z228 := Tryd.sizeOf155
  v228 := Tryd.zeroValue155
  t229 := Tryd.underlying156
  a229 := Tryd.isAgg156
  z229 := Tryd.sizeOf156
  v229 := Tryd.zeroValue156 }
open Go.Sort Go.RowKit in
theorem Tryd.slices_Sort_int (blk off cap : Nat) (zs : List Int) (w : World) (hH : Holds (Value.int .i64) w blk off zs.toArray) (hblk : blk < w.heap.size) (hsz : zs.length < 4611686018427387904) :
    Calls Tryd.prog 90 #[.slice (some ⟨blk, off, none⟩) zs.length cap] w fun e w' =>
      e = .returned (.tuple #[]) ∧ ∃ n os, w' = grow (putRow (Value.int .i64) (Sort.ahead w n) blk off (zs.mergeSort fun x y => decide (x ≤ y)).toArray) os := Any.slices_Sort_int Tryd.lays189 blk off cap zs w hH hblk hsz
open Go.RowKit Go.Sort in
/-- .. and plain. (LAID: no walk: one application.) -/
theorem Tryd.slices_Sort_int_none (p : Option Addr) (cap : Nat) (w : World) :
    Calls Tryd.prog 90 #[.slice p 0 cap] w fun e w' => e = .returned (.tuple #[]) ∧ w' = w := Any.slices_Sort_int_none Tryd.lays189 p cap w
end Go.Proofs
