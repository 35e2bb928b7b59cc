/- Contracts of Go's library that this claim uses, laid by the kit's own program at this translation's numbers. -/
import Derived.Shelf.Strings.BuilderF
import Derived.Shelf.Strings.Repeat
import Derived.Ground.Names2Prog
import Derived.Test.YtgeahbmaeaoeeaaGreatDoorProg
namespace Go.Proofs
open Go.Shelf
def Tryz.lays169_ren : Go.Shelf.Ren := ⟨fun | 169 => 106 | n => n, fun | 70 => 161 | 9 => 9 | 0 => 0 | 72 => 163 | 37 => 110 | 127 => 191 | 3 => 3 | 5 => 5 | n => n, fun | n => n⟩
theorem Tryz.lays169 : Go.Proofs.Lays.n169 Tryz.prog Tryz.lays169_ren := {
  mixed := by kernel_rfl
  f169 := Tryz.func106.trans (congrArg some (by kernel_rfl))
  t0 := Tryz.underlying0
  a0 := Tryz.isAgg0
  z0 := Tryz.sizeOf0
  v0 := Tryz.zeroValue0
  t3 := Tryz.underlying3
  a3 := Tryz.isAgg3
  z3 := Tryz.sizeOf3
  v3 := Tryz.zeroValue3
  t9 := Tryz.underlying9
  a9 := Tryz.isAgg9
  z9 := Tryz.sizeOf9
  v9 := Tryz.zeroValue9
  t37 := Tryz.underlying110
  a37 := Tryz.isAgg110
  z37 := Tryz.sizeOf110
  v37 := Tryz.zeroValue110
  t70 := Tryz.underlying161
  a70 := Tryz.isAgg161
  z70 := Tryz.sizeOf161
  v70 := Tryz.zeroValue161
  t72 := Tryz.underlying163
  a72 := Tryz.isAgg163
  z72 := Tryz.sizeOf163
  v72 := Tryz.zeroValue163
  t127 := Tryz.underlying191
  a127 := Tryz.isAgg191
  z127 := Tryz.sizeOf191
  v127 := Tryz.zeroValue191 }
theorem Tryz.Builder_Extra_169 : Builder.Extra Tryz.prog Tryz.lays169_ren := {
  sizeBuilder := by kernel_rfl
  liesBuilder := by kernel_rfl
  t5 := Tryz.underlying5
  a5 := Tryz.isAgg5
  z5 := Tryz.sizeOf5
  v5 := Tryz.zeroValue5
  infoByte := by kernel_rfl
  cellsByte := by kernel_rfl
  sizeByte := by kernel_rfl
  neB5 := by decide }
open Go.RowKit in
/-- (*strings.Builder).String: "String returns the accumulated string.": WHATEVER THE BUILDER HOLDS; THE FORM '_f': OF A BUILDER THAT MAY HAVE BEEN READ BEFORE; AND IT IS A BUILDER STILL, holding the same bytes: it can be written on. (LAID: no walk: one application.) -/
theorem Tryz.Builder_String_any_f (B b : Nat) (l : List UInt8) (w : World) (h : Lib.IsBuilderF 163 5 B b (Lib.byteCells l) w) (hBw : B ≤ w.heap.size) :
    Calls Tryz.prog 106 #[.pointer (some ⟨b, 0, none⟩)] w fun e w' => e = .returned (.string ⟨l.toArray⟩) ∧ (Lib.IsBuilderF 163 5 B b (Lib.byteCells l) w' ∧ Below B w w') := Any.Builder_String_any_f Tryz.lays169 Tryz.Builder_Extra_169 B b l w h hBw
def Tryz.lays105_ren : Go.Shelf.Ren := ⟨fun | 105 => 83 | 212 => 101 | 99 => 102 | 165 => 103 | 166 => 104 | 170 => 105 | 169 => 106 | 263 => 123 | 264 => 124 | 206 => 125 | 240 => 126 | 241 => 127 | 276 => 132 | 277 => 133 | n => n, fun | 9 => 9 | 3 => 3 | 4 => 4 | 20 => 20 | 0 => 0 | 46 => 152 | 109 => 158 | 5 => 5 | 72 => 163 | 76 => 167 | 51 => 186 | 146 => 187 | 53 => 157 | 148 => 189 | 70 => 161 | 37 => 110 | 75 => 166 | 127 => 191 | 164 => 194 | 80 => 156 | n => n, fun | n => n⟩
theorem Tryz.lays105 : Go.Proofs.Lays.n105 Tryz.prog Tryz.lays105_ren := {
  mixed := by kernel_rfl
  f99 := Tryz.func102.trans (congrArg some (by kernel_rfl))
  f105 := Tryz.func83.trans (congrArg some (by kernel_rfl))
  f165 := Tryz.func103.trans (congrArg some (by kernel_rfl))
  f166 := Tryz.func104.trans (congrArg some (by kernel_rfl))
  f169 := Tryz.func106.trans (congrArg some (by kernel_rfl))
  f170 := Tryz.func105.trans (congrArg some (by kernel_rfl))
  f206 := Tryz.func125.trans (congrArg some (by kernel_rfl))
  f212 := Tryz.func101.trans (congrArg some (by kernel_rfl))
  f240 := Tryz.func126.trans (congrArg some (by kernel_rfl))
  f241 := Tryz.func127.trans (congrArg some (by kernel_rfl))
  f263 := Tryz.func123.trans (congrArg some (by kernel_rfl))
  f264 := Tryz.func124.trans (congrArg some (by kernel_rfl))
  f276 := Tryz.func132.trans (congrArg some (by kernel_rfl))
  f277 := Tryz.func133.trans (congrArg some (by kernel_rfl))
  t0 := Tryz.underlying0
  a0 := Tryz.isAgg0
  z0 := Tryz.sizeOf0
  v0 := Tryz.zeroValue0
  t3 := Tryz.underlying3
  a3 := Tryz.isAgg3
  z3 := Tryz.sizeOf3
  v3 := Tryz.zeroValue3
  t4 := Tryz.underlying4
  a4 := Tryz.isAgg4
  z4 := Tryz.sizeOf4
  v4 := Tryz.zeroValue4
  t5 := Tryz.underlying5
  a5 := Tryz.isAgg5
  z5 := Tryz.sizeOf5
  v5 := Tryz.zeroValue5
  t9 := Tryz.underlying9
  a9 := Tryz.isAgg9
  z9 := Tryz.sizeOf9
  v9 := Tryz.zeroValue9
  t20 := Tryz.underlying20
  a20 := Tryz.isAgg20
  z20 := Tryz.sizeOf20
  v20 := Tryz.zeroValue20
  t37 := Tryz.underlying110
  a37 := Tryz.isAgg110
  z37 := Tryz.sizeOf110
  v37 := Tryz.zeroValue110
  t46 := Tryz.underlying152
  a46 := Tryz.isAgg152
  z46 := Tryz.sizeOf152
  v46 := Tryz.zeroValue152
  t51 := Tryz.underlying186
  a51 := Tryz.isAgg186
  z51 := Tryz.sizeOf186
  v51 := Tryz.zeroValue186
  t53 := Tryz.underlying157
  a53 := Tryz.isAgg157
  z53 := Tryz.sizeOf157
  v53 := Tryz.zeroValue157
  t70 := Tryz.underlying161
  a70 := Tryz.isAgg161
  z70 := Tryz.sizeOf161
  v70 := Tryz.zeroValue161
  t72 := Tryz.underlying163
  a72 := Tryz.isAgg163
  z72 := Tryz.sizeOf163
  v72 := Tryz.zeroValue163
  t75 := Tryz.underlying166
  a75 := Tryz.isAgg166
  z75 := Tryz.sizeOf166
  v75 := Tryz.zeroValue166
  t76 := Tryz.underlying167
  a76 := Tryz.isAgg167
  z76 := Tryz.sizeOf167
  v76 := Tryz.zeroValue167
  t109 := Tryz.underlying158
  a109 := Tryz.isAgg158
  z109 := Tryz.sizeOf158
  v109 := Tryz.zeroValue158
  t127 := Tryz.underlying191
  a127 := Tryz.isAgg191
  z127 := Tryz.sizeOf191
  v127 := Tryz.zeroValue191
  t146 := Tryz.underlying187
  a146 := Tryz.isAgg187
  z146 := Tryz.sizeOf187
  v146 := Tryz.zeroValue187
  t148 := Tryz.underlying189
  a148 := Tryz.isAgg189
  z148 := Tryz.sizeOf189
  v148 := Tryz.zeroValue189
  t164 := Tryz.underlying194
  a164 := Tryz.isAgg194
  z164 := Tryz.sizeOf194
  v164 := Tryz.zeroValue194 }
theorem Tryz.Builder_Extra_105 : Builder.Extra Tryz.prog Tryz.lays105_ren := {
  sizeBuilder := by kernel_rfl
  liesBuilder := by kernel_rfl
  t5 := Tryz.underlying5
  a5 := Tryz.isAgg5
  z5 := Tryz.sizeOf5
  v5 := Tryz.zeroValue5
  infoByte := by kernel_rfl
  cellsByte := by kernel_rfl
  sizeByte := by kernel_rfl
  neB5 := by decide }
open Go.RowKit Go.Lib in
/-- **strings.Repeat: count ≥ 0, the result within one allocation: count copies of s.** (LAID: no walk: one application.) -/
theorem Tryz.strings_Repeat (s : ByteArray) (c : Nat) (w : World) (hc : c ≤ 9223372036854775807) (hlen : s.size * c ≤ 140737488355328) :
    Calls Tryz.prog 83 #[.string s, .int .i64 c] w fun e w' => e = .returned (.string ⟨(Lib.repeatL s.data.toList c).toArray⟩) ∧ Below w.heap.size w w' := Any.strings_Repeat Tryz.lays105 Tryz.Builder_Extra_105 s c w hc hlen
end Go.Proofs
