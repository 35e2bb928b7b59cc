/- Contracts: the statement FormsNames. -/
import Derived.Test.YthfmmememdlekaaDoorFmNm2
set_option linter.unusedVariables false
set_option linter.unusedSimpArgs false
namespace Go.Proofs.YthfmmememdlekaaDoor
open Go.RowKit Num

set_option maxRecDepth 100000 in
set_option maxHeartbeats 400000 in
theorem f_names_long (s : ByteArray) (k : Int) (w : World) (hl : LibOk w) (h : 60 < s.size) : Calls Tryd.prog 4 #[.string s, .int .u8 k] w (AwkEnd w) := by
  have z1 : (60 : Int) < (s.size : Int) := by omega
  have HL := Lib.hid hl
  clear hl
  go_enter Tryd.func4, Tryd.ntmps4
  go_wp2_with fail
  refine (f_awake _ HL.out).mono ?_
  rintro e w2 ⟨rfl, hb2⟩
  have HB2 := Lib.hid hb2
  clear hb2
  go_wp2_with fail
  go_ret
  exact ⟨rfl, HB2.out⟩
end Go.Proofs.YthfmmememdlekaaDoor
