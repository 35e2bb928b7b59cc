/- Plain: the words of the language's own are no names. -/
import Derived.Test.YthfmmememdlekaaDoorFmNm1
set_option linter.unusedVariables false
set_option linter.unusedSimpArgs false
namespace Go.Proofs.YthfmmememdlekaaDoor
open Go.RowKit Num

def ownW : List (List UInt8) := [[97, 108, 108], [97, 110, 121], [114, 101, 112, 111, 114, 116, 101, 114, 115], [100, 101, 112, 97, 114, 116, 109, 101, 110, 116, 115], [121, 101, 97, 114, 115], [119, 105, 116, 104, 105, 110], [110, 111, 116, 102, 105, 114, 115, 116], [115, 97, 121, 115], [97, 108, 119, 97, 121, 115], [111, 102]]
theorem own_plain : (ownW.map fun w => ((parseC ([115, 97, 121, 115, 32] ++ w ++ [32, 34, 120, 34, 32, 111, 102, 32, 49])).2, nameB w)) = List.replicate 10 (((5 : Int), (12 : Int)), false) := by kernel_rfl
end Go.Proofs.YthfmmememdlekaaDoor
