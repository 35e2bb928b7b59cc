/- Run by the kernel: the marks of the new circles against those of the first one (salt 97). Run by the kernel: the marks of the new circles against those of the first one (salt 98). -/
import Derived.Test.YtjfphobfikadlaaGreatDoorW28
set_option linter.unusedVariables false
set_option linter.unusedSimpArgs false
set_option maxRecDepth 1000000
namespace Go.Proofs.YtjfphobfikadlaaGreatDoor.Lane
theorem tabR_97_1 : grp1 500000003 1 1 6 1 sec3_97 2 1000 1 = true := by decide +kernel
theorem tabR_97_2 : grp1 500000003 2 1 6 1 sec3_97 2 1000 1 = true := by decide +kernel
theorem tabR_97_3 : grp1 500000003 3 1 6 1 sec3_97 2 1000 1 = true := by decide +kernel
end Go.Proofs.YtjfphobfikadlaaGreatDoor.Lane
set_option maxRecDepth 1000000
namespace Go.Proofs.YtjfphobfikadlaaGreatDoor.Lane
theorem tabR_98_1 : grp1 500000003 1 1 6 1 sec3_98 2 1000 1 = true := by decide +kernel
theorem tabR_98_2 : grp1 500000003 2 1 6 1 sec3_98 2 1000 1 = true := by decide +kernel
theorem tabR_98_3 : grp1 500000003 3 1 6 1 sec3_98 2 1000 1 = true := by decide +kernel
end Go.Proofs.YtjfphobfikadlaaGreatDoor.Lane
