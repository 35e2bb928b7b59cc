/- Run by the kernel: the marks of right and wrong shares (prime 500000003, salt 98, degree 1). Run by the kernel: the marks of right and wrong shares (prime 500000003, salt 98, degree 2). -/
import Derived.Test.YtjfphobfikadlaaGreatDoorW28
set_option linter.unusedVariables false
set_option linter.unusedSimpArgs false
set_option maxRecDepth 1000000
namespace Go.Proofs.YtjfphobfikadlaaGreatDoor.Lane
theorem tabP_98_1_1 : grp 500000003 1 1 6 1 1 sec3_98 0 1000 = true := by decide +kernel
theorem tabP_98_1_2 : grp 500000003 2 1 6 1 1 sec3_98 0 1000 = true := by decide +kernel
theorem tabP_98_1_3 : grp 500000003 3 1 6 1 1 sec3_98 0 1000 = true := by decide +kernel
theorem tabP_98_1_4 : grp 500000003 4 1 6 1 1 sec3_98 0 1000 = true := by decide +kernel
theorem tabP_98_1_5 : grp 500000003 5 1 6 1 1 sec3_98 0 1000 = true := by decide +kernel
end Go.Proofs.YtjfphobfikadlaaGreatDoor.Lane
set_option maxRecDepth 1000000
namespace Go.Proofs.YtjfphobfikadlaaGreatDoor.Lane
theorem tabP_98_2_1 : grp 500000003 1 2 6 1 1 sec3_98 0 1000 = true := by decide +kernel
theorem tabP_98_2_2 : grp 500000003 2 2 6 1 1 sec3_98 0 1000 = true := by decide +kernel
theorem tabP_98_2_3 : grp 500000003 3 2 6 1 1 sec3_98 0 1000 = true := by decide +kernel
theorem tabP_98_2_4 : grp 500000003 4 2 6 1 1 sec3_98 0 1000 = true := by decide +kernel
theorem tabP_98_2_5 : grp 500000003 5 2 6 1 1 sec3_98 0 1000 = true := by decide +kernel
end Go.Proofs.YtjfphobfikadlaaGreatDoor.Lane
