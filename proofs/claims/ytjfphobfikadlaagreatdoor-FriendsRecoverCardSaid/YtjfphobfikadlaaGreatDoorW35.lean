/- Run by the kernel: the marks of right and wrong shares (prime 500000003, salt 99, degree 2). Run by the kernel: the marks of right and wrong shares (prime 11, salt 97). -/
import Derived.Test.YtjfphobfikadlaaGreatDoorW28
set_option linter.unusedVariables false
set_option linter.unusedSimpArgs false
set_option maxRecDepth 1000000
namespace Go.Proofs.YtjfphobfikadlaaGreatDoor.Lane
theorem tabP_99_2_1 : grp 500000003 1 2 6 1 1 sec3_99 0 1000 = true := by decide +kernel
theorem tabP_99_2_2 : grp 500000003 2 2 6 1 1 sec3_99 0 1000 = true := by decide +kernel
theorem tabP_99_2_3 : grp 500000003 3 2 6 1 1 sec3_99 0 1000 = true := by decide +kernel
theorem tabP_99_2_4 : grp 500000003 4 2 6 1 1 sec3_99 0 1000 = true := by decide +kernel
theorem tabP_99_2_5 : grp 500000003 5 2 6 1 1 sec3_99 0 1000 = true := by decide +kernel
end Go.Proofs.YtjfphobfikadlaaGreatDoor.Lane
set_option maxRecDepth 1000000
namespace Go.Proofs.YtjfphobfikadlaaGreatDoor.Lane
theorem tabS11_97_0_1 : grp 11 1 0 128 3 3 sec0_97 0 1 = true := by decide +kernel
theorem tabS11_97_0_2 : grp 11 2 0 128 3 3 sec0_97 0 1 = true := by decide +kernel
theorem tabS11_97_0_3 : grp 11 3 0 128 3 3 sec0_97 0 1 = true := by decide +kernel
theorem tabS11_97_0_4 : grp 11 4 0 128 3 3 sec0_97 0 1 = true := by decide +kernel
theorem tabS11_97_0_5 : grp 11 5 0 128 3 3 sec0_97 0 1 = true := by decide +kernel
theorem tabS11_97_1_1 : grp 11 1 1 128 3 3 sec0_97 0 11 = true := by decide +kernel
theorem tabS11_97_1_2 : grp 11 2 1 128 3 3 sec0_97 0 11 = true := by decide +kernel
theorem tabS11_97_1_3 : grp 11 3 1 128 3 3 sec0_97 0 11 = true := by decide +kernel
theorem tabS11_97_1_4 : grp 11 4 1 128 3 3 sec0_97 0 11 = true := by decide +kernel
theorem tabS11_97_1_5 : grp 11 5 1 128 3 3 sec0_97 0 11 = true := by decide +kernel
theorem tabS11_97_2_1 : grp 11 1 2 128 3 3 sec0_97 0 11 = true := by decide +kernel
theorem tabS11_97_2_2 : grp 11 2 2 128 3 3 sec0_97 0 11 = true := by decide +kernel
theorem tabS11_97_2_3 : grp 11 3 2 128 3 3 sec0_97 0 11 = true := by decide +kernel
theorem tabS11_97_2_4 : grp 11 4 2 128 3 3 sec0_97 0 11 = true := by decide +kernel
theorem tabS11_97_2_5 : grp 11 5 2 128 3 3 sec0_97 0 11 = true := by decide +kernel
end Go.Proofs.YtjfphobfikadlaaGreatDoor.Lane
