/- Run by the kernel: the marks of right and wrong shares (prime 23, salt 97). Run by the kernel: the marks of right and wrong shares (prime 23, salt 98). -/
import Derived.Test.YtjfphobfikadlaaGreatDoorW28
set_option linter.unusedVariables false
set_option linter.unusedSimpArgs false
set_option maxRecDepth 1000000
namespace Go.Proofs.YtjfphobfikadlaaGreatDoor.Lane
theorem tabS23_97_0_1 : grp 23 1 0 128 3 3 sec0_97 0 1 = true := by decide +kernel
theorem tabS23_97_0_2 : grp 23 2 0 128 3 3 sec0_97 0 1 = true := by decide +kernel
theorem tabS23_97_0_3 : grp 23 3 0 128 3 3 sec0_97 0 1 = true := by decide +kernel
theorem tabS23_97_0_4 : grp 23 4 0 128 3 3 sec0_97 0 1 = true := by decide +kernel
theorem tabS23_97_0_5 : grp 23 5 0 128 3 3 sec0_97 0 1 = true := by decide +kernel
theorem tabS23_97_1_1 : grp 23 1 1 128 3 3 sec0_97 0 23 = true := by decide +kernel
theorem tabS23_97_1_2 : grp 23 2 1 128 3 3 sec0_97 0 23 = true := by decide +kernel
theorem tabS23_97_1_3 : grp 23 3 1 128 3 3 sec0_97 0 23 = true := by decide +kernel
theorem tabS23_97_1_4 : grp 23 4 1 128 3 3 sec0_97 0 23 = true := by decide +kernel
theorem tabS23_97_1_5 : grp 23 5 1 128 3 3 sec0_97 0 23 = true := by decide +kernel
theorem tabS23_97_2_1 : grp 23 1 2 128 3 3 sec0_97 0 23 = true := by decide +kernel
theorem tabS23_97_2_2 : grp 23 2 2 128 3 3 sec0_97 0 23 = true := by decide +kernel
theorem tabS23_97_2_3 : grp 23 3 2 128 3 3 sec0_97 0 23 = true := by decide +kernel
theorem tabS23_97_2_4 : grp 23 4 2 128 3 3 sec0_97 0 23 = true := by decide +kernel
theorem tabS23_97_2_5 : grp 23 5 2 128 3 3 sec0_97 0 23 = true := by decide +kernel
end Go.Proofs.YtjfphobfikadlaaGreatDoor.Lane
set_option maxRecDepth 1000000
namespace Go.Proofs.YtjfphobfikadlaaGreatDoor.Lane
theorem tabS23_98_0_1 : grp 23 1 0 128 3 3 sec0_98 0 1 = true := by decide +kernel
theorem tabS23_98_0_2 : grp 23 2 0 128 3 3 sec0_98 0 1 = true := by decide +kernel
theorem tabS23_98_0_3 : grp 23 3 0 128 3 3 sec0_98 0 1 = true := by decide +kernel
theorem tabS23_98_0_4 : grp 23 4 0 128 3 3 sec0_98 0 1 = true := by decide +kernel
theorem tabS23_98_0_5 : grp 23 5 0 128 3 3 sec0_98 0 1 = true := by decide +kernel
theorem tabS23_98_1_1 : grp 23 1 1 128 3 3 sec0_98 0 23 = true := by decide +kernel
theorem tabS23_98_1_2 : grp 23 2 1 128 3 3 sec0_98 0 23 = true := by decide +kernel
theorem tabS23_98_1_3 : grp 23 3 1 128 3 3 sec0_98 0 23 = true := by decide +kernel
theorem tabS23_98_1_4 : grp 23 4 1 128 3 3 sec0_98 0 23 = true := by decide +kernel
theorem tabS23_98_1_5 : grp 23 5 1 128 3 3 sec0_98 0 23 = true := by decide +kernel
theorem tabS23_98_2_1 : grp 23 1 2 128 3 3 sec0_98 0 23 = true := by decide +kernel
theorem tabS23_98_2_2 : grp 23 2 2 128 3 3 sec0_98 0 23 = true := by decide +kernel
theorem tabS23_98_2_3 : grp 23 3 2 128 3 3 sec0_98 0 23 = true := by decide +kernel
theorem tabS23_98_2_4 : grp 23 4 2 128 3 3 sec0_98 0 23 = true := by decide +kernel
theorem tabS23_98_2_5 : grp 23 5 2 128 3 3 sec0_98 0 23 = true := by decide +kernel
end Go.Proofs.YtjfphobfikadlaaGreatDoor.Lane
