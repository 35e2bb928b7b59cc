/- Run by the kernel: the marks of right and wrong shares (prime 53, salt 99). Run by the kernel: the marks of right and wrong shares (prime 83, salt 97). -/
import Derived.Test.YtjfphobfikadlaaGreatDoorW28
set_option linter.unusedVariables false
set_option linter.unusedSimpArgs false
set_option maxRecDepth 1000000
namespace Go.Proofs.YtjfphobfikadlaaGreatDoor.Lane
theorem tabS53_99_0_1 : grp 53 1 0 128 3 3 sec0_99 0 1 = true := by decide +kernel
theorem tabS53_99_0_2 : grp 53 2 0 128 3 3 sec0_99 0 1 = true := by decide +kernel
theorem tabS53_99_0_3 : grp 53 3 0 128 3 3 sec0_99 0 1 = true := by decide +kernel
theorem tabS53_99_0_4 : grp 53 4 0 128 3 3 sec0_99 0 1 = true := by decide +kernel
theorem tabS53_99_0_5 : grp 53 5 0 128 3 3 sec0_99 0 1 = true := by decide +kernel
theorem tabS53_99_1_1 : grp 53 1 1 128 3 3 sec0_99 0 53 = true := by decide +kernel
theorem tabS53_99_1_2 : grp 53 2 1 128 3 3 sec0_99 0 53 = true := by decide +kernel
theorem tabS53_99_1_3 : grp 53 3 1 128 3 3 sec0_99 0 53 = true := by decide +kernel
theorem tabS53_99_1_4 : grp 53 4 1 128 3 3 sec0_99 0 53 = true := by decide +kernel
theorem tabS53_99_1_5 : grp 53 5 1 128 3 3 sec0_99 0 53 = true := by decide +kernel
theorem tabS53_99_2_1 : grp 53 1 2 128 3 3 sec0_99 0 53 = true := by decide +kernel
theorem tabS53_99_2_2 : grp 53 2 2 128 3 3 sec0_99 0 53 = true := by decide +kernel
theorem tabS53_99_2_3 : grp 53 3 2 128 3 3 sec0_99 0 53 = true := by decide +kernel
theorem tabS53_99_2_4 : grp 53 4 2 128 3 3 sec0_99 0 53 = true := by decide +kernel
theorem tabS53_99_2_5 : grp 53 5 2 128 3 3 sec0_99 0 53 = true := by decide +kernel
end Go.Proofs.YtjfphobfikadlaaGreatDoor.Lane
set_option maxRecDepth 1000000
namespace Go.Proofs.YtjfphobfikadlaaGreatDoor.Lane
theorem tabS83_97_0_1 : grp 83 1 0 128 3 3 sec0_97 0 1 = true := by decide +kernel
theorem tabS83_97_0_2 : grp 83 2 0 128 3 3 sec0_97 0 1 = true := by decide +kernel
theorem tabS83_97_0_3 : grp 83 3 0 128 3 3 sec0_97 0 1 = true := by decide +kernel
theorem tabS83_97_0_4 : grp 83 4 0 128 3 3 sec0_97 0 1 = true := by decide +kernel
theorem tabS83_97_0_5 : grp 83 5 0 128 3 3 sec0_97 0 1 = true := by decide +kernel
theorem tabS83_97_1_1 : grp 83 1 1 128 3 3 sec0_97 0 83 = true := by decide +kernel
theorem tabS83_97_1_2 : grp 83 2 1 128 3 3 sec0_97 0 83 = true := by decide +kernel
theorem tabS83_97_1_3 : grp 83 3 1 128 3 3 sec0_97 0 83 = true := by decide +kernel
theorem tabS83_97_1_4 : grp 83 4 1 128 3 3 sec0_97 0 83 = true := by decide +kernel
theorem tabS83_97_1_5 : grp 83 5 1 128 3 3 sec0_97 0 83 = true := by decide +kernel
theorem tabS83_97_2_1 : grp 83 1 2 128 3 3 sec0_97 0 83 = true := by decide +kernel
theorem tabS83_97_2_2_a : grp 83 2 2 128 3 3 sec0_97 0 25 = true := by decide +kernel
theorem tabS83_97_2_2_b : grp 83 2 2 128 3 4 sec0_97 25 1 = true := by decide +kernel
theorem tabS83_97_2_2_c : grp 83 2 2 128 3 3 sec0_97 26 57 = true := by decide +kernel
theorem tabS83_97_2_3 : grp 83 3 2 128 3 3 sec0_97 0 83 = true := by decide +kernel
theorem tabS83_97_2_4 : grp 83 4 2 128 3 3 sec0_97 0 83 = true := by decide +kernel
theorem tabS83_97_2_5 : grp 83 5 2 128 3 3 sec0_97 0 83 = true := by decide +kernel
end Go.Proofs.YtjfphobfikadlaaGreatDoor.Lane
