/- Run by the kernel: the marks of right and wrong shares (prime 83, salt 98). Run by the kernel: the marks of right and wrong shares (prime 83, salt 99). -/
import Derived.Test.YtjfphobfikadlaaGreatDoorW28
set_option linter.unusedVariables false
set_option linter.unusedSimpArgs false
set_option maxRecDepth 1000000
namespace Go.Proofs.YtjfphobfikadlaaGreatDoor.Lane
theorem tabS83_98_0_1 : grp 83 1 0 128 3 3 sec0_98 0 1 = true := by decide +kernel
theorem tabS83_98_0_2 : grp 83 2 0 128 3 3 sec0_98 0 1 = true := by decide +kernel
theorem tabS83_98_0_3 : grp 83 3 0 128 3 3 sec0_98 0 1 = true := by decide +kernel
theorem tabS83_98_0_4 : grp 83 4 0 128 3 3 sec0_98 0 1 = true := by decide +kernel
theorem tabS83_98_0_5 : grp 83 5 0 128 3 3 sec0_98 0 1 = true := by decide +kernel
theorem tabS83_98_1_1 : grp 83 1 1 128 3 3 sec0_98 0 83 = true := by decide +kernel
theorem tabS83_98_1_2 : grp 83 2 1 128 3 3 sec0_98 0 83 = true := by decide +kernel
theorem tabS83_98_1_3 : grp 83 3 1 128 3 3 sec0_98 0 83 = true := by decide +kernel
theorem tabS83_98_1_4 : grp 83 4 1 128 3 3 sec0_98 0 83 = true := by decide +kernel
theorem tabS83_98_1_5 : grp 83 5 1 128 3 3 sec0_98 0 83 = true := by decide +kernel
theorem tabS83_98_2_1 : grp 83 1 2 128 3 3 sec0_98 0 83 = true := by decide +kernel
theorem tabS83_98_2_2 : grp 83 2 2 128 3 3 sec0_98 0 83 = true := by decide +kernel
theorem tabS83_98_2_3 : grp 83 3 2 128 3 3 sec0_98 0 83 = true := by decide +kernel
theorem tabS83_98_2_4 : grp 83 4 2 128 3 3 sec0_98 0 83 = true := by decide +kernel
theorem tabS83_98_2_5 : grp 83 5 2 128 3 3 sec0_98 0 83 = true := by decide +kernel
end Go.Proofs.YtjfphobfikadlaaGreatDoor.Lane
set_option maxRecDepth 1000000
namespace Go.Proofs.YtjfphobfikadlaaGreatDoor.Lane
theorem tabS83_99_0_1 : grp 83 1 0 128 3 3 sec0_99 0 1 = true := by decide +kernel
theorem tabS83_99_0_2 : grp 83 2 0 128 3 3 sec0_99 0 1 = true := by decide +kernel
theorem tabS83_99_0_3 : grp 83 3 0 128 3 3 sec0_99 0 1 = true := by decide +kernel
theorem tabS83_99_0_4 : grp 83 4 0 128 3 3 sec0_99 0 1 = true := by decide +kernel
theorem tabS83_99_0_5 : grp 83 5 0 128 3 3 sec0_99 0 1 = true := by decide +kernel
theorem tabS83_99_1_1 : grp 83 1 1 128 3 3 sec0_99 0 83 = true := by decide +kernel
theorem tabS83_99_1_2 : grp 83 2 1 128 3 3 sec0_99 0 83 = true := by decide +kernel
theorem tabS83_99_1_3 : grp 83 3 1 128 3 3 sec0_99 0 83 = true := by decide +kernel
theorem tabS83_99_1_4 : grp 83 4 1 128 3 3 sec0_99 0 83 = true := by decide +kernel
theorem tabS83_99_1_5 : grp 83 5 1 128 3 3 sec0_99 0 83 = true := by decide +kernel
theorem tabS83_99_2_1 : grp 83 1 2 128 3 3 sec0_99 0 83 = true := by decide +kernel
theorem tabS83_99_2_2 : grp 83 2 2 128 3 3 sec0_99 0 83 = true := by decide +kernel
theorem tabS83_99_2_3 : grp 83 3 2 128 3 3 sec0_99 0 83 = true := by decide +kernel
theorem tabS83_99_2_4 : grp 83 4 2 128 3 3 sec0_99 0 83 = true := by decide +kernel
theorem tabS83_99_2_5 : grp 83 5 2 128 3 3 sec0_99 0 83 = true := by decide +kernel
end Go.Proofs.YtjfphobfikadlaaGreatDoor.Lane
