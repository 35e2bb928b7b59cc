/- Run by the kernel: the marks of right and wrong shares (prime 29, salt 98). Run by the kernel: the marks of right and wrong shares (prime 29, salt 99). -/
import Derived.Test.YtjfphobfikadlaaGreatDoorW28
set_option linter.unusedVariables false
set_option linter.unusedSimpArgs false
set_option maxRecDepth 1000000
namespace Go.Proofs.YtjfphobfikadlaaGreatDoor.Lane
theorem tabS29_98_0_1 : grp 29 1 0 128 3 3 sec0_98 0 1 = true := by decide +kernel
theorem tabS29_98_0_2 : grp 29 2 0 128 3 3 sec0_98 0 1 = true := by decide +kernel
theorem tabS29_98_0_3 : grp 29 3 0 128 3 3 sec0_98 0 1 = true := by decide +kernel
theorem tabS29_98_0_4 : grp 29 4 0 128 3 3 sec0_98 0 1 = true := by decide +kernel
theorem tabS29_98_0_5 : grp 29 5 0 128 3 3 sec0_98 0 1 = true := by decide +kernel
theorem tabS29_98_1_1 : grp 29 1 1 128 3 3 sec0_98 0 29 = true := by decide +kernel
theorem tabS29_98_1_2 : grp 29 2 1 128 3 3 sec0_98 0 29 = true := by decide +kernel
theorem tabS29_98_1_3 : grp 29 3 1 128 3 3 sec0_98 0 29 = true := by decide +kernel
theorem tabS29_98_1_4 : grp 29 4 1 128 3 3 sec0_98 0 29 = true := by decide +kernel
theorem tabS29_98_1_5 : grp 29 5 1 128 3 3 sec0_98 0 29 = true := by decide +kernel
theorem tabS29_98_2_1 : grp 29 1 2 128 3 3 sec0_98 0 29 = true := by decide +kernel
theorem tabS29_98_2_2 : grp 29 2 2 128 3 3 sec0_98 0 29 = true := by decide +kernel
theorem tabS29_98_2_3 : grp 29 3 2 128 3 3 sec0_98 0 29 = true := by decide +kernel
theorem tabS29_98_2_4 : grp 29 4 2 128 3 3 sec0_98 0 29 = true := by decide +kernel
theorem tabS29_98_2_5 : grp 29 5 2 128 3 3 sec0_98 0 29 = true := by decide +kernel
end Go.Proofs.YtjfphobfikadlaaGreatDoor.Lane
set_option maxRecDepth 1000000
namespace Go.Proofs.YtjfphobfikadlaaGreatDoor.Lane
theorem tabS29_99_0_1 : grp 29 1 0 128 3 3 sec0_99 0 1 = true := by decide +kernel
theorem tabS29_99_0_2 : grp 29 2 0 128 3 3 sec0_99 0 1 = true := by decide +kernel
theorem tabS29_99_0_3 : grp 29 3 0 128 3 3 sec0_99 0 1 = true := by decide +kernel
theorem tabS29_99_0_4 : grp 29 4 0 128 3 3 sec0_99 0 1 = true := by decide +kernel
theorem tabS29_99_0_5 : grp 29 5 0 128 3 3 sec0_99 0 1 = true := by decide +kernel
theorem tabS29_99_1_1 : grp 29 1 1 128 3 3 sec0_99 0 29 = true := by decide +kernel
theorem tabS29_99_1_2 : grp 29 2 1 128 3 3 sec0_99 0 29 = true := by decide +kernel
theorem tabS29_99_1_3 : grp 29 3 1 128 3 3 sec0_99 0 29 = true := by decide +kernel
theorem tabS29_99_1_4 : grp 29 4 1 128 3 3 sec0_99 0 29 = true := by decide +kernel
theorem tabS29_99_1_5 : grp 29 5 1 128 3 3 sec0_99 0 29 = true := by decide +kernel
theorem tabS29_99_2_1 : grp 29 1 2 128 3 3 sec0_99 0 29 = true := by decide +kernel
theorem tabS29_99_2_2 : grp 29 2 2 128 3 3 sec0_99 0 29 = true := by decide +kernel
theorem tabS29_99_2_3 : grp 29 3 2 128 3 3 sec0_99 0 29 = true := by decide +kernel
theorem tabS29_99_2_4 : grp 29 4 2 128 3 3 sec0_99 0 29 = true := by decide +kernel
theorem tabS29_99_2_5 : grp 29 5 2 128 3 3 sec0_99 0 29 = true := by decide +kernel
end Go.Proofs.YtjfphobfikadlaaGreatDoor.Lane
