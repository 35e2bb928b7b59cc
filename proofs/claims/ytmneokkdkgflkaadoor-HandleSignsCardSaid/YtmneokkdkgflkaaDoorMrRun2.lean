/- The prime factors from 501 to 32767, and those above, run by the kernel. -/
import Derived.Test.YtmneokkdkgflkaaDoorMrTab
namespace Go.Proofs.YtmneokkdkgflkaaDoor.Num
set_option maxRecDepth 1000000
theorem lvs0 : lvs 501 100 = true := by decide +kernel
theorem lvs1 : lvs 701 150 = true := by decide +kernel
theorem lvs2 : lvs 1001 1000 = true := by decide +kernel
theorem lvs3 : lvs 3001 14884 = true := by decide +kernel
theorem chks0 : frc (Mrec 32768) (chks 11 8000) = true := by decide +kernel
theorem chks1 : frc (Mrec 32768) (chks 16011 8379) = true := by decide +kernel
end Go.Proofs.YtmneokkdkgflkaaDoor.Num
