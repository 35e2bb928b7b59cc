/- The search through the products of small primes, run by the kernel. -/
import Derived.Test.YtmneokkdkgflkaaDoorMrTab
namespace Go.Proofs.YtmneokkdkgflkaaDoor.Num
set_option maxRecDepth 1000000
theorem tops0 : tops 30 (tab.drop 0) = true := by decide +kernel
theorem tops1 : tops 30 (tab.drop 30) = true := by decide +kernel
theorem tops2 : tops 31 (tab.drop 60) = true := by decide +kernel
end Go.Proofs.YtmneokkdkgflkaaDoor.Num
