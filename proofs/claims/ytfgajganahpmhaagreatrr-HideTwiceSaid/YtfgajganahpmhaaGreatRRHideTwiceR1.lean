/- Runs of the law. Conditions: none. -/
import Derived.Test.YtfgajganahpmhaaGreatRRHideTwiceC
namespace Go.Proofs.YtfgajganahpmhaaGreatRR.hideTwice
open VS
theorem run5 : isTrue (acallK tabs cfg 400 7 [.int .i64 2, .str [102]] [] [] 0) = true := by kernel_rfl
theorem run6 : isTrue (acallK tabs cfg 400 7 [.int .i64 2, .str [100]] [] [] 0) = true := by kernel_rfl
theorem run7 : isTrue (acallK tabs cfg 400 7 [.int .i64 2, .str [115]] [] [] 0) = true := by kernel_rfl
theorem run8 : isTrue (acallK tabs cfg 400 7 [.int .i64 2, .ustr 1 [[102], [100], [115]]] [] [] 0) = true := by kernel_rfl
theorem run9 : isTrue (acallK tabs cfg 400 7 [.int .i64 3, .str [102]] [] [] 0) = true := by kernel_rfl
end Go.Proofs.YtfgajganahpmhaaGreatRR.hideTwice
