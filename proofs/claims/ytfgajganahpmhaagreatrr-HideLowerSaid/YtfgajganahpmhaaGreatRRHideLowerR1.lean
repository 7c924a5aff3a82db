/- Runs of the law. Conditions: none. -/
import Derived.Test.YtfgajganahpmhaaGreatRRHideLowerC
namespace Go.Proofs.YtfgajganahpmhaaGreatRR.hideLower
open VS
theorem run6 : isTrue (acallK tabs cfg 400 6 [.int .i64 2, .str [102]] [] [] 0) = true := by kernel_rfl
theorem run7 : isTrue (acallK tabs cfg 400 6 [.int .i64 2, .str [100]] [] [] 0) = true := by kernel_rfl
theorem run8 : isTrue (acallK tabs cfg 400 6 [.int .i64 2, .str [115]] [] [] 0) = true := by kernel_rfl
theorem run9 : isTrue (acallK tabs cfg 400 6 [.int .i64 2, .str [113]] [] [] 0) = true := by kernel_rfl
theorem run10 : isTrue (acallK tabs cfg 400 6 [.int .i64 2, .ustr 1 [[102], [100], [115], [113]]] [] [] 0) = true := by kernel_rfl
theorem run11 : isTrue (acallK tabs cfg 400 6 [.int .i64 3, .str [102]] [] [] 0) = true := by kernel_rfl
end Go.Proofs.YtfgajganahpmhaaGreatRR.hideLower
