/- Runs of the law. Conditions: none. -/
import Derived.Test.YtfgajganahpmhaaGreatRRHideLowerC
namespace Go.Proofs.YtfgajganahpmhaaGreatRR.hideLower
open VS
theorem run0 : isTrue (acallK tabs cfg 400 6 [.rng 0 .i64 (-9223372036854775808) (0), .dead] [] [] 0) = true := by kernel_rfl
theorem run1 : isTrue (acallK tabs cfg 400 6 [.int .i64 1, .str [102]] [] [] 0) = true := by kernel_rfl
theorem run2 : isTrue (acallK tabs cfg 400 6 [.int .i64 1, .str [100]] [] [] 0) = true := by kernel_rfl
theorem run3 : isTrue (acallK tabs cfg 400 6 [.int .i64 1, .str [115]] [] [] 0) = true := by kernel_rfl
theorem run4 : isTrue (acallK tabs cfg 400 6 [.int .i64 1, .str [113]] [] [] 0) = true := by kernel_rfl
theorem run5 : isTrue (acallK tabs cfg 400 6 [.int .i64 1, .ustr 1 [[102], [100], [115], [113]]] [] [] 0) = true := by kernel_rfl
end Go.Proofs.YtfgajganahpmhaaGreatRR.hideLower
