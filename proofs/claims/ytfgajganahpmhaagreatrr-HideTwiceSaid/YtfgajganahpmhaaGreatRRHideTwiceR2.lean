/- Runs of the law. Conditions: none. -/
import Derived.Test.YtfgajganahpmhaaGreatRRHideTwiceC
namespace Go.Proofs.YtfgajganahpmhaaGreatRR.hideTwice
open VS
theorem run10 : isTrue (acallK tabs cfg 400 7 [.int .i64 3, .str [100]] [] [] 0) = true := by kernel_rfl
theorem run11 : isTrue (acallK tabs cfg 400 7 [.int .i64 3, .str [115]] [] [] 0) = true := by kernel_rfl
theorem run12 : isTrue (acallK tabs cfg 400 7 [.int .i64 3, .ustr 1 [[102], [100], [115]]] [] [] 0) = true := by kernel_rfl
theorem run13 : isTrue (acallK tabs cfg 400 7 [.rng 0 .i64 (4) (9223372036854775807), .dead] [] [] 0) = true := by kernel_rfl
end Go.Proofs.YtfgajganahpmhaaGreatRR.hideTwice
