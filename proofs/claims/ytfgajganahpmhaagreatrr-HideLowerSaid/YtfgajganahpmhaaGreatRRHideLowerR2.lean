/- Runs of the law. Conditions: none. -/
import Derived.Test.YtfgajganahpmhaaGreatRRHideLowerC
namespace Go.Proofs.YtfgajganahpmhaaGreatRR.hideLower
open VS
theorem run12 : isTrue (acallK tabs cfg 400 6 [.int .i64 3, .str [100]] [] [] 0) = true := by kernel_rfl
theorem run13 : isTrue (acallK tabs cfg 400 6 [.int .i64 3, .str [115]] [] [] 0) = true := by kernel_rfl
theorem run14 : isTrue (acallK tabs cfg 400 6 [.int .i64 3, .str [113]] [] [] 0) = true := by kernel_rfl
theorem run15 : isTrue (acallK tabs cfg 400 6 [.int .i64 3, .ustr 1 [[102], [100], [115], [113]]] [] [] 0) = true := by kernel_rfl
theorem run16 : isTrue (acallK tabs cfg 400 6 [.rng 0 .i64 (4) (9223372036854775807), .dead] [] [] 0) = true := by kernel_rfl
end Go.Proofs.YtfgajganahpmhaaGreatRR.hideLower
