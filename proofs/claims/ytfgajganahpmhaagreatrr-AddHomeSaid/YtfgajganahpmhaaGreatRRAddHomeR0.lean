/- Runs of the law. Conditions: none. -/
import Derived.Test.YtfgajganahpmhaaGreatRRAddHomeC
namespace Go.Proofs.YtfgajganahpmhaaGreatRR.addHome
open VS
theorem run0 : isTrue (acallK tabs cfg 400 8 [.rng 0 .i64 (-9223372036854775808) (0), .dead] [] [] 0) = true := by kernel_rfl
theorem run1 : isTrue (acallK tabs cfg 400 8 [.int .i64 1, .str [102]] [] [] 0) = true := by kernel_rfl
theorem run2 : isTrue (acallK tabs cfg 400 8 [.int .i64 1, .str [115]] [] [] 0) = true := by kernel_rfl
theorem run3 : isTrue (acallK tabs cfg 400 8 [.int .i64 1, .ustr 1 [[102], [115]]] [] [] 0) = true := by kernel_rfl
theorem run4 : isTrue (acallK tabs cfg 400 8 [.int .i64 2, .str [102]] [] [] 0) = true := by kernel_rfl
theorem run5 : isTrue (acallK tabs cfg 400 8 [.int .i64 2, .str [115]] [] [] 0) = true := by kernel_rfl
end Go.Proofs.YtfgajganahpmhaaGreatRR.addHome
