/- Runs of the law. Conditions: none. -/
import Derived.Test.YtfgajganahpmhaaGreatRRAddHomeC
namespace Go.Proofs.YtfgajganahpmhaaGreatRR.addHome
open VS
theorem run6 : isTrue (acallK tabs cfg 400 8 [.int .i64 2, .ustr 1 [[102], [115]]] [] [] 0) = true := by kernel_rfl
theorem run7 : isTrue (acallK tabs cfg 400 8 [.int .i64 3, .str [102]] [] [] 0) = true := by kernel_rfl
theorem run8 : isTrue (acallK tabs cfg 400 8 [.int .i64 3, .str [115]] [] [] 0) = true := by kernel_rfl
theorem run9 : isTrue (acallK tabs cfg 400 8 [.int .i64 3, .ustr 1 [[102], [115]]] [] [] 0) = true := by kernel_rfl
theorem run10 : isTrue (acallK tabs cfg 400 8 [.rng 0 .i64 (4) (9223372036854775807), .dead] [] [] 0) = true := by kernel_rfl
end Go.Proofs.YtfgajganahpmhaaGreatRR.addHome
