/- Runs of the law. Conditions: none. -/
import Derived.Test.YtopkeglpafdlfaaGreatUpStubC
namespace Go.Proofs.YtopkeglpafdlfaaGreat.upStub
open VS
theorem run0 : isTrue (acallK tabs cfg 400 3 [.rng 0 .i64 (-9223372036854775808) (1), .dead] [] [] 0) = true := by kernel_rfl
theorem run1 : isTrue (acallK tabs cfg 400 3 [.int .i64 2, .str [47, 102]] [] [] 0) = true := by kernel_rfl
theorem run2 : isTrue (acallK tabs cfg 400 3 [.int .i64 2, .str [47, 115]] [] [] 0) = true := by kernel_rfl
theorem run3 : isTrue (acallK tabs cfg 400 3 [.int .i64 2, .ustr 1 [[47, 102], [47, 115]]] [] [] 0) = true := by kernel_rfl
end Go.Proofs.YtopkeglpafdlfaaGreat.upStub
