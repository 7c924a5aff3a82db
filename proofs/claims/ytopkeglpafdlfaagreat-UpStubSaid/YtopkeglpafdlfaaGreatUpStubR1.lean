/- Runs of the law. Conditions: none. -/
import Derived.Test.YtopkeglpafdlfaaGreatUpStubC
namespace Go.Proofs.YtopkeglpafdlfaaGreat.upStub
open VS
theorem run4 : isTrue (acallK tabs cfg 400 3 [.int .i64 3, .str [47, 102]] [] [] 0) = true := by kernel_rfl
theorem run5 : isTrue (acallK tabs cfg 400 3 [.int .i64 3, .str [47, 115]] [] [] 0) = true := by kernel_rfl
theorem run6 : isTrue (acallK tabs cfg 400 3 [.int .i64 3, .ustr 1 [[47, 102], [47, 115]]] [] [] 0) = true := by kernel_rfl
theorem run7 : isTrue (acallK tabs cfg 400 3 [.rng 0 .i64 (4) (9223372036854775807), .dead] [] [] 0) = true := by kernel_rfl
end Go.Proofs.YtopkeglpafdlfaaGreat.upStub
