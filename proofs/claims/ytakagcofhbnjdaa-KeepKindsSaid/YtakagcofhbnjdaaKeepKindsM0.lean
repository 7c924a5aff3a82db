/- Calls that the law makes, run once. Conditions: none. -/
import Derived.Test.YtakagcofhbnjdaaKeepKindsC
namespace Go.Proofs.Ytakagcofhbnjdaa.keepKinds
open VS
theorem ran0_ok : treeAns (acallK tabs cfg2 100 ran0.f ran0.args [] [] 0) = some ran0.v := by kernel_rfl
theorem ran1_ok : treeAns (acallK tabs cfg2 100 ran1.f ran1.args [] [] 0) = some ran1.v := by kernel_rfl
end Go.Proofs.Ytakagcofhbnjdaa.keepKinds
