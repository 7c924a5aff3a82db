/- A call that the law makes, run once. Conditions: none. -/
import Derived.Test.YtakagcofhbnjdaaGreatWalkOddC
namespace Go.Proofs.YtakagcofhbnjdaaGreat.walkOdd
open VS
theorem ran0_ok : treeAns (acallK tabs cfg2 300 ran0.f ran0.args [] [] 0) = some ran0.v := by kernel_rfl
end Go.Proofs.YtakagcofhbnjdaaGreat.walkOdd
