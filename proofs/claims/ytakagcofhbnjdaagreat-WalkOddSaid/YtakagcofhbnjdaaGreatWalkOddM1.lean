/- A call that the law makes, run once. Conditions: none. -/
import Derived.Test.YtakagcofhbnjdaaGreatWalkOddC
namespace Go.Proofs.YtakagcofhbnjdaaGreat.walkOdd
open VS
theorem ran1_ok : treeAns (acallK tabs cfg2 300 ran1.f ran1.args [] [] 0) = some ran1.v := by kernel_rfl
end Go.Proofs.YtakagcofhbnjdaaGreat.walkOdd
