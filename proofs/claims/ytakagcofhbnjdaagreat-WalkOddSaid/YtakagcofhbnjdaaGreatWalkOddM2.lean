/- A call that the law makes, run once. Conditions: none. -/
import Derived.Test.YtakagcofhbnjdaaGreatWalkOddC
namespace Go.Proofs.YtakagcofhbnjdaaGreat.walkOdd
open VS
theorem ran2_ok : treeAns (acallK tabs cfg2 300 ran2.f ran2.args [] [] 0) = some ran2.v := by kernel_rfl
end Go.Proofs.YtakagcofhbnjdaaGreat.walkOdd
