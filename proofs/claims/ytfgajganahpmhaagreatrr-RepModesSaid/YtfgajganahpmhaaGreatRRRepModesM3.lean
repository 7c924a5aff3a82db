/- Calls that the law makes, run once. Conditions: none. -/
import Derived.Test.YtfgajganahpmhaaGreatRRRepModesC
namespace Go.Proofs.YtfgajganahpmhaaGreatRR.repModes
open VS
theorem ran15_ok : treeAns (acallK tabs cfgL1 400 ran15.f ran15.args [] [] 0) = some ran15.v := by kernel_rfl
theorem ran16_ok : treeAns (acallK tabs cfgL2 400 ran16.f ran16.args [] [] 0) = some ran16.v := by kernel_rfl
end Go.Proofs.YtfgajganahpmhaaGreatRR.repModes
