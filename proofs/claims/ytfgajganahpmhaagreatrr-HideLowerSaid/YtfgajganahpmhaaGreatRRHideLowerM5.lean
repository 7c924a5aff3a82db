/- Calls that the law makes, run once. Conditions: none. -/
import Derived.Test.YtfgajganahpmhaaGreatRRHideLowerC
namespace Go.Proofs.YtfgajganahpmhaaGreatRR.hideLower
open VS
theorem ran40_ok : treeAns (acallK tabs cfgL0 400 ran40.f ran40.args [] [] 0) = some ran40.v := by kernel_rfl
theorem ran41_ok : treeAns (acallK tabs cfgL0 400 ran41.f ran41.args [] [] 0) = some ran41.v := by kernel_rfl
theorem ran42_ok : treeAns (acallK tabs cfgL1 400 ran42.f ran42.args [] [] 0) = some ran42.v := by kernel_rfl
theorem ran43_ok : treeAns (acallK tabs cfgL1 400 ran43.f ran43.args [] [] 0) = some ran43.v := by kernel_rfl
theorem ran44_ok : treeAns (acallK tabs cfgL1 400 ran44.f ran44.args [] [] 0) = some ran44.v := by kernel_rfl
theorem ran45_ok : treeAns (acallK tabs cfgL2 400 ran45.f ran45.args [] [] 0) = some ran45.v := by kernel_rfl
end Go.Proofs.YtfgajganahpmhaaGreatRR.hideLower
