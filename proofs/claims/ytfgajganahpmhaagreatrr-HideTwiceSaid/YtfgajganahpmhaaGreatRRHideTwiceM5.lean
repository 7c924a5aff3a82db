/- Calls that the law makes, run once. Conditions: none. -/
import Derived.Test.YtfgajganahpmhaaGreatRRHideTwiceC
namespace Go.Proofs.YtfgajganahpmhaaGreatRR.hideTwice
open VS
theorem ran50_ok : treeAns (acallK tabs cfgL0 400 ran50.f ran50.args [] [] 0) = some ran50.v := by kernel_rfl
theorem ran51_ok : treeAns (acallK tabs cfgL0 400 ran51.f ran51.args [] [] 0) = some ran51.v := by kernel_rfl
theorem ran52_ok : treeAns (acallK tabs cfgL1 400 ran52.f ran52.args [] [] 0) = some ran52.v := by kernel_rfl
theorem ran53_ok : treeAns (acallK tabs cfgL1 400 ran53.f ran53.args [] [] 0) = some ran53.v := by kernel_rfl
theorem ran54_ok : treeAns (acallK tabs cfgL1 400 ran54.f ran54.args [] [] 0) = some ran54.v := by kernel_rfl
theorem ran55_ok : treeAns (acallK tabs cfgL2 400 ran55.f ran55.args [] [] 0) = some ran55.v := by kernel_rfl
end Go.Proofs.YtfgajganahpmhaaGreatRR.hideTwice
