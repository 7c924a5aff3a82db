/- Calls that the law makes, run once. Conditions: none. -/
import Derived.Test.YtfgajganahpmhaaGreatRRRepModesC
namespace Go.Proofs.YtfgajganahpmhaaGreatRR.repModes
open VS
theorem ran10_ok : treeAns (acallK tabs cfg2 400 ran10.f ran10.args [] [] 0) = some ran10.v := by kernel_rfl
theorem ran11_ok : treeAns (acallK tabs cfg2 400 ran11.f ran11.args [] [] 0) = some ran11.v := by kernel_rfl
theorem ran12_ok : treeAns (acallK tabs cfg2 400 ran12.f ran12.args [] [] 0) = some ran12.v := by kernel_rfl
theorem ran13_ok : treeAns (acallK tabs cfgL0 400 ran13.f ran13.args [] [] 0) = some ran13.v := by kernel_rfl
theorem ran14_ok : treeAns (acallK tabs cfgL0 400 ran14.f ran14.args [] [] 0) = some ran14.v := by kernel_rfl
end Go.Proofs.YtfgajganahpmhaaGreatRR.repModes
