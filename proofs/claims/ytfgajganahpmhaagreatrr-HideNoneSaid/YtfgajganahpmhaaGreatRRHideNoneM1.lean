/- Calls that the law makes, run once. Conditions: none. -/
import Derived.Test.YtfgajganahpmhaaGreatRRHideNoneC
namespace Go.Proofs.YtfgajganahpmhaaGreatRR.hideNone
open VS
theorem ran8_ok : treeAns (acallK tabs cfg2 400 ran8.f ran8.args [] [] 0) = some ran8.v := by kernel_rfl
theorem ran9_ok : treeAns (acallK tabs cfg2 400 ran9.f ran9.args [] [] 0) = some ran9.v := by kernel_rfl
theorem ran10_ok : treeAns (acallK tabs cfg2 400 ran10.f ran10.args [] [] 0) = some ran10.v := by kernel_rfl
theorem ran11_ok : treeAns (acallK tabs cfg2 400 ran11.f ran11.args [] [] 0) = some ran11.v := by kernel_rfl
theorem ran12_ok : treeAns (acallK tabs cfg2 400 ran12.f ran12.args [] [] 0) = some ran12.v := by kernel_rfl
theorem ran13_ok : treeAns (acallK tabs cfg2 400 ran13.f ran13.args [] [] 0) = some ran13.v := by kernel_rfl
theorem ran14_ok : treeAns (acallK tabs cfg2 400 ran14.f ran14.args [] [] 0) = some ran14.v := by kernel_rfl
theorem ran15_ok : treeAns (acallK tabs cfg2 400 ran15.f ran15.args [] [] 0) = some ran15.v := by kernel_rfl
end Go.Proofs.YtfgajganahpmhaaGreatRR.hideNone
