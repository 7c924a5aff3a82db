/- Calls that the law makes, run once. Conditions: none. -/
import Derived.Test.YtfgajganahpmhaaGreatRRRepModesC
namespace Go.Proofs.YtfgajganahpmhaaGreatRR.repModes
open VS
theorem ran5_ok : treeAns (acallK tabs cfg2 400 ran5.f ran5.args [] [] 0) = some ran5.v := by kernel_rfl
theorem ran6_ok : treeAns (acallK tabs cfg2 400 ran6.f ran6.args [] [] 0) = some ran6.v := by kernel_rfl
theorem ran7_ok : treeAns (acallK tabs cfg2 400 ran7.f ran7.args [] [] 0) = some ran7.v := by kernel_rfl
theorem ran8_ok : treeAns (acallK tabs cfg2 400 ran8.f ran8.args [] [] 0) = some ran8.v := by kernel_rfl
theorem ran9_ok : treeAns (acallK tabs cfg2 400 ran9.f ran9.args [] [] 0) = some ran9.v := by kernel_rfl
end Go.Proofs.YtfgajganahpmhaaGreatRR.repModes
