/- Calls that the law makes, run once. Conditions: none. -/
import Derived.Test.YtfgajganahpmhaaGreatRRRepNoneC
namespace Go.Proofs.YtfgajganahpmhaaGreatRR.repNone
open VS
theorem ran10_ok : treeAns (acallK tabs cfg2 400 ran10.f ran10.args [] [] 0) = some ran10.v := by kernel_rfl
theorem ran11_ok : treeAns (acallK tabs cfg2 400 ran11.f ran11.args [] [] 0) = some ran11.v := by kernel_rfl
theorem ran12_ok : treeAns (acallK tabs cfg2 400 ran12.f ran12.args [] [] 0) = some ran12.v := by kernel_rfl
theorem ran13_ok : treeAns (acallK tabs cfg2 400 ran13.f ran13.args [] [] 0) = some ran13.v := by kernel_rfl
theorem ran14_ok : treeAns (acallK tabs cfg2 400 ran14.f ran14.args [] [] 0) = some ran14.v := by kernel_rfl
theorem ran15_ok : treeAns (acallK tabs cfg2 400 ran15.f ran15.args [] [] 0) = some ran15.v := by kernel_rfl
theorem ran16_ok : treeAns (acallK tabs cfg2 400 ran16.f ran16.args [] [] 0) = some ran16.v := by kernel_rfl
theorem ran17_ok : treeAns (acallK tabs cfg2 400 ran17.f ran17.args [] [] 0) = some ran17.v := by kernel_rfl
theorem ran18_ok : treeAns (acallK tabs cfg2 400 ran18.f ran18.args [] [] 0) = some ran18.v := by kernel_rfl
theorem ran19_ok : treeAns (acallK tabs cfg2 400 ran19.f ran19.args [] [] 0) = some ran19.v := by kernel_rfl
end Go.Proofs.YtfgajganahpmhaaGreatRR.repNone
