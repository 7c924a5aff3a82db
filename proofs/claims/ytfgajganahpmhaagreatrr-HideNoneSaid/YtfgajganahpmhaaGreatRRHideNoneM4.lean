/- Calls that the law makes, run once. Conditions: none. -/
import Derived.Test.YtfgajganahpmhaaGreatRRHideNoneC
namespace Go.Proofs.YtfgajganahpmhaaGreatRR.hideNone
open VS
theorem ran32_ok : treeAns (acallK tabs cfg2 400 ran32.f ran32.args [] [] 0) = some ran32.v := by kernel_rfl
theorem ran33_ok : treeAns (acallK tabs cfg2 400 ran33.f ran33.args [] [] 0) = some ran33.v := by kernel_rfl
theorem ran34_ok : treeAns (acallK tabs cfg2 400 ran34.f ran34.args [] [] 0) = some ran34.v := by kernel_rfl
theorem ran35_ok : treeAns (acallK tabs cfg2 400 ran35.f ran35.args [] [] 0) = some ran35.v := by kernel_rfl
theorem ran36_ok : treeAns (acallK tabs cfg2 400 ran36.f ran36.args [] [] 0) = some ran36.v := by kernel_rfl
theorem ran37_ok : treeAns (acallK tabs cfg2 400 ran37.f ran37.args [] [] 0) = some ran37.v := by kernel_rfl
theorem ran38_ok : treeAns (acallK tabs cfg2 400 ran38.f ran38.args [] [] 0) = some ran38.v := by kernel_rfl
theorem ran39_ok : treeAns (acallK tabs cfgL0 400 ran39.f ran39.args [] [] 0) = some ran39.v := by kernel_rfl
end Go.Proofs.YtfgajganahpmhaaGreatRR.hideNone
