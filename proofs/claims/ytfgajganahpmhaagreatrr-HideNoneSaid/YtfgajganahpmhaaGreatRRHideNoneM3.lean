/- Calls that the law makes, run once. Conditions: none. -/
import Derived.Test.YtfgajganahpmhaaGreatRRHideNoneC
namespace Go.Proofs.YtfgajganahpmhaaGreatRR.hideNone
open VS
theorem ran24_ok : treeAns (acallK tabs cfg2 400 ran24.f ran24.args [] [] 0) = some ran24.v := by kernel_rfl
theorem ran25_ok : treeAns (acallK tabs cfg2 400 ran25.f ran25.args [] [] 0) = some ran25.v := by kernel_rfl
theorem ran26_ok : treeAns (acallK tabs cfg2 400 ran26.f ran26.args [] [] 0) = some ran26.v := by kernel_rfl
theorem ran27_ok : treeAns (acallK tabs cfg2 400 ran27.f ran27.args [] [] 0) = some ran27.v := by kernel_rfl
theorem ran28_ok : treeAns (acallK tabs cfg2 400 ran28.f ran28.args [] [] 0) = some ran28.v := by kernel_rfl
theorem ran29_ok : treeAns (acallK tabs cfg2 400 ran29.f ran29.args [] [] 0) = some ran29.v := by kernel_rfl
theorem ran30_ok : treeAns (acallK tabs cfg2 400 ran30.f ran30.args [] [] 0) = some ran30.v := by kernel_rfl
theorem ran31_ok : treeAns (acallK tabs cfg2 400 ran31.f ran31.args [] [] 0) = some ran31.v := by kernel_rfl
end Go.Proofs.YtfgajganahpmhaaGreatRR.hideNone
