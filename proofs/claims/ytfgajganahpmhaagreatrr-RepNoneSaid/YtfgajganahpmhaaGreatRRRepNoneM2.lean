/- Calls that the law makes, run once. Conditions: none. -/
import Derived.Test.YtfgajganahpmhaaGreatRRRepNoneC
namespace Go.Proofs.YtfgajganahpmhaaGreatRR.repNone
open VS
theorem ran20_ok : treeAns (acallK tabs cfg2 400 ran20.f ran20.args [] [] 0) = some ran20.v := by kernel_rfl
theorem ran21_ok : treeAns (acallK tabs cfg2 400 ran21.f ran21.args [] [] 0) = some ran21.v := by kernel_rfl
theorem ran22_ok : treeAns (acallK tabs cfg2 400 ran22.f ran22.args [] [] 0) = some ran22.v := by kernel_rfl
theorem ran23_ok : treeAns (acallK tabs cfg2 400 ran23.f ran23.args [] [] 0) = some ran23.v := by kernel_rfl
theorem ran24_ok : treeAns (acallK tabs cfg2 400 ran24.f ran24.args [] [] 0) = some ran24.v := by kernel_rfl
theorem ran25_ok : treeAns (acallK tabs cfg2 400 ran25.f ran25.args [] [] 0) = some ran25.v := by kernel_rfl
theorem ran26_ok : treeAns (acallK tabs cfg2 400 ran26.f ran26.args [] [] 0) = some ran26.v := by kernel_rfl
theorem ran27_ok : treeAns (acallK tabs cfg2 400 ran27.f ran27.args [] [] 0) = some ran27.v := by kernel_rfl
theorem ran28_ok : treeAns (acallK tabs cfg2 400 ran28.f ran28.args [] [] 0) = some ran28.v := by kernel_rfl
theorem ran29_ok : treeAns (acallK tabs cfg2 400 ran29.f ran29.args [] [] 0) = some ran29.v := by kernel_rfl
end Go.Proofs.YtfgajganahpmhaaGreatRR.repNone
