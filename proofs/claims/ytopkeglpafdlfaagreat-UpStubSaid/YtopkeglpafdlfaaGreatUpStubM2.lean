/- Calls that the law makes, run once. Conditions: none. -/
import Derived.Test.YtopkeglpafdlfaaGreatUpStubC
namespace Go.Proofs.YtopkeglpafdlfaaGreat.upStub
open VS
theorem ran24_ok : treeAns (acallK tabs cfg2 400 ran24.f ran24.args [] [] 0) = some ran24.v := by kernel_rfl
theorem ran25_ok : treeAns (acallK tabs cfg2 400 ran25.f ran25.args [] [] 0) = some ran25.v := by kernel_rfl
theorem ran26_ok : treeAns (acallK tabs cfg2 400 ran26.f ran26.args [] [] 0) = some ran26.v := by kernel_rfl
theorem ran27_ok : treeAns (acallK tabs cfg2 400 ran27.f ran27.args [] [] 0) = some ran27.v := by kernel_rfl
theorem ran28_ok : treeAns (acallK tabs cfg2 400 ran28.f ran28.args [] [] 0) = some ran28.v := by kernel_rfl
theorem ran29_ok : treeAns (acallK tabs cfg2 400 ran29.f ran29.args [] [] 0) = some ran29.v := by kernel_rfl
theorem ran30_ok : treeAns (acallK tabs cfg2 400 ran30.f ran30.args [] [] 0) = some ran30.v := by kernel_rfl
theorem ran31_ok : treeAns (acallK tabs cfgL0 400 ran31.f ran31.args [] [] 0) = some ran31.v := by kernel_rfl
theorem ran32_ok : treeAns (acallK tabs cfgL0 400 ran32.f ran32.args [] [] 0) = some ran32.v := by kernel_rfl
theorem ran33_ok : treeAns (acallK tabs cfgL0 400 ran33.f ran33.args [] [] 0) = some ran33.v := by kernel_rfl
theorem ran34_ok : treeAns (acallK tabs cfgL0 400 ran34.f ran34.args [] [] 0) = some ran34.v := by kernel_rfl
theorem ran35_ok : treeAns (acallK tabs cfgL0 400 ran35.f ran35.args [] [] 0) = some ran35.v := by kernel_rfl
end Go.Proofs.YtopkeglpafdlfaaGreat.upStub
