/- Calls that the law makes, run once. Conditions: none. -/
import Derived.Test.YtopkeglpafdlfaaGreatUpStubC
namespace Go.Proofs.YtopkeglpafdlfaaGreat.upStub
open VS
theorem ran36_ok : treeAns (acallK tabs cfgL0 400 ran36.f ran36.args [] [] 0) = some ran36.v := by kernel_rfl
theorem ran37_ok : treeAns (acallK tabs cfgL0 400 ran37.f ran37.args [] [] 0) = some ran37.v := by kernel_rfl
theorem ran38_ok : treeAns (acallK tabs cfgL0 400 ran38.f ran38.args [] [] 0) = some ran38.v := by kernel_rfl
theorem ran39_ok : treeAns (acallK tabs cfgL0 400 ran39.f ran39.args [] [] 0) = some ran39.v := by kernel_rfl
theorem ran40_ok : treeAns (acallK tabs cfgL0 400 ran40.f ran40.args [] [] 0) = some ran40.v := by kernel_rfl
theorem ran41_ok : treeAns (acallK tabs cfgL0 400 ran41.f ran41.args [] [] 0) = some ran41.v := by kernel_rfl
theorem ran42_ok : treeAns (acallK tabs cfgL0 400 ran42.f ran42.args [] [] 0) = some ran42.v := by kernel_rfl
theorem ran43_ok : treeAns (acallK tabs cfgL0 400 ran43.f ran43.args [] [] 0) = some ran43.v := by kernel_rfl
theorem ran44_ok : treeAns (acallK tabs cfgL0 400 ran44.f ran44.args [] [] 0) = some ran44.v := by kernel_rfl
theorem ran45_ok : treeAns (acallK tabs cfgL0 400 ran45.f ran45.args [] [] 0) = some ran45.v := by kernel_rfl
theorem ran46_ok : treeAns (acallK tabs cfgL0 400 ran46.f ran46.args [] [] 0) = some ran46.v := by kernel_rfl
theorem ran47_ok : treeAns (acallK tabs cfgL0 400 ran47.f ran47.args [] [] 0) = some ran47.v := by kernel_rfl
end Go.Proofs.YtopkeglpafdlfaaGreat.upStub
