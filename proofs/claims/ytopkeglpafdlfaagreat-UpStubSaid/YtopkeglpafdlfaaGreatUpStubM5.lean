/- Calls that the law makes, run once. Conditions: none. -/
import Derived.Test.YtopkeglpafdlfaaGreatUpStubC
namespace Go.Proofs.YtopkeglpafdlfaaGreat.upStub
open VS
theorem ran60_ok : treeAns (acallK tabs cfgL2 400 ran60.f ran60.args [] [] 0) = some ran60.v := by kernel_rfl
theorem ran61_ok : treeAns (acallK tabs cfgL2 400 ran61.f ran61.args [] [] 0) = some ran61.v := by kernel_rfl
theorem ran62_ok : treeAns (acallK tabs cfgL2 400 ran62.f ran62.args [] [] 0) = some ran62.v := by kernel_rfl
theorem ran63_ok : treeAns (acallK tabs cfgL2 400 ran63.f ran63.args [] [] 0) = some ran63.v := by kernel_rfl
theorem ran64_ok : treeAns (acallK tabs cfgL2 400 ran64.f ran64.args [] [] 0) = some ran64.v := by kernel_rfl
theorem ran65_ok : treeAns (acallK tabs cfgL2 400 ran65.f ran65.args [] [] 0) = some ran65.v := by kernel_rfl
theorem ran66_ok : treeAns (acallK tabs cfgL2 400 ran66.f ran66.args [] [] 0) = some ran66.v := by kernel_rfl
theorem ran67_ok : treeAns (acallK tabs cfgL2 400 ran67.f ran67.args [] [] 0) = some ran67.v := by kernel_rfl
theorem ran68_ok : treeAns (acallK tabs cfgL3 400 ran68.f ran68.args [] [] 0) = some ran68.v := by kernel_rfl
end Go.Proofs.YtopkeglpafdlfaaGreat.upStub
