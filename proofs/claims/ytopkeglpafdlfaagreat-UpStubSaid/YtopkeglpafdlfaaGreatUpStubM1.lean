/- Calls that the law makes, run once. Conditions: none. -/
import Derived.Test.YtopkeglpafdlfaaGreatUpStubC
namespace Go.Proofs.YtopkeglpafdlfaaGreat.upStub
open VS
theorem ran12_ok : treeAns (acallK tabs cfg2 400 ran12.f ran12.args [] [] 0) = some ran12.v := by kernel_rfl
theorem ran13_ok : treeAns (acallK tabs cfg2 400 ran13.f ran13.args [] [] 0) = some ran13.v := by kernel_rfl
theorem ran14_ok : treeAns (acallK tabs cfg2 400 ran14.f ran14.args [] [] 0) = some ran14.v := by kernel_rfl
theorem ran15_ok : treeAns (acallK tabs cfg2 400 ran15.f ran15.args [] [] 0) = some ran15.v := by kernel_rfl
theorem ran16_ok : treeAns (acallK tabs cfg2 400 ran16.f ran16.args [] [] 0) = some ran16.v := by kernel_rfl
theorem ran17_ok : treeAns (acallK tabs cfg2 400 ran17.f ran17.args [] [] 0) = some ran17.v := by kernel_rfl
theorem ran18_ok : treeAns (acallK tabs cfg2 400 ran18.f ran18.args [] [] 0) = some ran18.v := by kernel_rfl
theorem ran19_ok : treeAns (acallK tabs cfg2 400 ran19.f ran19.args [] [] 0) = some ran19.v := by kernel_rfl
theorem ran20_ok : treeAns (acallK tabs cfg2 400 ran20.f ran20.args [] [] 0) = some ran20.v := by kernel_rfl
theorem ran21_ok : treeAns (acallK tabs cfg2 400 ran21.f ran21.args [] [] 0) = some ran21.v := by kernel_rfl
theorem ran22_ok : treeAns (acallK tabs cfg2 400 ran22.f ran22.args [] [] 0) = some ran22.v := by kernel_rfl
theorem ran23_ok : treeAns (acallK tabs cfg2 400 ran23.f ran23.args [] [] 0) = some ran23.v := by kernel_rfl
end Go.Proofs.YtopkeglpafdlfaaGreat.upStub
