/- Calls that the law makes, run once. Conditions: none. -/
import Derived.Test.YtopkeglpafdlfaaGreatUpStubC
namespace Go.Proofs.YtopkeglpafdlfaaGreat.upStub
open VS
theorem ran0_ok : treeAns (acallK tabs cfg2 400 ran0.f ran0.args [] [] 0) = some ran0.v := by kernel_rfl
theorem ran1_ok : treeAns (acallK tabs cfg2 400 ran1.f ran1.args [] [] 0) = some ran1.v := by kernel_rfl
theorem ran2_ok : treeAns (acallK tabs cfg2 400 ran2.f ran2.args [] [] 0) = some ran2.v := by kernel_rfl
theorem ran3_ok : treeAns (acallK tabs cfg2 400 ran3.f ran3.args [] [] 0) = some ran3.v := by kernel_rfl
theorem ran4_ok : treeAns (acallK tabs cfg2 400 ran4.f ran4.args [] [] 0) = some ran4.v := by kernel_rfl
theorem ran5_ok : treeAns (acallK tabs cfg2 400 ran5.f ran5.args [] [] 0) = some ran5.v := by kernel_rfl
theorem ran6_ok : treeAns (acallK tabs cfg2 400 ran6.f ran6.args [] [] 0) = some ran6.v := by kernel_rfl
theorem ran7_ok : treeAns (acallK tabs cfg2 400 ran7.f ran7.args [] [] 0) = some ran7.v := by kernel_rfl
theorem ran8_ok : treeAns (acallK tabs cfg2 400 ran8.f ran8.args [] [] 0) = some ran8.v := by kernel_rfl
theorem ran9_ok : treeAns (acallK tabs cfg2 400 ran9.f ran9.args [] [] 0) = some ran9.v := by kernel_rfl
theorem ran10_ok : treeAns (acallK tabs cfg2 400 ran10.f ran10.args [] [] 0) = some ran10.v := by kernel_rfl
theorem ran11_ok : treeAns (acallK tabs cfg2 400 ran11.f ran11.args [] [] 0) = some ran11.v := by kernel_rfl
end Go.Proofs.YtopkeglpafdlfaaGreat.upStub
