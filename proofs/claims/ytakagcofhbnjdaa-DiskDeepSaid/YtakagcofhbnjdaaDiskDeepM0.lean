/- Calls that the law makes, run once. Conditions: none. -/
import Derived.Test.YtakagcofhbnjdaaDiskDeepC
namespace Go.Proofs.Ytakagcofhbnjdaa.diskDeep
open VS
theorem ran0_ok : treeAns (acallK tabs cfg2 100 ran0.f ran0.args [] [] 0) = some ran0.v := by kernel_rfl
theorem ran1_ok : treeAns (acallK tabs cfg2 100 ran1.f ran1.args [] [] 0) = some ran1.v := by kernel_rfl
theorem ran2_ok : treeAns (acallK tabs cfg2 100 ran2.f ran2.args [] [] 0) = some ran2.v := by kernel_rfl
theorem ran3_ok : treeAns (acallK tabs cfg2 100 ran3.f ran3.args [] [] 0) = some ran3.v := by kernel_rfl
theorem ran4_ok : treeAns (acallK tabs cfg2 100 ran4.f ran4.args [] [] 0) = some ran4.v := by kernel_rfl
theorem ran5_ok : treeAns (acallK tabs cfg2 100 ran5.f ran5.args [] [] 0) = some ran5.v := by kernel_rfl
theorem ran6_ok : treeAns (acallK tabs cfg2 100 ran6.f ran6.args [] [] 0) = some ran6.v := by kernel_rfl
theorem ran7_ok : treeAns (acallK tabs cfg2 100 ran7.f ran7.args [] [] 0) = some ran7.v := by kernel_rfl
theorem ran8_ok : treeAns (acallK tabs cfg2 100 ran8.f ran8.args [] [] 0) = some ran8.v := by kernel_rfl
theorem ran9_ok : treeAns (acallK tabs cfg2 100 ran9.f ran9.args [] [] 0) = some ran9.v := by kernel_rfl
theorem ran10_ok : treeAns (acallK tabs cfg2 100 ran10.f ran10.args [] [] 0) = some ran10.v := by kernel_rfl
theorem ran11_ok : treeAns (acallK tabs cfg2 100 ran11.f ran11.args [] [] 0) = some ran11.v := by kernel_rfl
theorem ran12_ok : treeAns (acallK tabs cfg2 100 ran12.f ran12.args [] [] 0) = some ran12.v := by kernel_rfl
theorem ran13_ok : treeAns (acallK tabs cfg2 100 ran13.f ran13.args [] [] 0) = some ran13.v := by kernel_rfl
theorem ran14_ok : treeAns (acallK tabs cfg2 100 ran14.f ran14.args [] [] 0) = some ran14.v := by kernel_rfl
theorem ran15_ok : treeAns (acallK tabs cfg2 100 ran15.f ran15.args [] [] 0) = some ran15.v := by kernel_rfl
theorem ran16_ok : treeAns (acallK tabs cfg2 100 ran16.f ran16.args [] [] 0) = some ran16.v := by kernel_rfl
theorem ran17_ok : treeAns (acallK tabs cfg2 100 ran17.f ran17.args [] [] 0) = some ran17.v := by kernel_rfl
theorem ran18_ok : treeAns (acallK tabs cfg2 100 ran18.f ran18.args [] [] 0) = some ran18.v := by kernel_rfl
theorem ran19_ok : treeAns (acallK tabs cfg2 100 ran19.f ran19.args [] [] 0) = some ran19.v := by kernel_rfl
theorem ran20_ok : treeAns (acallK tabs cfg2 100 ran20.f ran20.args [] [] 0) = some ran20.v := by kernel_rfl
theorem ran21_ok : treeAns (acallK tabs cfg2 100 ran21.f ran21.args [] [] 0) = some ran21.v := by kernel_rfl
theorem ran22_ok : treeAns (acallK tabs cfg2 100 ran22.f ran22.args [] [] 0) = some ran22.v := by kernel_rfl
theorem ran23_ok : treeAns (acallK tabs cfg2 100 ran23.f ran23.args [] [] 0) = some ran23.v := by kernel_rfl
theorem ran24_ok : treeAns (acallK tabs cfg2 100 ran24.f ran24.args [] [] 0) = some ran24.v := by kernel_rfl
theorem ran25_ok : treeAns (acallK tabs cfg2 100 ran25.f ran25.args [] [] 0) = some ran25.v := by kernel_rfl
theorem ran26_ok : treeAns (acallK tabs cfg2 100 ran26.f ran26.args [] [] 0) = some ran26.v := by kernel_rfl
theorem ran27_ok : treeAns (acallK tabs cfg2 100 ran27.f ran27.args [] [] 0) = some ran27.v := by kernel_rfl
theorem ran28_ok : treeAns (acallK tabs cfg2 100 ran28.f ran28.args [] [] 0) = some ran28.v := by kernel_rfl
theorem ran29_ok : treeAns (acallK tabs cfg2 100 ran29.f ran29.args [] [] 0) = some ran29.v := by kernel_rfl
theorem ran30_ok : treeAns (acallK tabs cfg2 100 ran30.f ran30.args [] [] 0) = some ran30.v := by kernel_rfl
end Go.Proofs.Ytakagcofhbnjdaa.diskDeep
