/- Calls that the law makes, run once. Conditions: none. -/
import Derived.Test.YtakagcofhbnjdaaDiskDeepC
namespace Go.Proofs.Ytakagcofhbnjdaa.diskDeep
open VS
theorem ran31_ok : treeAns (acallK tabs cfg2 100 ran31.f ran31.args [] [] 0) = some ran31.v := by kernel_rfl
theorem ran32_ok : treeAns (acallK tabs cfg2 100 ran32.f ran32.args [] [] 0) = some ran32.v := by kernel_rfl
theorem ran33_ok : treeAns (acallK tabs cfg2 100 ran33.f ran33.args [] [] 0) = some ran33.v := by kernel_rfl
theorem ran34_ok : treeAns (acallK tabs cfg2 100 ran34.f ran34.args [] [] 0) = some ran34.v := by kernel_rfl
theorem ran35_ok : treeAns (acallK tabs cfg2 100 ran35.f ran35.args [] [] 0) = some ran35.v := by kernel_rfl
theorem ran36_ok : treeAns (acallK tabs cfg2 100 ran36.f ran36.args [] [] 0) = some ran36.v := by kernel_rfl
theorem ran37_ok : treeAns (acallK tabs cfg2 100 ran37.f ran37.args [] [] 0) = some ran37.v := by kernel_rfl
theorem ran38_ok : treeAns (acallK tabs cfg2 100 ran38.f ran38.args [] [] 0) = some ran38.v := by kernel_rfl
theorem ran39_ok : treeAns (acallK tabs cfg2 100 ran39.f ran39.args [] [] 0) = some ran39.v := by kernel_rfl
theorem ran40_ok : treeAns (acallK tabs cfg2 100 ran40.f ran40.args [] [] 0) = some ran40.v := by kernel_rfl
theorem ran41_ok : treeAns (acallK tabs cfg2 100 ran41.f ran41.args [] [] 0) = some ran41.v := by kernel_rfl
theorem ran42_ok : treeAns (acallK tabs cfg2 100 ran42.f ran42.args [] [] 0) = some ran42.v := by kernel_rfl
theorem ran43_ok : treeAns (acallK tabs cfg2 100 ran43.f ran43.args [] [] 0) = some ran43.v := by kernel_rfl
theorem ran44_ok : treeAns (acallK tabs cfg2 100 ran44.f ran44.args [] [] 0) = some ran44.v := by kernel_rfl
theorem ran45_ok : treeAns (acallK tabs cfg2 100 ran45.f ran45.args [] [] 0) = some ran45.v := by kernel_rfl
theorem ran46_ok : treeAns (acallK tabs cfg2 100 ran46.f ran46.args [] [] 0) = some ran46.v := by kernel_rfl
theorem ran47_ok : treeAns (acallK tabs cfg2 100 ran47.f ran47.args [] [] 0) = some ran47.v := by kernel_rfl
theorem ran48_ok : treeAns (acallK tabs cfg2 100 ran48.f ran48.args [] [] 0) = some ran48.v := by kernel_rfl
theorem ran49_ok : treeAns (acallK tabs cfg2 100 ran49.f ran49.args [] [] 0) = some ran49.v := by kernel_rfl
theorem ran50_ok : treeAns (acallK tabs cfg2 100 ran50.f ran50.args [] [] 0) = some ran50.v := by kernel_rfl
theorem ran51_ok : treeAns (acallK tabs cfg2 100 ran51.f ran51.args [] [] 0) = some ran51.v := by kernel_rfl
theorem ran52_ok : treeAns (acallK tabs cfg2 100 ran52.f ran52.args [] [] 0) = some ran52.v := by kernel_rfl
theorem ran53_ok : treeAns (acallK tabs cfg2 100 ran53.f ran53.args [] [] 0) = some ran53.v := by kernel_rfl
theorem ran54_ok : treeAns (acallK tabs cfg2 100 ran54.f ran54.args [] [] 0) = some ran54.v := by kernel_rfl
theorem ran55_ok : treeAns (acallK tabs cfg2 100 ran55.f ran55.args [] [] 0) = some ran55.v := by kernel_rfl
theorem ran56_ok : treeAns (acallK tabs cfg2 100 ran56.f ran56.args [] [] 0) = some ran56.v := by kernel_rfl
theorem ran57_ok : treeAns (acallK tabs cfg2 100 ran57.f ran57.args [] [] 0) = some ran57.v := by kernel_rfl
theorem ran58_ok : treeAns (acallK tabs cfg2 100 ran58.f ran58.args [] [] 0) = some ran58.v := by kernel_rfl
theorem ran59_ok : treeAns (acallK tabs cfg2 100 ran59.f ran59.args [] [] 0) = some ran59.v := by kernel_rfl
theorem ran60_ok : treeAns (acallK tabs cfg2 100 ran60.f ran60.args [] [] 0) = some ran60.v := by kernel_rfl
end Go.Proofs.Ytakagcofhbnjdaa.diskDeep
