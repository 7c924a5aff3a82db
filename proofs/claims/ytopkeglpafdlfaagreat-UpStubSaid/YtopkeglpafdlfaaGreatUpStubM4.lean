/- Calls that the law makes, run once. Conditions: none. -/
import Derived.Test.YtopkeglpafdlfaaGreatUpStubC
namespace Go.Proofs.YtopkeglpafdlfaaGreat.upStub
open VS
theorem ran48_ok : treeAns (acallK tabs cfgL0 400 ran48.f ran48.args [] [] 0) = some ran48.v := by kernel_rfl
theorem ran49_ok : treeAns (acallK tabs cfgL0 400 ran49.f ran49.args [] [] 0) = some ran49.v := by kernel_rfl
theorem ran50_ok : treeAns (acallK tabs cfgL0 400 ran50.f ran50.args [] [] 0) = some ran50.v := by kernel_rfl
theorem ran51_ok : treeAns (acallK tabs cfgL1 400 ran51.f ran51.args [] [] 0) = some ran51.v := by kernel_rfl
theorem ran52_ok : treeAns (acallK tabs cfgL1 400 ran52.f ran52.args [] [] 0) = some ran52.v := by kernel_rfl
theorem ran53_ok : treeAns (acallK tabs cfgL1 400 ran53.f ran53.args [] [] 0) = some ran53.v := by kernel_rfl
theorem ran54_ok : treeAns (acallK tabs cfgL1 400 ran54.f ran54.args [] [] 0) = some ran54.v := by kernel_rfl
theorem ran55_ok : treeAns (acallK tabs cfgL1 400 ran55.f ran55.args [] [] 0) = some ran55.v := by kernel_rfl
theorem ran56_ok : treeAns (acallK tabs cfgL1 400 ran56.f ran56.args [] [] 0) = some ran56.v := by kernel_rfl
theorem ran57_ok : treeAns (acallK tabs cfgL2 400 ran57.f ran57.args [] [] 0) = some ran57.v := by kernel_rfl
theorem ran58_ok : treeAns (acallK tabs cfgL2 400 ran58.f ran58.args [] [] 0) = some ran58.v := by kernel_rfl
theorem ran59_ok : treeAns (acallK tabs cfgL2 400 ran59.f ran59.args [] [] 0) = some ran59.v := by kernel_rfl
end Go.Proofs.YtopkeglpafdlfaaGreat.upStub
