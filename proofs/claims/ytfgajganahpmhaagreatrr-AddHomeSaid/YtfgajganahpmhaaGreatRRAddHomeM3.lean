/- Calls that the law makes, run once. Conditions: none. -/
import Derived.Test.YtfgajganahpmhaaGreatRRAddHomeC
namespace Go.Proofs.YtfgajganahpmhaaGreatRR.addHome
open VS
theorem ran21_ok : treeAns (acallK tabs cfgL1 400 ran21.f ran21.args [] [] 0) = some ran21.v := by kernel_rfl
theorem ran22_ok : treeAns (acallK tabs cfgL1 400 ran22.f ran22.args [] [] 0) = some ran22.v := by kernel_rfl
theorem ran23_ok : treeAns (acallK tabs cfgL1 400 ran23.f ran23.args [] [] 0) = some ran23.v := by kernel_rfl
theorem ran24_ok : treeAns (acallK tabs cfgL2 400 ran24.f ran24.args [] [] 0) = some ran24.v := by kernel_rfl
end Go.Proofs.YtfgajganahpmhaaGreatRR.addHome
