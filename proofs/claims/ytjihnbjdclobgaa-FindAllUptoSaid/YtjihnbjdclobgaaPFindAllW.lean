/- FindAll, by weight. Conditions: none. -/
import Derived.Test.YtjihnbjdclobgaaPFindAll
import Derived.Test.YtjihnbjdclobgaaPW
namespace Go.Proofs.Ytjihnbjdclobgaa.VS
theorem lawW_FindAll (d : Dsk) (s : Str) (h : wDsk d + (wS s + 0) ≤ 1048576) : f_law5_FindAll d s = some true := by
  obtain ⟨h1, h2, h3⟩ := sm_of_w (d := d) (n := 1048576) (by omega) (by unfold SM; omega)
  exact law_FindAll d s h1 h2 h3
end Go.Proofs.Ytjihnbjdclobgaa.VS
