/- Functions that work on their caller's own rows. Conditions: none. -/
import Derived.Test.YtjichafmpanegaaVYS
import Derived.Test.YtjichafmpanegaaVM12
import Derived.KernelRfl
namespace Go.Proofs.Ytjichafmpanegaa.VS
set_option maxRecDepth 100000
set_option maxHeartbeats 4000000
open Go.Shelf Go.RowKit
end Go.Proofs.Ytjichafmpanegaa.VS
