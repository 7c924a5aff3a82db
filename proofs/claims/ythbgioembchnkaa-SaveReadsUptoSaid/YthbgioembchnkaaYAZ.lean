/- All that is told, and loops in plain words. Conditions: none. -/
import Derived.Test.YthbgioembchnkaaYA3
import Derived.Test.YthbgioembchnkaaVM11
