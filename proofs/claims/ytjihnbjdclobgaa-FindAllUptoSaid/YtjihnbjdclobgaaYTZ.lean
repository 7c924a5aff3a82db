/- All that is told, and loops in plain words. Conditions: none. -/
import Derived.Test.YtjihnbjdclobgaaYF5
import Derived.Test.YtjihnbjdclobgaaVM11
