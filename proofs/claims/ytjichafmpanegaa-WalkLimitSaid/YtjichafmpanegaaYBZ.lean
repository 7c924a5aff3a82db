/- All that is told, and loops in plain words. Conditions: none. -/
import Derived.Test.YtjichafmpanegaaYB2
import Derived.Test.YtjichafmpanegaaVM11
