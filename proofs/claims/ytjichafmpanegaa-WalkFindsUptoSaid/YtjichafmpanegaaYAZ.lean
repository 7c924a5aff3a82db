/- All that is told, and loops in plain words. Conditions: none. -/
import Derived.Test.YtjichafmpanegaaYA3
import Derived.Test.YtjichafmpanegaaVM11
