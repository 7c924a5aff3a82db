/- All that is told, and loops in plain words. Conditions: none. -/
import Derived.Test.YtmkmjjodiicmlaaYB
import Derived.Test.YtmkmjjodiicmlaaVM11
