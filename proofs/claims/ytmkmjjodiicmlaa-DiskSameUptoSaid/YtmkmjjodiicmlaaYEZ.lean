/- All that is told, and loops in plain words. Conditions: none. -/
import Derived.Test.YtmkmjjodiicmlaaYE1
import Derived.Test.YtmkmjjodiicmlaaVM11
