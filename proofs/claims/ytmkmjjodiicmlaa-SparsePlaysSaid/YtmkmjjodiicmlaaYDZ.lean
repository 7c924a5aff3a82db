/- All that is told, and loops in plain words. Conditions: none. -/
import Derived.Test.YtmkmjjodiicmlaaYD
import Derived.Test.YtmkmjjodiicmlaaVM11
