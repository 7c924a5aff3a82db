/- All that is told, and loops in plain words. Conditions: none. -/
import Derived.Test.YtkdcjfnmmmmocaaYC2
import Derived.Test.YtkdcjfnmmmmocaaVM11
