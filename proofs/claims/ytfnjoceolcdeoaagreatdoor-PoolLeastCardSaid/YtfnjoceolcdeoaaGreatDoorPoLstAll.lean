/- PoolLeast, with what opens its arguments. -/
import Derived.Test.YtfnjoceolcdeoaaGreatDoorMr48
import Derived.Test.YtfnjoceolcdeoaaGreatDoorMr45
