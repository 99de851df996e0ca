/- PoolReadies, with what opens its arguments. -/
import Derived.Test.YtfnjoceolcdeoaaGreatDoorMr44
import Derived.Test.YtfnjoceolcdeoaaGreatDoorMr45
