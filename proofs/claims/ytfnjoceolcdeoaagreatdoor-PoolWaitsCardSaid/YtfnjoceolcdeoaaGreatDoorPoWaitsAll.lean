/- PoolWaits, with what opens its arguments. -/
import Derived.Test.YtfnjoceolcdeoaaGreatDoorMg43
import Derived.Test.YtfnjoceolcdeoaaGreatDoorMg44
