/- ControlNames, with what opens its arguments. -/
import Derived.Test.YtdcdefkloibfnaaGreatDoorCtNames
import Derived.Test.YtdcdefkloibfnaaGreatDoorMg08
