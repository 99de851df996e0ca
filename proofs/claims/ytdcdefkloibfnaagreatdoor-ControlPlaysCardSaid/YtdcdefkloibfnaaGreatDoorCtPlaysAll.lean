/- ControlPlays, with what opens its arguments. -/
import Derived.Test.YtdcdefkloibfnaaGreatDoorCtPlaysL
import Derived.Test.YtdcdefkloibfnaaGreatDoorCtPlaysO
