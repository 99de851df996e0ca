/- StreamsPlays: the walk and the reading of its script. -/
import Derived.Test.YtelcielfhgijpaaDoorStPlays
import Derived.Test.YtelcielfhgijpaaDoorStActs
