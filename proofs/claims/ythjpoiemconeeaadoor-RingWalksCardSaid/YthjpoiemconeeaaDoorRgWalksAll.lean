/- RingWalks: the walk and the reading of its places. -/
import Derived.Test.YthjpoiemconeeaaDoorRgWalks
import Derived.Test.YthjpoiemconeeaaDoorRgOpen
