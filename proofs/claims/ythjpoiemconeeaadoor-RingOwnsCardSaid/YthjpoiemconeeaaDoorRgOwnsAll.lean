/- RingOwns: the walk and the reading of its places. -/
import Derived.Test.YthjpoiemconeeaaDoorRgOwns
import Derived.Test.YthjpoiemconeeaaDoorRgOpen
