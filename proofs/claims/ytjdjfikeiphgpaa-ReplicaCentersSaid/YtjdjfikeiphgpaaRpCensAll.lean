/- ReplicaCenters: the walk and the reading of its arguments. -/
import Derived.Test.YtjdjfikeiphgpaaRpLCens
import Derived.Test.YtjdjfikeiphgpaaRpOpen
