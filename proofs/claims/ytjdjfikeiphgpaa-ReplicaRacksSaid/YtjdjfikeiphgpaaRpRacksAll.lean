/- ReplicaRacks: the walk and the reading of its arguments. -/
import Derived.Test.YtjdjfikeiphgpaaRpLRacks
import Derived.Test.YtjdjfikeiphgpaaRpOpen
