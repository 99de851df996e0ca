/- ReplicaNetworks: the walk and the reading of its arguments. -/
import Derived.Test.YtjdjfikeiphgpaaRpLNets
import Derived.Test.YtjdjfikeiphgpaaRpOpen
