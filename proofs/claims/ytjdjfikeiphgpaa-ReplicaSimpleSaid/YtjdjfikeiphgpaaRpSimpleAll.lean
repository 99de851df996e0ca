/- ReplicaSimple: the walk and the reading of its places. -/
import Derived.Test.YtjdjfikeiphgpaaRpLSimple
import Derived.Test.YtjdjfikeiphgpaaRpOpen
