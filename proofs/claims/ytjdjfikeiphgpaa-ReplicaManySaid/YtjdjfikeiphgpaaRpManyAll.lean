/- ReplicaMany: the walk and the reading of its arguments. -/
import Derived.Test.YtjdjfikeiphgpaaRpLMany
import Derived.Test.YtjdjfikeiphgpaaRpOpen
