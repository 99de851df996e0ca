/- One element of a slice of ints. -/
import Derived.Test.YtelcielfhgijpaaDoorProg
import Derived.Test.YtelcielfhgijpaaDoorOwn
namespace Go.Proofs.YtelcielfhgijpaaDoor
set_option linter.unusedVariables false
theorem intsT2 : SlT Tryd.prog 31 3 (.int .i64 0) 1 8 := ⟨Tryd.underlying31, by kernel_rfl, rfl, by decide, by decide⟩
end Go.Proofs.YtelcielfhgijpaaDoor
