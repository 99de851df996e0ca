/- map[string]bool. -/
import Derived.Test.YtjkmgpmknadhjaaGreatRgBase
namespace Go.Proofs.YtjkmgpmknadhjaaGreat
set_option linter.unusedVariables false
open Go.RowKit

theorem msbM : Tryz.prog.underlying 68 = some (.map 9 4) := by kernel_rfl
theorem strU : Tryz.prog.underlying 9 = some .string := by kernel_rfl
theorem zero_bool (w : World) : (zeroValue 4).run Tryz.prog w = .ok (.bool false) w := Tryz.zeroValue4 w
end Go.Proofs.YtjkmgpmknadhjaaGreat
