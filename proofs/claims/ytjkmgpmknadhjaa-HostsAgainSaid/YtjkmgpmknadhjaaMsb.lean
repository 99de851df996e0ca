/- map[string]bool. -/
import Derived.Test.YtjkmgpmknadhjaaRgBase
namespace Go.Proofs.Ytjkmgpmknadhjaa
set_option linter.unusedVariables false
open Go.RowKit

theorem msbM : Try.prog.underlying 53 = some (.map 9 4) := by kernel_rfl
theorem strU : Try.prog.underlying 9 = some .string := by kernel_rfl
theorem zero_bool (w : World) : (zeroValue 4).run Try.prog w = .ok (.bool false) w := Try.zeroValue4 w
end Go.Proofs.Ytjkmgpmknadhjaa
