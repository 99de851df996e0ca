/- The listed variables of strconv hold errors: Errs from the row's own cells. -/
import Derived.Test.YthjpoiemconeeaaDoorRgReads
import Derived.MakeChecks
import Derived.Stop.LaidErr
import Derived.LaidLaws
namespace Go.Proofs.YthjpoiemconeeaaDoor
set_option linter.unusedVariables false
open Go.RowKit

theorem er_star : "*" ++ "errors.errorString" = "*errors.errorString" := by decide
theorem er_row (u : TypeId) (h : Tryd.prog.typeName? 3 u = some "*errors.errorString") : u = 117 :=
  typeName_ptr_named (nm := "errors.errorString") (by rw [er_star]; kernel_rfl) (by kernel_rfl) (by decide) u (by rw [er_star]; exact h)

theorem errs_of_laid {W : World} {T1 T2 : List UInt8} {r : List (String × DataW Unit)}
    (h : laidMet Tryd.prog (("strconv.ErrRange", .iface "*errors.errorString" (.ptr (.agg [.lit (.string T1)]))) :: ("strconv.ErrSyntax", .iface "*errors.errorString" (.ptr (.agg [.lit (.string T2)]))) :: r) W) : Errs W := by
  obtain ⟨a, _, hv, _⟩ := laid_sentinel h (g := 1) (by kernel_rfl) (ti := 70) (by kernel_rfl) Tryd.underlying70 er_row Tryd.underlying117 Tryd.underlying119 rfl rfl Tryd.underlying9 (by kernel_rfl) (by kernel_rfl)
  obtain ⟨b, _, hw, _⟩ := laid_sentinel h.tail (g := 0) (by kernel_rfl) (ti := 70) (by kernel_rfl) Tryd.underlying70 er_row Tryd.underlying117 Tryd.underlying119 rfl rfl Tryd.underlying9 (by kernel_rfl) (by kernel_rfl)
  exact ⟨⟨_, _, by simpa using World.var?_cell (g := 0) (by kernel_rfl) hw 0⟩, _, _, by simpa using World.var?_cell (g := 1) (by kernel_rfl) hv 0⟩
end Go.Proofs.YthjpoiemconeeaaDoor
