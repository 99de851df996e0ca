/- ControlUps, with what opens its arguments. -/
import Derived.Test.YtdcdefkloibfnaaGreatDoorCtUps
import Derived.Test.YtdcdefkloibfnaaGreatDoorMg08
namespace Go.Proofs.YtdcdefkloibfnaaGreatDoor
set_option linter.unusedVariables false
open Go.ChangeShapes Go.WideShapes Go.Deep Go.RowKit
section
variable {H : Type} {enc : TypeId × Value → H} {W : World} {base : Nat} {v : Value} {d : DataW H} {p : List MemPlace}
set_option maxRecDepth 100000 in
theorem open_bools {hval : Value.okWide Tryz.prog W .any base 85 v} (h : DataW.Trod enc Tryz.prog W 0 (fun _ => true) true 85 v d p) :
    ∃ A n c, v = .slice A n c ∧ ∃ l : List Bool, Lo W W.heap.size 1 (.slice A n c) n (l.map Value.bool) := by
  obtain ⟨a0, len0, cap0, rfl⟩ := okWide_slice Tryz.underlying85 hval
  obtain ⟨fuel, hfu⟩ := h
  obtain ⟨A, n, c, hcs, l, hl, hlo⟩ := open_cell (k := 1) Tryz.underlying85 (by kernel_rfl) (by decide) hfu (fun b : Bool => [Value.bool b]) (fun _ => rfl) (fun cs n y hl h => by
    obtain ⟨b, e, -⟩ := DataW.trod_bool Tryz.underlying4 h
    exact ⟨b, e⟩)
  rw [← List.map_eq_flatMap] at hlo
  have hv : Value.slice a0 len0 cap0 = .slice A n c := by simpa [Value.cells] using hcs
  exact ⟨A, n, c, hv, l, hlo⟩
end
end Go.Proofs.YtdcdefkloibfnaaGreatDoor
