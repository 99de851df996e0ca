/- ControlHosts, with what opens its arguments. -/
import Derived.Test.YtdcdefkloibfnaaGreatDoorCtHostsL
import Derived.Test.YtdcdefkloibfnaaGreatDoorMg09
namespace Go.Proofs.YtdcdefkloibfnaaGreatDoor
set_option linter.unusedVariables false
open Go.ChangeShapes Go.WideShapes Go.Deep Go.RowKit
section
variable {H : Type} {enc : TypeId × Value → H} {W : World} {base : Nat} {v : Value} {d : DataW H} {p : List MemPlace}
set_option maxRecDepth 100000 in
theorem open_rtable {hval : Value.okWide Tryz.prog W .any base 28 v} (h : DataW.Trod enc Tryz.prog W 0 (fun _ => true) true 28 v d p) : ∃ t : TV2, v = t.v ∧ TblIn W W.heap.size t := by
  obtain ⟨⟨cs⟩, rfl, hsz⟩ := okWide_struct Tryz.underlying28 hval
  have h6 : Tryz.prog.cellsOf 28 = 6 := by kernel_rfl
  rw [h6] at hsz
  obtain ⟨fuel, hfu⟩ := h
  match cs, hsz with
  | [c0, c1, c2, c3, c4, c5], _ =>
    obtain ⟨t, ht, hin⟩ := open_table hfu
    refine ⟨t, ?_, hin⟩
    show Value.agg (List.toArray [c0, c1, c2, c3, c4, c5]) = t.v
    rw [ht]
    rfl
end
end Go.Proofs.YtdcdefkloibfnaaGreatDoor
