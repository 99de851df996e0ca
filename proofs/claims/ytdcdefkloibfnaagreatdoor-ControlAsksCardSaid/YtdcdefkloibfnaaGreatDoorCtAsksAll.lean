/- ControlAsks, with what opens its arguments. -/
import Derived.Test.YtdcdefkloibfnaaGreatDoorCtAsks
import Derived.Test.YtdcdefkloibfnaaGreatDoorMg08
namespace Go.Proofs.YtdcdefkloibfnaaGreatDoor
set_option linter.unusedVariables false
open Go.ChangeShapes Go.WideShapes Go.Deep Go.RowKit
section
variable {H : Type} {enc : TypeId × Value → H} {W : World} {base : Nat} {v : Value} {d : DataW H} {p : List MemPlace}
theorem u16_of {a : Int} (h : (Lit.int .u16 a).wf = true) : ∃ b : Nat, a = (b : Int) ∧ b < 65536 :=
  ⟨a.toNat, by have := (bounds_u16 h).1; omega, by have := (bounds_u16 h).1; have := (bounds_u16 h).2; omega⟩
theorem uC_flat (l : List { b : Nat // b < 65536 }) : l.flatMap (fun b => [Value.int .u16 (b.1 : Int)]) = uC (l.map (·.1)) := by
  induction l with
  | nil => rfl
  | cons a l ih => rw [List.flatMap_cons, ih]; rfl
set_option maxRecDepth 100000 in
theorem open_u16s {hval : Value.okWide Tryz.prog W .any base 77 v} (h : DataW.Trod enc Tryz.prog W 0 (fun _ => true) true 77 v d p) :
    ∃ A n c, v = .slice A n c ∧ ∃ l : List Nat, (∀ x ∈ l, x < 65536) ∧ Lo W W.heap.size 1 (.slice A n c) n (uC l) := by
  obtain ⟨a0, len0, cap0, rfl⟩ := okWide_slice Tryz.underlying77 hval
  obtain ⟨fuel, hfu⟩ := h
  obtain ⟨A, n, c, hcs, l, hl, hlo⟩ := open_cell (k := 1) Tryz.underlying77 (by kernel_rfl) (by decide) hfu (fun b : { b : Nat // b < 65536 } => [Value.int .u16 (b.1 : Int)]) (fun _ => rfl) (fun cs n y hl h => by
    obtain ⟨b, e, -, hw⟩ := DataW.trod_int Tryz.underlying76 h
    obtain ⟨u, rfl, hu⟩ := u16_of hw
    exact ⟨⟨u, hu⟩, e⟩)
  rw [uC_flat] at hlo
  have hv : Value.slice a0 len0 cap0 = .slice A n c := by simpa [Value.cells] using hcs
  refine ⟨A, n, c, hv, l.map (·.1), fun x hx => ?_, hlo⟩
  obtain ⟨y, -, rfl⟩ := List.mem_map.1 hx
  exact y.2
end
end Go.Proofs.YtdcdefkloibfnaaGreatDoor
