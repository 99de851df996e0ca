/- RingArcs: the walk and the reading of its tokens. -/
import Derived.Test.YthjpoiemconeeaaDoorRgArcs
import Derived.Test.YthjpoiemconeeaaDoorRgOpen
namespace Go.Proofs.YthjpoiemconeeaaDoor
set_option linter.unusedVariables false
open Go.ChangeShapes Go.WideShapes Go.Deep Go.RowKit
theorem wf_i64 {n : Int} (h : (Lit.int .i64 n).wf = true) : -9223372036854775808 ≤ n ∧ n < 9223372036854775808 := by
  have e1 : IntKind.i64.min = -9223372036854775808 := by decide
  have e2 : IntKind.i64.max = 9223372036854775807 := by decide
  simp only [Lit.wf, Bool.and_eq_true, decide_eq_true_eq, e1, e2] at h
  omega
theorem wf_u64 {n : Int} (h : (Lit.int .u64 n).wf = true) : 0 ≤ n ∧ n < 18446744073709551616 := by
  have e1 : IntKind.u64.min = 0 := by decide
  have e2 : IntKind.u64.max = 18446744073709551615 := by decide
  simp only [Lit.wf, Bool.and_eq_true, decide_eq_true_eq, e1, e2] at h
  omega
theorem flat_ints {α : Type} (f : α → Int) (l : List α) : l.flatMap (fun n => [Value.int .i64 (f n)]) = l.map (Value.int .i64 ∘ f) := by
  induction l with
  | nil => rfl
  | cons a l ih => rw [List.flatMap_cons, ih]; rfl
section
variable {H : Type} {enc : TypeId × Value → H} {W : World} {base : Nat} {v : Value} {d : DataW H} {p : List MemPlace}
set_option maxRecDepth 100000 in
theorem open_i64s {hval : Value.okWide Tryd.prog W .any base 48 v} (h : DataW.Trod enc Tryd.prog W 0 (fun _ => true) true 48 v d p) :
    ∃ l : List Int, Lo W W.heap.size 1 v l.length (l.map (Value.int .i64)) ∧ ∀ t ∈ l, -9223372036854775808 ≤ t ∧ t < 9223372036854775808 := by
  obtain ⟨l, hl⟩ := open_lo (k := 1) (α := {n : Int // -9223372036854775808 ≤ n ∧ n < 9223372036854775808}) Tryd.underlying48 (by kernel_rfl) (by decide) hval h (fun n => [Value.int .i64 n.1]) (fun _ => rfl) (fun cs n y hl h => by
    obtain ⟨b0, e0, -, w0⟩ := DataW.trod_int Tryd.underlying2 h
    exact ⟨⟨b0, wf_i64 w0⟩, e0⟩)
  refine ⟨l.map (·.1), ?_, fun t ht => ?_⟩
  · rw [List.length_map, List.map_map]
    rw [← flat_ints (fun n : {n : Int // -9223372036854775808 ≤ n ∧ n < 9223372036854775808} => n.1)]; exact hl
  · obtain ⟨n, -, rfl⟩ := List.mem_map.1 ht
    exact n.2
end
end Go.Proofs.YthjpoiemconeeaaDoor
