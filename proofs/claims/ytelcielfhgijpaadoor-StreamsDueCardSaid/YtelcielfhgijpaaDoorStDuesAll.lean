/- StreamsDue: how its arguments read. -/
import Derived.Test.YtelcielfhgijpaaDoorStDues
import Derived.Test.YtelcielfhgijpaaDoorOpen
namespace Go.Proofs.YtelcielfhgijpaaDoor
set_option linter.unusedVariables false
open Go.RowKit Go.ChangeShapes Go.WideShapes Go.Deep
theorem flat_u64 (l : List Int) : l.flatMap (fun s => [Value.int .u64 s]) = l.map (Value.int .u64) := by
  induction l with
  | nil => rfl
  | cons a t ih => rw [List.flatMap_cons, ih]; rfl
section
variable {H : Type} {enc : TypeId × Value → H} {W : World} {base : Nat} {v : Value} {d : DataW H} {p : List MemPlace}
set_option maxRecDepth 100000 in
theorem open_u64s {hval : Value.okWide Tryd.prog W .any base 22 v} (h : DataW.Trod enc Tryd.prog W 0 (fun _ => true) true 22 v d p) :
    ∃ l : List Int, Lo W W.heap.size 1 v l.length (l.map (Value.int .u64)) ∧ ∀ u ∈ l, 0 ≤ u ∧ u < 18446744073709551616 := by
  obtain ⟨l, hl⟩ := open_lo (k := 1) Tryd.underlying22 (by kernel_rfl) (by decide) hval h (fun e : { u : Int // 0 ≤ u ∧ u < 18446744073709551616 } => [Value.int .u64 e.1]) (fun _ => rfl) (fun cs n y hl h => by
    match cs, hl with
    | [c], _ =>
      obtain ⟨b, eb, -, wb⟩ := DataW.trod_int Tryd.underlying23 h
      simp only [List.cons.injEq, and_true] at eb
      have hb := bounds_u64 wb
      exact ⟨⟨b, hb.1, by have := hb.2; omega⟩, by rw [eb]⟩)
  refine ⟨l.map (·.1), ?_, ?_⟩
  · rw [← flat_u64, List.length_map, List.flatMap_map]; exact hl
  · intro e he
    obtain ⟨x, _, rfl⟩ := List.mem_map.1 he
    exact x.2
end
end Go.Proofs.YtelcielfhgijpaaDoor
