/- StreamsAgain: how its argument reads. -/
import Derived.Test.YtelcielfhgijpaaDoorStAgain
namespace Go.Proofs.YtelcielfhgijpaaDoor
set_option linter.unusedVariables false
open Go.RowKit Go.ChangeShapes Go.WideShapes Go.Deep
theorem flat_u8 (l : List Int) : l.flatMap (fun s => [Value.int .u8 s]) = l.map (Value.int .u8) := by
  induction l with
  | nil => rfl
  | cons a t ih => rw [List.flatMap_cons, ih]; rfl
section
variable {H : Type} {enc : TypeId × Value → H} {W : World} {base : Nat} {v : Value} {d : DataW H} {p : List MemPlace}
set_option maxRecDepth 100000 in
theorem open_u8s {hval : Value.okWide Tryd.prog W .any base 34 v} (h : DataW.Trod enc Tryd.prog W 0 (fun _ => true) true 34 v d p) :
    ∃ l : List Int, Lo W W.heap.size 1 v l.length (l.map (Value.int .u8)) ∧ ∀ u ∈ l, 0 ≤ u ∧ u ≤ 255 := by
  obtain ⟨l, hl⟩ := open_lo (k := 1) Tryd.underlying34 (by kernel_rfl) (by decide) hval h (fun e : { u : Int // 0 ≤ u ∧ u ≤ 255 } => [Value.int .u8 e.1]) (fun _ => rfl) (fun cs n y hl h => by
    match cs, hl with
    | [c], _ =>
      obtain ⟨b, eb, -, wb⟩ := DataW.trod_int Tryd.underlying5 h
      simp only [List.cons.injEq, and_true] at eb
      have hb := bounds_u8 wb
      exact ⟨⟨b, hb.1, hb.2⟩, by rw [eb]⟩)
  refine ⟨l.map (·.1), ?_, ?_⟩
  · rw [← flat_u8, List.length_map, List.flatMap_map]; exact hl
  · intro e he
    obtain ⟨x, _, rfl⟩ := List.mem_map.1 he
    exact x.2
end
end Go.Proofs.YtelcielfhgijpaaDoor
