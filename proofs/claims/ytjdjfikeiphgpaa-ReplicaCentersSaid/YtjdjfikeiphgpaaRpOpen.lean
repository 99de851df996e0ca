/- Slices of sites and of factors, read as lists. -/
import Derived.Test.YtjdjfikeiphgpaaRpView
import Derived.Test.YtjdjfikeiphgpaaRgOpen
namespace Go.Proofs.Ytjdjfikeiphgpaa
set_option linter.unusedVariables false
open Go.ChangeShapes Go.WideShapes Go.Deep Go.RowKit
section
variable {H : Type} {enc : TypeId × Value → H} {W : World} {base : Nat} {v : Value} {d : DataW H} {p : List MemPlace}
set_option maxRecDepth 100000 in
theorem open_sites {hval : Value.okWide Try.prog W .any base 37 v} (h : DataW.Trod enc Try.prog W 0 (fun _ => true) true 37 v d p) :
    ∃ l : List Si, Lo W W.heap.size 3 v l.length (l.flatMap sC) :=
  open_lo (k := 3) Try.underlying37 (by kernel_rfl) (by decide) hval h sC (fun _ => rfl) (fun cs n y hl h => by
    match cs, hl with
    | [c0, c1, c2], _ =>
      obtain ⟨n0, y0, g0⟩ := field_read Try.underlying42 h (i := 0) rfl (k := 1) (c := [c0]) (by kernel_rfl) rfl
      obtain ⟨n1, y1, g1⟩ := field_read Try.underlying42 h (i := 1) rfl (k := 1) (c := [c1]) (by kernel_rfl) rfl
      obtain ⟨n2, y2, g2⟩ := field_read Try.underlying42 h (i := 2) rfl (k := 1) (c := [c2]) (by kernel_rfl) rfl
      obtain ⟨s0, e0, -, -⟩ := DataW.trod_string Try.underlying9 g0
      obtain ⟨s1, e1, -, -⟩ := DataW.trod_string Try.underlying9 g1
      obtain ⟨s2, e2, -, -⟩ := DataW.trod_string Try.underlying9 g2
      simp only [List.cons.injEq, and_true] at e0 e1 e2
      exact ⟨(s0, s1, s2), by rw [e0, e1, e2]; rfl⟩)
set_option maxRecDepth 100000 in
theorem open_facs {hval : Value.okWide Try.prog W .any base 38 v} (h : DataW.Trod enc Try.prog W 0 (fun _ => true) true 38 v d p) :
    ∃ l : List Fa, Lo W W.heap.size 2 v l.length (l.flatMap fC) ∧ ∀ f ∈ l, -9223372036854775808 ≤ f.2 ∧ f.2 < 9223372036854775808 := by
  obtain ⟨l, hl⟩ := open_lo (k := 2) Try.underlying38 (by kernel_rfl) (by decide) hval h (fun e : ByteArray × { u : Int // -9223372036854775808 ≤ u ∧ u < 9223372036854775808 } => [Value.string e.1, .int .i64 e.2.1]) (fun _ => rfl) (fun cs n y hl h => by
    match cs, hl with
    | [c0, c1], _ =>
      obtain ⟨n0, y0, g0⟩ := field_read Try.underlying45 h (i := 0) rfl (k := 1) (c := [c0]) (by kernel_rfl) rfl
      obtain ⟨n1, y1, g1⟩ := field_read Try.underlying45 h (i := 1) rfl (k := 1) (c := [c1]) (by kernel_rfl) rfl
      obtain ⟨s0, e0, -, -⟩ := DataW.trod_string Try.underlying9 g0
      obtain ⟨b, e1, -, wb⟩ := DataW.trod_int Try.underlying3 g1
      simp only [List.cons.injEq, and_true] at e0 e1
      have hb := bounds_i64 wb
      exact ⟨(s0, ⟨b, hb.1, by have := hb.2; omega⟩), by rw [e0, e1]⟩)
  refine ⟨l.map fun e => (e.1, e.2.1), ?_, ?_⟩
  · rw [List.length_map, List.flatMap_map]; exact hl
  · intro f hf
    obtain ⟨x, _, rfl⟩ := List.mem_map.1 hf
    exact x.2.2
end
end Go.Proofs.Ytjdjfikeiphgpaa
