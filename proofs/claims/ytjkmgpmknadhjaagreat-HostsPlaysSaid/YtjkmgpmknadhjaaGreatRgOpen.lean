/- A slice of a ring's places (ring.Place), read as a list. -/
import Derived.Test.YtjkmgpmknadhjaaGreatRgBase
import Derived.Test.YtjkmgpmknadhjaaGreatOpen
import Derived.OpenShut
namespace Go.Proofs.YtjkmgpmknadhjaaGreat
set_option linter.unusedVariables false
open Go.ChangeShapes Go.WideShapes Go.Deep Go.RowKit
section
variable {H : Type} {enc : TypeId × Value → H} {P : Program} {w : World} {base : Nat} {spare : Nat → Bool} {held : Bool}
theorem field_read {t : TypeId} {fs : Array Field} {fuel : Nat} {cs : List Value} {x : DataW H × List MemPlace} (ht : P.underlying t = some (.struct fs)) (h : DataW.trod enc P w base spare held fuel t cs = some x) {i : Nat} {f : Field} (hf : fs[i]? = some f)
    {k : Nat} (hk : P.cellsOf f.type = k) {c : List Value} (hc : (cs.drop f.offset).take k = c) : ∃ n y, DataW.trod enc P w base spare held n f.type c = some y := by
  obtain ⟨xs, n, _, _, _, hl, hg⟩ := DataW.trod_struct ht h
  have h1 := hg i f hf
  have hi : i < xs.length := by rw [hl]; exact (Array.getElem?_eq_some_iff.1 hf).1
  rw [hk, hc, List.getElem?_eq_getElem hi] at h1
  exact ⟨n, _, h1⟩
end
section
variable {H : Type} {enc : TypeId × Value → H} {W : World} {base : Nat} {v : Value} {d : DataW H} {p : List MemPlace}
set_option maxRecDepth 100000 in
theorem open_places {hval : Value.okWide Tryz.prog W .any base 43 v} (h : DataW.Trod enc Tryz.prog W 0 (fun _ => true) true 43 v d p) :
    ∃ l : List Pl, Lo W W.heap.size 2 v l.length (l.flatMap pC) := 
  open_lo (k := 2) Tryz.underlying43 (by kernel_rfl) (by decide) hval h pC (fun _ => rfl) (fun cs n y hl h => by
    match cs, hl with
    | [c0, c1], _ =>
      obtain ⟨n0, y0, g0⟩ := field_read Tryz.underlying54 h (i := 0) rfl (k := 1) (c := [c0]) (by kernel_rfl) rfl
      obtain ⟨n1, y1, g1⟩ := field_read Tryz.underlying54 h (i := 1) rfl (k := 1) (c := [c1]) (by kernel_rfl) rfl
      obtain ⟨b0, e0, -, -⟩ := DataW.trod_int Tryz.underlying2 g0
      obtain ⟨s1, e1, -, -⟩ := DataW.trod_string Tryz.underlying9 g1
      simp only [List.cons.injEq, and_true] at e0 e1
      exact ⟨(b0, s1), by rw [e0, e1]; rfl⟩)
end
end Go.Proofs.YtjkmgpmknadhjaaGreat
