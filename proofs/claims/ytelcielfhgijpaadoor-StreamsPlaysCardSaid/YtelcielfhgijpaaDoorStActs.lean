/- The statements' operations (signalboxlaw15.Act), read: a slice of them is a list of triples. -/
import Derived.Test.YtelcielfhgijpaaDoorStActC
import Derived.Test.YtelcielfhgijpaaDoorOpen
import Derived.OpenShut
namespace Go.Proofs.YtelcielfhgijpaaDoor
set_option linter.unusedVariables false
open Go.ChangeShapes Go.WideShapes Go.Deep Go.RowKit
section
variable {H : Type} {enc : TypeId × Value → H} {P : Program} {w : World} {base : Nat} {spare : Nat → Bool} {held : Bool}
theorem field_read {t : TypeId} {fs : Array Field} {fuel : Nat} {cs : List Value} {x : DataW H × List MemPlace} (ht : P.underlying t = some (.struct fs)) (h : DataW.trod enc P w base spare held fuel t cs = some x) {i : Nat} {f : Field} (hf : fs[i]? = some f)
    {k : Nat} (hk : P.cellsOf f.type = k) {c : List Value} (hc : (cs.drop f.offset).take k = c) : ∃ n y, DataW.trod enc P w base spare held n f.type c = some y := by
  obtain ⟨xs, n, _, _, _, hl, hg⟩ := DataW.trod_struct ht h
  have h1 := hg i f hf
  have hi : i < xs.length := by rw [hl]; exact (Array.getElem?_eq_some_iff.1 hf).1
  rw [hk, hc, List.getElem?_eq_getElem hi] at h1
  exact ⟨n, _, h1⟩
end
section
variable {H : Type} {enc : TypeId × Value → H} {W : World} {base : Nat} {v : Value} {d : DataW H} {p : List MemPlace}
set_option maxRecDepth 100000 in
theorem open_sacts {hval : Value.okWide Tryd.prog W .any base 40 v} (h : DataW.Trod enc Tryd.prog W 0 (fun _ => true) true 40 v d p) :
    ∃ l : List (Int × Int × Int), Lo W W.heap.size 3 v l.length (l.flatMap sactC) ∧ ∀ a ∈ l, 0 ≤ a.2.2 ∧ a.2.2 < 18446744073709551616 := by
  obtain ⟨l, hl⟩ := open_lo (k := 3) Tryd.underlying40 (by kernel_rfl) (by decide) hval h (fun e : { a : Int × Int × Int // 0 ≤ a.2.2 ∧ a.2.2 < 18446744073709551616 } => sactC e.1) (fun _ => rfl) (fun cs n y hl h => by
    match cs, hl with
    | [c0, c1, c2], _ =>
      obtain ⟨n0, y0, g0⟩ := field_read Tryd.underlying45 h (i := 0) rfl (k := 1) (c := [c0]) (by kernel_rfl) rfl
      obtain ⟨n1, y1, g1⟩ := field_read Tryd.underlying45 h (i := 1) rfl (k := 1) (c := [c1]) (by kernel_rfl) rfl
      obtain ⟨n2, y2, g2⟩ := field_read Tryd.underlying45 h (i := 2) rfl (k := 1) (c := [c2]) (by kernel_rfl) rfl
      obtain ⟨b0, e0, -, -⟩ := DataW.trod_int Tryd.underlying3 g0
      obtain ⟨b1, e1, -, -⟩ := DataW.trod_int Tryd.underlying3 g1
      obtain ⟨b2, e2, -, w2⟩ := DataW.trod_int Tryd.underlying23 g2
      simp only [List.cons.injEq, and_true] at e0 e1 e2
      have hb := bounds_u64 w2
      exact ⟨⟨(b0, b1, b2), hb.1, (by have := hb.2; omega : b2 < 18446744073709551616)⟩, by rw [e0, e1, e2]; rfl⟩)
  refine ⟨l.map (·.1), ?_, ?_⟩
  · rw [List.length_map, List.flatMap_map]; exact hl
  · intro e he
    obtain ⟨x, _, rfl⟩ := List.mem_map.1 he
    exact x.2
end
end Go.Proofs.YtelcielfhgijpaaDoor
