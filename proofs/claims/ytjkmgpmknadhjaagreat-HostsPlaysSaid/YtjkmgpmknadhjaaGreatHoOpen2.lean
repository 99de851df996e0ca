/- HostsPlays: its acts that came in. -/
import Derived.Test.YtjkmgpmknadhjaaGreatHoOpen
namespace Go.Proofs.YtjkmgpmknadhjaaGreat
set_option linter.unusedVariables false
open Go.ChangeShapes Go.WideShapes Go.Deep Go.RowKit
/-- An act. -/
structure AV where
  ha : Option Addr
  hn : Nat
  hc : Nat
  hs : List HV
  mark : Bool
  name : ByteArray
  up : Bool
def avC (a : AV) : List Value := [.slice a.ha a.hn a.hc, .bool a.mark, .string a.name, .bool a.up]
def ActIn (W : World) (a : AV) : Prop := a.hs.length = a.hn ∧ Lo W W.heap.size 5 (.slice a.ha a.hn a.hc) a.hn (a.hs.flatMap hvC) ∧ ∀ x ∈ a.hs, HoIn W x ∧ x.name.size ≤ 9223372036854775807
section
variable {H : Type} {enc : TypeId × Value → H} {W : World} {base : Nat} {v : Value} {d : DataW H} {p : List MemPlace}
set_option maxRecDepth 100000 in
theorem open_hosts_cell {fuel : Nat} {cs : List Value} {x : DataW H × List MemPlace} (hfu : DataW.trod enc Tryz.prog W 0 (fun _ => true) true fuel 29 cs = some x) :
    ∃ A n c, cs = [.slice A n c] ∧ ∃ l : List HV, l.length = n ∧ Lo W W.heap.size 5 (.slice A n c) n (l.flatMap hvC) ∧ ∀ x ∈ l, HoIn W x ∧ x.name.size ≤ 9223372036854775807 := by
  obtain ⟨A, n, c, hcs, l, hl, hlo⟩ := open_cell (k := 5) Tryz.underlying29 (by kernel_rfl) (by decide) hfu (fun x : { x : HV // HoIn W x ∧ x.name.size ≤ 9223372036854775807 } => hvC x.1) (fun _ => rfl) (fun cs n y hl h => by
    match cs, hl with
    | [c0, c1, c2, c3, c4], _ =>
      obtain ⟨n0, y0, g0⟩ := field_read Tryz.underlying59 h (i := 0) rfl (k := 1) (c := [c0]) (by kernel_rfl) rfl
      obtain ⟨n1, y1, g1⟩ := field_read Tryz.underlying59 h (i := 1) rfl (k := 1) (c := [c1]) (by kernel_rfl) rfl
      obtain ⟨n2, y2, g2⟩ := field_read Tryz.underlying59 h (i := 2) rfl (k := 1) (c := [c2]) (by kernel_rfl) rfl
      obtain ⟨n3, y3, g3⟩ := field_read Tryz.underlying59 h (i := 3) rfl (k := 1) (c := [c3]) (by kernel_rfl) rfl
      obtain ⟨n4, y4, g4⟩ := field_read Tryz.underlying59 h (i := 4) rfl (k := 1) (c := [c4]) (by kernel_rfl) rfl
      obtain ⟨s0, e0, -, hs0⟩ := DataW.trod_string Tryz.underlying9 g0
      obtain ⟨s1, e1, -, -⟩ := DataW.trod_string Tryz.underlying9 g1
      obtain ⟨s2, e2, -, -⟩ := DataW.trod_string Tryz.underlying9 g2
      obtain ⟨ta, tn, tc, e3, ts, hts, hlo3⟩ := open_cell (k := 1) Tryz.underlying57 (by kernel_rfl) (by decide) g3 (fun x : Int => [Value.int .i64 x]) (fun _ => rfl) (fun cs n y hl h => by
        obtain ⟨b, e, -, -⟩ := DataW.trod_int Tryz.underlying2 h
        exact ⟨b, e⟩)
      obtain ⟨b4, e4, -⟩ := DataW.trod_bool Tryz.underlying4 g4
      simp only [List.cons.injEq, and_true] at e0 e1 e2 e3 e4
      unfold maxLen at hs0
      refine ⟨⟨⟨s0, s1, s2, ta, tn, tc, ts, b4⟩, ⟨hts, ?_⟩, hs0⟩, by rw [e0, e1, e2, e3, e4]; rfl⟩
      rw [List.map_eq_flatMap]
      exact hlo3)
  refine ⟨A, n, c, hcs, l.map (·.1), by rw [List.length_map]; exact hl, by rw [List.flatMap_map]; exact hlo, fun x hx => ?_⟩
  obtain ⟨y, -, rfl⟩ := List.mem_map.1 hx
  exact y.2
set_option maxRecDepth 100000 in
theorem open_acts {hval : Value.okWide Tryz.prog W .any base 22 v} (h : DataW.Trod enc Tryz.prog W 0 (fun _ => true) true 22 v d p) :
    ∃ A n c, v = .slice A n c ∧ ∃ l : List AV, l.length = n ∧ Lo W W.heap.size 4 (.slice A n c) n (l.flatMap avC) ∧ ∀ a ∈ l, ActIn W a := by
  obtain ⟨a0, len0, cap0, rfl⟩ := okWide_slice Tryz.underlying22 hval
  obtain ⟨fuel, hfu⟩ := h
  obtain ⟨A, n, c, hcs, l, hl, hlo⟩ := open_cell (k := 4) Tryz.underlying22 (by kernel_rfl) (by decide) hfu (fun a : { a : AV // ActIn W a } => avC a.1) (fun _ => rfl) (fun cs n y hl h => by
    match cs, hl with
    | [c0, c1, c2, c3], _ =>
      obtain ⟨n0, y0, g0⟩ := field_read Tryz.underlying31 h (i := 0) rfl (k := 1) (c := [c0]) (by kernel_rfl) rfl
      obtain ⟨n1, y1, g1⟩ := field_read Tryz.underlying31 h (i := 1) rfl (k := 1) (c := [c1]) (by kernel_rfl) rfl
      obtain ⟨n2, y2, g2⟩ := field_read Tryz.underlying31 h (i := 2) rfl (k := 1) (c := [c2]) (by kernel_rfl) rfl
      obtain ⟨n3, y3, g3⟩ := field_read Tryz.underlying31 h (i := 3) rfl (k := 1) (c := [c3]) (by kernel_rfl) rfl
      obtain ⟨ha, hn, hc, e0, hs, q1, q2, q3⟩ := open_hosts_cell g0
      obtain ⟨b1, e1, -⟩ := DataW.trod_bool Tryz.underlying4 g1
      obtain ⟨s2, e2, -, -⟩ := DataW.trod_string Tryz.underlying9 g2
      obtain ⟨b3, e3, -⟩ := DataW.trod_bool Tryz.underlying4 g3
      simp only [List.cons.injEq, and_true] at e0 e1 e2 e3
      exact ⟨⟨⟨ha, hn, hc, hs, b1, s2, b3⟩, q1, q2, q3⟩, by rw [e0, e1, e2, e3]; rfl⟩)
  have hv : Value.slice a0 len0 cap0 = .slice A n c := by simpa [Value.cells] using hcs
  refine ⟨A, n, c, hv, l.map (·.1), by rw [List.length_map]; exact hl, by rw [List.flatMap_map]; exact hlo, fun x hx => ?_⟩
  obtain ⟨y, -, rfl⟩ := List.mem_map.1 hx
  exact y.2
end
end Go.Proofs.YtjkmgpmknadhjaaGreat
