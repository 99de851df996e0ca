/- ControlPlays: its acts that came in. -/
import Derived.Test.YtdcdefkloibfnaaGreatDoorMg09
import Derived.Test.YtdcdefkloibfnaaGreatDoorCtStepD
namespace Go.Proofs.YtdcdefkloibfnaaGreatDoor
set_option linter.unusedVariables false
open Go.ChangeShapes Go.WideShapes Go.Deep Go.RowKit
section
variable {H : Type} {enc : TypeId × Value → H} {W : World} {base : Nat} {v : Value} {d : DataW H} {p : List MemPlace}
set_option maxRecDepth 100000 in
theorem open_note {fuel : Nat} {c0 c1 c2 c3 c4 c5 c6 c7 c8 : Value} {y : DataW H × List MemPlace} (h : DataW.trod enc Tryz.prog W 0 (fun _ => true) true fuel 67 [c0, c1, c2, c3, c4, c5, c6, c7, c8] = some y) :
    ∃ x : NV, [c0, c1, c2, c3, c4, c5, c6, c7, c8] = [.string x.kind, .string x.what, .slice x.a x.n x.c, .int .u32 x.port, .string x.sw, .string x.target, .string x.ss, .string x.sn, .slice x.ga x.gn x.gc] ∧ NoteIn W W.heap.size x := by
  obtain ⟨n0, y0, g0⟩ := field_read Tryz.underlying67 h (i := 0) rfl (k := 1) (c := [c0]) (by kernel_rfl) rfl
  obtain ⟨n1, y1, g1⟩ := field_read Tryz.underlying67 h (i := 1) rfl (k := 1) (c := [c1]) (by kernel_rfl) rfl
  obtain ⟨n2, y2, g2⟩ := field_read Tryz.underlying67 h (i := 2) rfl (k := 2) (c := [c2, c3]) (by kernel_rfl) rfl
  obtain ⟨n3, y3, g3⟩ := field_read Tryz.underlying67 h (i := 3) rfl (k := 5) (c := [c4, c5, c6, c7, c8]) (by kernel_rfl) rfl
  obtain ⟨m0, z0, k0⟩ := field_read Tryz.underlying62 g2 (i := 0) rfl (k := 1) (c := [c2]) (by kernel_rfl) rfl
  obtain ⟨m1, z1, k1⟩ := field_read Tryz.underlying62 g2 (i := 1) rfl (k := 1) (c := [c3]) (by kernel_rfl) rfl
  obtain ⟨r0, x0, l0⟩ := field_read Tryz.underlying65 g3 (i := 0) rfl (k := 1) (c := [c4]) (by kernel_rfl) rfl
  obtain ⟨r1, x1, l1⟩ := field_read Tryz.underlying65 g3 (i := 1) rfl (k := 1) (c := [c5]) (by kernel_rfl) rfl
  obtain ⟨r2, x2, l2⟩ := field_read Tryz.underlying65 g3 (i := 2) rfl (k := 1) (c := [c6]) (by kernel_rfl) rfl
  obtain ⟨r3, x3, l3⟩ := field_read Tryz.underlying65 g3 (i := 3) rfl (k := 1) (c := [c7]) (by kernel_rfl) rfl
  obtain ⟨r4, x4, l4⟩ := field_read Tryz.underlying65 g3 (i := 4) rfl (k := 1) (c := [c8]) (by kernel_rfl) rfl
  obtain ⟨s0, e0, -, -⟩ := DataW.trod_string Tryz.underlying9 g0
  obtain ⟨s1, e1, -, -⟩ := DataW.trod_string Tryz.underlying9 g1
  obtain ⟨A, n, c, e2, l, hl, hlo⟩ := open_bytes_cell k0
  obtain ⟨b3, e3, -, -⟩ := DataW.trod_int Tryz.underlying60 k1
  obtain ⟨s4, e4, -, -⟩ := DataW.trod_string Tryz.underlying9 l0
  obtain ⟨s5, e5, -, -⟩ := DataW.trod_string Tryz.underlying9 l1
  obtain ⟨s6, e6, -, -⟩ := DataW.trod_string Tryz.underlying9 l2
  obtain ⟨s7, e7, -, -⟩ := DataW.trod_string Tryz.underlying9 l3
  obtain ⟨ga, gn, gc, e8, L, hL, hLo⟩ := open_cell (k := 1) Tryz.underlying63 (by kernel_rfl) (by decide) l4 (fun x : ByteArray => [Value.string x]) (fun _ => rfl) (fun cs n y hl h => by
    obtain ⟨s, e, -, -⟩ := DataW.trod_string Tryz.underlying9 h
    exact ⟨s, e⟩)
  simp only [List.cons.injEq, and_true] at e0 e1 e2 e3 e4 e5 e6 e7 e8
  exact ⟨⟨s0, s1, A, n, c, l, b3, s4, s5, s6, s7, ga, gn, gc⟩, by rw [e0, e1, e2, e3, e4, e5, e6, e7, e8], ⟨hl, hlo⟩, L, hL, by rw [List.map_eq_flatMap]; exact hLo⟩
set_option maxRecDepth 100000 in
theorem open_act3 {fuel : Nat} {cs : List Value} {y : DataW H × List MemPlace} (hl : cs.length = 23) (h : DataW.trod enc Tryz.prog W 0 (fun _ => true) true fuel 69 cs = some y) : ∃ x : { x : AV3 // ActIn3 W W.heap.size x }, cs = x.1.C.toList := by
  match cs, hl with
  | [c0, c1, c2, c3, c4, c5, c6, c7, c8, c9, c10, c11, c12, c13, c14, c15, c16, c17, c18, c19, c20, c21, c22], _ =>
    obtain ⟨n0, y0, g0⟩ := field_read Tryz.underlying69 h (i := 0) rfl (k := 1) (c := [c0]) (by kernel_rfl) rfl
    obtain ⟨n1, y1, g1⟩ := field_read Tryz.underlying69 h (i := 1) rfl (k := 9) (c := [c1, c2, c3, c4, c5, c6, c7, c8, c9]) (by kernel_rfl) rfl
    obtain ⟨n2, y2, g2⟩ := field_read Tryz.underlying69 h (i := 2) rfl (k := 6) (c := [c10, c11, c12, c13, c14, c15]) (by kernel_rfl) rfl
    obtain ⟨n3, y3, g3⟩ := field_read Tryz.underlying69 h (i := 3) rfl (k := 6) (c := [c16, c17, c18, c19, c20, c21]) (by kernel_rfl) rfl
    obtain ⟨n4, y4, g4⟩ := field_read Tryz.underlying69 h (i := 4) rfl (k := 1) (c := [c22]) (by kernel_rfl) rfl
    obtain ⟨b0, e0, -, -⟩ := DataW.trod_int Tryz.underlying3 g0
    obtain ⟨x, e1, h1⟩ := open_note g1
    obtain ⟨t, e2, h2⟩ := open_table g2
    obtain ⟨u, e3, h3⟩ := open_table g3
    obtain ⟨b4, e4, -, w4⟩ := DataW.trod_int Tryz.underlying52 g4
    have hb := bounds_u64 w4
    unfold TV2.cells at e2 e3
    simp only [List.cons.injEq, and_true] at e0 e1 e2 e3 e4
    obtain ⟨rfl, rfl, rfl, rfl, rfl, rfl, rfl, rfl, rfl⟩ := e1
    obtain ⟨rfl, rfl, rfl, rfl, rfl, rfl⟩ := e2
    obtain ⟨rfl, rfl, rfl, rfl, rfl, rfl⟩ := e3
    subst e0 e4
    exact ⟨⟨⟨b0, x, t, u, b4⟩, h1, h2, h3, hb.1, by have := hb.2; omega⟩, rfl⟩
set_option maxRecDepth 100000 in
theorem open_acts3 {hval : Value.okWide Tryz.prog W .any base 53 v} (h : DataW.Trod enc Tryz.prog W 0 (fun _ => true) true 53 v d p) :
    ∃ A n c, v = .slice A n c ∧ ∃ l : List AV3, l.length = n ∧ Lo W W.heap.size 23 (.slice A n c) n (l.flatMap fun x => x.C.toList) ∧ ∀ a ∈ l, ActIn3 W W.heap.size a := by
  obtain ⟨a0, len0, cap0, rfl⟩ := okWide_slice Tryz.underlying53 hval
  obtain ⟨fuel, hfu⟩ := h
  obtain ⟨A, n, c, hcs, l, hl, hlo⟩ := open_cell (k := 23) Tryz.underlying53 (by kernel_rfl) (by decide) hfu (fun x : { x : AV3 // ActIn3 W W.heap.size x } => x.1.C.toList) (fun _ => rfl) (fun cs n y hl h => open_act3 hl h)
  have hv : Value.slice a0 len0 cap0 = .slice A n c := by simpa [Value.cells] using hcs
  refine ⟨A, n, c, hv, l.map (·.1), by rw [List.length_map]; exact hl, by rw [List.flatMap_map]; exact hlo, fun x hx => ?_⟩
  obtain ⟨y, -, rfl⟩ := List.mem_map.1 hx
  exact y.2
end
end Go.Proofs.YtdcdefkloibfnaaGreatDoor
