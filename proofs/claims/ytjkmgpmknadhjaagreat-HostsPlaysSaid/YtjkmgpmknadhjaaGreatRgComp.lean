/- slices.CompactFunc at a ring's places: shorter where a token is there twice. -/
import Derived.Test.YtjkmgpmknadhjaaGreatRgNew
namespace Go.Proofs.YtjkmgpmknadhjaaGreat
set_option linter.unusedVariables false
open Go.RowKit

theorem Grew.trans {a b c : World} (h : Grew a b) (k : Grew b c) : Grew a c := by
  obtain ⟨q, os, rfl⟩ := h
  obtain ⟨q', os', rfl⟩ := k
  exact ⟨q + q', os ++ os', by rw [← Go.Sort.grow_grow, ← World.drewN_drewN]; rfl⟩
theorem pl_idx {g o n c i : Nat} (hi : i < n) : ∀ kd w', (Instr.indexAt 43 (.slice (some ⟨g, o, none⟩) n c) (.int kd (i : Int))).run Tryz.prog w' = .ok (.pointer (some ⟨g, o + i * 2, none⟩)) w' := by
  intro kd w'
  have hi2 : (i : Int) < (n : Int) := by omega
  simp [Instr.indexAt, asIntOf, run_underlying psT.ht, psT.run_size, hi, Addr.add_lit]
theorem pl_from {g o n c k : Nat} (hk : k < n) (hn : n ≤ c) : ∀ kd w', (Instr.sliceAt 43 (.slice (some ⟨g, o, none⟩) n c) (some (.int kd (k : Int))) none none).run Tryz.prog w' = .ok (.slice (some ⟨g, o + k * 2, none⟩) (n - k) (c - k)) w' := by
  intro kd w'
  have h0 : (0 : Int) ≤ k := by omega
  have hi2 : (k : Int) ≤ (n : Int) := by omega
  have hk2 : k ≤ n := by omega
  have hck : ¬ c = k := by omega
  simp [Instr.sliceAt, run_underlying psT.ht, Instr.slice, Instr.sliceBounds, Instr.sliceBound, asIntOf, psT.run_size, hk2, hck, Addr.add_lit]
theorem pl_to {g o n c k : Nat} (hk : k ≤ n) (hn : n ≤ c) (hc : 0 < c) : ∀ kd w', (Instr.sliceAt 43 (.slice (some ⟨g, o, none⟩) n c) none (some (.int kd (k : Int))) none).run Tryz.prog w' = .ok (.slice (some ⟨g, o, none⟩) k c) w' := by
  intro kd w'
  have h0 : (0 : Int) ≤ k := by omega
  have hi2 : (k : Int) ≤ (c : Int) := by omega
  have hi3 : k ≤ c := by omega
  have hck : ¬ c = 0 := by omega
  simp [Instr.sliceAt, run_underlying psT.ht, Instr.slice, Instr.sliceBounds, Instr.sliceBound, asIntOf, psT.run_size, hi3, hck, Addr.add_lit]
theorem pl_idx0 {g n c i : Nat} (hi : i < n) : ∀ kd w', (Instr.indexAt 43 (.slice (some ⟨g, 0, none⟩) n c) (.int kd (i : Int))).run Tryz.prog w' = .ok (.pointer (some ⟨g, i * 2, none⟩)) w' := by
  have := pl_idx (g := g) (o := 0) (c := c) hi
  rw [Nat.zero_add] at this
  exact this
theorem pl_from0 {g n c k : Nat} (hk : k < n) (hn : n ≤ c) : ∀ kd w', (Instr.sliceAt 43 (.slice (some ⟨g, 0, none⟩) n c) (some (.int kd (k : Int))) none none).run Tryz.prog w' = .ok (.slice (some ⟨g, k * 2, none⟩) (n - k) (c - k)) w' := by
  have := pl_from (g := g) (o := 0) hk hn
  rw [Nat.zero_add] at this
  exact this
section
variable {w : World} {base g n cap : Nat} {L : List Pl}
theorem row_cells (h : w.ownsRow base 54 2 (.slice (some ⟨g, 0, none⟩) n cap) n (L.flatMap pC)) {i : Nat} {p : Pl} (hi : L[i]? = some p) : w.cell? ⟨g, i * 2, none⟩ = some (.int .i64 p.1) ∧ w.cell? ⟨g, i * 2 + 1, none⟩ = some (.string p.2) := by
  have h1 := (List.getElem?_eq_some_iff.1 hi).1
  have h2 := h.1
  rw [pC_len] at h2
  refine ⟨(h.cellAt (i * 2) (by omega)).trans ?_, (h.cellAt (i * 2 + 1) (by omega)).trans ?_⟩
  · have := flat_get (k := 2) (f := pC) (fun _ => rfl) L i 0 p hi (by decide)
    rw [Nat.add_zero] at this
    rw [this]; rfl
  · rw [flat_get (k := 2) (f := pC) (fun _ => rfl) L i 1 p hi (by decide)]; rfl
theorem flat_set {L : List Pl} {k : Nat} (p : Pl) (hk : k < L.length) : ((L.flatMap pC).set (k * 2) (.int .i64 p.1)).set (k * 2 + 1) (.string p.2) = (L.set k p).flatMap pC := by
  obtain ⟨A, x, B, rfl, hA⟩ : ∃ A x B, L = A ++ x :: B ∧ A.length = k := ⟨L.take k, L[k], L.drop (k + 1), by rw [← List.drop_eq_getElem_cons, List.take_append_drop], by rw [List.length_take]; omega⟩
  subst hA
  rw [List.set_append_right _ _ (Nat.le_refl _), Nat.sub_self, List.set_cons_zero, List.flatMap_append, List.flatMap_append]
  rw [List.set_append_right _ _ (by rw [pC_len]; omega), List.set_append_right _ _ (by rw [pC_len]; omega), pC_len]
  rw [show A.length * 2 - A.length * 2 = 0 by omega, show A.length * 2 + 1 - A.length * 2 = 1 by omega]
  rfl
theorem row_store (h : w.ownsRow base 54 2 (.slice (some ⟨g, 0, none⟩) n cap) n (L.flatMap pC)) {k : Nat} (p : Pl) (hk : k < n) :
    ((w.setCell ⟨g, k * 2, none⟩ (.int .i64 p.1)).setCell ⟨g, k * 2 + 1, none⟩ (.string p.2)).ownsRow base 54 2 (.slice (some ⟨g, 0, none⟩) n cap) n ((L.set k p).flatMap pC) := by
  have h2 := h.1
  rw [pC_len] at h2
  rw [← flat_set p (by omega)]
  exact ((h.stored (k * 2) (.int .i64 p.1)).1.stored (k * 2 + 1) (.string p.2)).1
theorem setCells_kept (g : Nat) : ∀ (vs : List Value) (o : Nat) (w : World), Kept (fun i => i = g) w (w.setCells g o vs)
  | [], o, w => Kept.refl _ _
  | v :: r, o, w => by
    rw [World.setCells]
    exact (((Kept.refl (fun i => i = g) w).setCell (p := ⟨g, o, none⟩) (fun _ => rfl) v)).trans (setCells_kept g r (o + 1) _) (fun _ _ h => h)
theorem run_clear_row (h : w.ownsRow base 54 2 (.slice (some ⟨g, 0, none⟩) n cap) n (L.flatMap pC)) {k : Nat} (hk : k < n) (ty : TypeId) :
    (Builtin.clear_ #[43] ty #[.slice (some ⟨g, k * 2, none⟩) (n - k) (cap - k)]).run Tryz.prog w = .ok (.tuple #[]) (w.setCells g (k * 2) (Builtin.zeroCells #[.int .i64 0, .string noStr] (n - k)).toList) := by
  have h2 := h.1
  have hzl : (Builtin.zeroCells #[.int .i64 0, .string noStr] (n - k)).toList.length = (n - k) * 2 := by simp [Builtin.zeroCells]
  have hst := run_storeCells_cells (P := Tryz.prog) g (k * 2) (Builtin.zeroCells #[.int .i64 0, .string noStr] (n - k)).toList 0 w (fun j hj => by
    rw [hzl] at hj
    rw [h.cellAt (k * 2 + 0 + j) (by omega), List.getElem?_eq_getElem (by omega)]; rfl) (fun j hj => h.frozenAt _) (fun v hv => by
    simp only [Builtin.zeroCells, Array.toList_map, List.mem_map] at hv
    obtain ⟨i, -, rfl⟩ := hv
    have : i % 2 = 0 ∨ i % 2 = 1 := by omega
    rcases this with e | e <;> simp [e, Value.oneCell'])
  simp only [Nat.add_zero] at hst
  obtain ⟨m, hm⟩ : ∃ m, n - k = m + 1 := ⟨n - k - 1, by omega⟩
  rw [hm] at hst ⊢
  simp only [noStr] at hst ⊢
  simp [Builtin.clear_, run_underlying psT.ht, Tryz.zeroValue54, hst, Value.cells]
end
end Go.Proofs.YtjkmgpmknadhjaaGreat
