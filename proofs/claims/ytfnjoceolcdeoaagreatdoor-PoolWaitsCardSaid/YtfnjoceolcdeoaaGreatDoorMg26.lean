/- A connection's Close; Tick while nothing is due; State. -/
import Derived.Test.YtfnjoceolcdeoaaGreatDoorMg25
import Derived.BigQuiet
namespace Go.Proofs.YtfnjoceolcdeoaaGreatDoor
set_option linter.unusedVariables false
open Go.RowKit

/-- What comes of something: its value. -/
def outV (A : Option Addr) (n k : Nat) (an nt : Value) (rd : Bool) (dd : Int) (ls : Value) : Value := .agg #[.slice A n k, an, nt, .bool rd, .int .i64 dd, ls]
theorem cells6o {w : World} {g : Nat} {t : TypeId} {a0 a1 a2 a3 a4 a5 : Value} (h : Blk w g t #[a0, a1, a2, a3, a4, a5]) :
    w.cell? ⟨g, 0, none⟩ = some a0 ∧ w.cell? ⟨g, 1, none⟩ = some a1 ∧ w.cell? ⟨g, 2, none⟩ = some a2 ∧ w.cell? ⟨g, 3, none⟩ = some a3 ∧ w.cell? ⟨g, 4, none⟩ = some a4 ∧ w.cell? ⟨g, 5, none⟩ = some a5 :=
  ⟨h.cell 0, h.cell 1, h.cell 2, h.cell 3, h.cell 4, h.cell 5⟩
set_option maxHeartbeats 4000000 in
set_option maxRecDepth 100000 in
theorem cnClose_none {w : World} {lo hi c : Nat} {x : XC} (h : ConnAt w lo hi c x) (hs : x.state ≠ 7) (ho : x.oth = some []) (why : Int) (hw : why ≠ 0) :
    Calls Tryz.prog 24 #[.pointer (some ⟨c, 0, none⟩), .int .i64 why] w fun e w' => ∃ A k, e = .returned (outV A 0 k (.slice none 0 0) (.slice none 0 0) false why (.slice none 0 0)) ∧ ConnAt w' lo hi c x.dead ∧ Kept (fun k => lo ≤ k ∧ k < hi) w w' := by
  have hrc := h.rc
  have hw0 : (why == 0) = false := by rw [beq_eq_false_iff_ne]; exact hw
  have HB0 := Lib.hid ((Blk.new w 84 #[.slice none 0 0, .slice none 0 0, .slice none 0 0, .bool false, .int .i64 0, .slice none 0 0]).alloc (.cells #[.slice none 0 0, .slice none 0 0, .slice none 0 0, .bool false, .int .i64 0, .slice none 0 0] 84))
  have HB1 := Lib.hid (Blk.new_at (k := w.heap.size + 1) (w.alloc (.cells #[.slice none 0 0, .slice none 0 0, .slice none 0 0, .bool false, .int .i64 0, .slice none 0 0] 84)) 84 #[.slice none 0 0, .slice none 0 0, .slice none 0 0, .bool false, .int .i64 0, .slice none 0 0] (by rw [sz_alloc]))
  have HK0 := Lib.hid (((Kept.refl noBlock w).alloc (.cells #[.slice none 0 0, .slice none 0 0, .slice none 0 0, .bool false, .int .i64 0, .slice none 0 0] 84)).alloc (.cells #[.slice none 0 0, .slice none 0 0, .slice none 0 0, .bool false, .int .i64 0, .slice none 0 0] 84))
  have H := Lib.hid h
  clear h
  go_enter Tryz.func24, Tryz.ntmps24
  go_wp2_with fail
  generalize hw1 : (w.alloc (.cells #[.slice none 0 0, .slice none 0 0, .slice none 0 0, .bool false, .int .i64 0, .slice none 0 0] 84)).alloc (.cells #[.slice none 0 0, .slice none 0 0, .slice none 0 0, .bool false, .int .i64 0, .slice none 0 0] 84) = w1 at *
  generalize hg : w.heap.size = g at *
  clear hw1
  have HD := Lib.hid (cnDie_none (w := w1) (H.out.keptN HK0.out) hs ho (o := g + 1) (B := g + 2) (X := []) (an := .slice none 0 0) (nt := .slice none 0 0) (rd := false) (dd := 0) ⟨none, 0, 0, rfl, HB1.out, World.ownsRow_nil _ _ _ _, by omega⟩ (by omega) (by omega) why)
  go_at_call 44
  refine HD.out.mono ?_
  rintro e w2 ⟨rfl, hc2, ⟨A2, n2, k2, hn2, hb2, -, -⟩, hk2⟩
  obtain rfl : n2 = 0 := hn2
  have hb0 := HB0.out.kept hk2 (fun e => by unfold outS at e; omega)
  obtain ⟨y0, y1, y2, y3, y4, y5⟩ := cells6o hb2
  obtain ⟨z0, z1, z2, z3, z4, z5⟩ := cells6o hb0
  have f0 := hb0.frozen 0
  have f1 := hb0.frozen 1
  have f2 := hb0.frozen 2
  have f3 := hb0.frozen 3
  have f4 := hb0.frozen 4
  have f5 := hb0.frozen 5
  have HB0 := Lib.hid hb0
  have HC2 := Lib.hid hc2
  have HK2 := Lib.hid (show Kept (fun k => lo ≤ k ∧ k < hi) w w2 from (HK0.out.of_none (S := fun k => lo ≤ k ∧ k < hi)).trans hk2 fun k hlt e => by
    have hlt : k < w.heap.size := hlt
    unfold outS at e; omega)
  clear hb0 hb2 hc2 hk2
  go_wp2_with fail
  refine bodyPost_ret (results_cell_row rfl _ _ g 84 #[.slice A2 0 k2, .slice none 0 0, .slice none 0 0, .bool false, .int .i64 why, .slice none 0 0] (0, 0) _ rfl ((((((HB0.out.set_ 0 (.slice A2 0 k2)).set_ 1 (.slice none 0 0)).set_ 2 (.slice none 0 0)).set_ 3 (.bool false)).set_ 4 (.int .i64 why)).set_ 5 (.slice none 0 0)) Tryz.underlying84 rfl (by kernel_rfl)) rfl ?_
  have hkg := ((((((Kept.refl (fun k => k = g) w2).setCell (p := ⟨g, 0, none⟩) (fun _ => rfl) (.slice A2 0 k2)).setCell (p := ⟨g, 1, none⟩) (fun _ => rfl) (.slice none 0 0)).setCell (p := ⟨g, 2, none⟩) (fun _ => rfl) (.slice none 0 0)).setCell (p := ⟨g, 3, none⟩) (fun _ => rfl) (.bool false)).setCell (p := ⟨g, 4, none⟩) (fun _ => rfl) (.int .i64 why)).setCell (p := ⟨g, 5, none⟩) (fun _ => rfl) (.slice none 0 0)
  exact ⟨A2, k2, rfl, HC2.out.kept hkg fun k e => by omega, HK2.out.trans hkg fun k hlt e => by have hlt : k < w.heap.size := hlt; omega⟩

set_option maxHeartbeats 4000000 in
set_option maxRecDepth 100000 in
theorem cnTick_idle {w : World} {lo hi c : Nat} {x : XC} (h : ConnAt w lo hi c x) (h6 : x.state ≠ 6) (h7 : x.state ≠ 7) (hb : x.beat = -1) (hd : x.drain = false) (now : Int) (hn : now < x.til) :
    Calls Tryz.prog 23 #[.pointer (some ⟨c, 0, none⟩), .int .u64 now] w fun e w' => e = .returned (outV none 0 0 (.slice none 0 0) (.slice none 0 0) false 0 (.slice none 0 0)) ∧ Kept noBlock w w' := by
  have HB0 := Lib.hid ((Blk.new w 84 #[.slice none 0 0, .slice none 0 0, .slice none 0 0, .bool false, .int .i64 0, .slice none 0 0]).alloc (.cells #[.slice none 0 0, .slice none 0 0, .slice none 0 0, .bool false, .int .i64 0, .slice none 0 0] 84))
  have HB1 := Lib.hid (Blk.new_at (k := w.heap.size + 1) (w.alloc (.cells #[.slice none 0 0, .slice none 0 0, .slice none 0 0, .bool false, .int .i64 0, .slice none 0 0] 84)) 84 #[.slice none 0 0, .slice none 0 0, .slice none 0 0, .bool false, .int .i64 0, .slice none 0 0] (by rw [sz_alloc]))
  have HK0 := Lib.hid (((Kept.refl noBlock w).alloc (.cells #[.slice none 0 0, .slice none 0 0, .slice none 0 0, .bool false, .int .i64 0, .slice none 0 0] 84)).alloc (.cells #[.slice none 0 0, .slice none 0 0, .slice none 0 0, .bool false, .int .i64 0, .slice none 0 0] 84))
  have h6' : (x.state == 6) = false := by rw [beq_eq_false_iff_ne]; exact h6
  have h7' : (x.state == 7) = false := by rw [beq_eq_false_iff_ne]; exact h7
  have hdn : decide (x.til ≤ now) = false := decide_eq_false (by omega)
  obtain ⟨gs, g1, m1, m2, mo, h⟩ := h.keptN HK0.out
  have c8 : (((w.alloc (.cells #[.slice none 0 0, .slice none 0 0, .slice none 0 0, .bool false, .int .i64 0, .slice none 0 0] 84)).alloc (.cells #[.slice none 0 0, .slice none 0 0, .slice none 0 0, .bool false, .int .i64 0, .slice none 0 0] 84))).cell? ⟨c, 8, none⟩ = some (.int .i64 x.state) := h.blk.cell 8
  have c13 : (((w.alloc (.cells #[.slice none 0 0, .slice none 0 0, .slice none 0 0, .bool false, .int .i64 0, .slice none 0 0] 84)).alloc (.cells #[.slice none 0 0, .slice none 0 0, .slice none 0 0, .bool false, .int .i64 0, .slice none 0 0] 84))).cell? ⟨c, 13, none⟩ = some (.int .u64 x.til) := h.blk.cell 13
  have c15 : (((w.alloc (.cells #[.slice none 0 0, .slice none 0 0, .slice none 0 0, .bool false, .int .i64 0, .slice none 0 0] 84)).alloc (.cells #[.slice none 0 0, .slice none 0 0, .slice none 0 0, .bool false, .int .i64 0, .slice none 0 0] 84))).cell? ⟨c, 15, none⟩ = some (.int .i64 (-1)) := by rw [← hb]; exact h.blk.cell 15
  have c18 : (((w.alloc (.cells #[.slice none 0 0, .slice none 0 0, .slice none 0 0, .bool false, .int .i64 0, .slice none 0 0] 84)).alloc (.cells #[.slice none 0 0, .slice none 0 0, .slice none 0 0, .bool false, .int .i64 0, .slice none 0 0] 84))).cell? ⟨c, 18, none⟩ = some (.bool false) := (h.blk.cell 18).trans (by show some (Value.bool x.drain) = _; rw [hd])
  clear h hb hd hn
  go_enter Tryz.func23, Tryz.ntmps23
  go_wp2_with fail
  go_quiet (fail)
  go_wp2_with fail
  go_quiet (fail)
  go_wp2_with fail
  refine bodyPost_ret (results_cell_row rfl _ _ w.heap.size 84 #[.slice none 0 0, .slice none 0 0, .slice none 0 0, .bool false, .int .i64 0, .slice none 0 0] (0, 0) _ rfl (((((((HB0.out.drewN _).set_ 0 (.slice none 0 0)).set_ 1 (.slice none 0 0)).set_ 2 (.slice none 0 0)).set_ 3 (.bool false)).set_ 4 (.int .i64 0)).set_ 5 (.slice none 0 0)) Tryz.underlying84 rfl (by kernel_rfl)) rfl ?_
  exact ⟨rfl, (((((((HK0.out.drewN _).setCell (p := ⟨w.heap.size, 0, none⟩) (fun h => absurd h (Nat.lt_irrefl _)) _).setCell (p := ⟨w.heap.size, 1, none⟩) (fun h => absurd h (Nat.lt_irrefl _)) _).setCell (p := ⟨w.heap.size, 2, none⟩) (fun h => absurd h (Nat.lt_irrefl _)) _).setCell (p := ⟨w.heap.size, 3, none⟩) (fun h => absurd h (Nat.lt_irrefl _)) _).setCell (p := ⟨w.heap.size, 4, none⟩) (fun h => absurd h (Nat.lt_irrefl _)) _).setCell (p := ⟨w.heap.size, 5, none⟩) (fun h => absurd h (Nat.lt_irrefl _)) _)⟩
end Go.Proofs.YtfnjoceolcdeoaaGreatDoor
