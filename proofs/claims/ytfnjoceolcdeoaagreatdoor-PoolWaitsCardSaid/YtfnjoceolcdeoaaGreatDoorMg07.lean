/- request.Params.flags of none, writer.run of none · Chapter 22: small functions: later, prims.Consistency, header.of · writer.run of a consistency and nothing else · request.Put: Options; how a request lies in memory. -/
import Derived.Test.YtfnjoceolcdeoaaGreatDoorMg06
import Derived.Deep.LoopGhost
import Derived.Test.YtfnjoceolcdeoaaGreatDoorMg05
namespace Go.Proofs.YtfnjoceolcdeoaaGreatDoor
set_option linter.unusedVariables false
open Go.RowKit

theorem flagsT : SlT Tryz.prog 256 255 (.agg #[.bool false, .int .u8 0]) 2 2 := ⟨Tryz.underlying256, by kernel_rfl, rfl, by decide, by decide⟩
/-- What a statement is run with: nothing but a consistency. -/
def parC (c : Int) : Array Value := #[.int .u16 c, .slice none 0 0, .slice none 0 0, .bool false, .bool false, .int .i32 0, .bool false, .int .i64 0, .slice none 0 0, .bool false, .int .u16 0, .bool false, .int .i64 0]
def flagL : List Value := [.bool false, .int .u8 1, .bool false, .int .u8 2, .bool false, .int .u8 4, .bool false, .int .u8 8, .bool false, .int .u8 16, .bool false, .int .u8 32, .bool false, .int .u8 64]
theorem flagL_at (i : Nat) (hi : i < 7) : flagL[i * 2 + 0]? = some (.bool false) ∧ ∃ f : Int, flagL[i * 2 + 1]? = some (.int .u8 f) := by
  have : i = 0 ∨ i = 1 ∨ i = 2 ∨ i = 3 ∨ i = 4 ∨ i = 5 ∨ i = 6 := by omega
  rcases this with rfl | rfl | rfl | rfl | rfl | rfl | rfl <;> exact ⟨rfl, _, rfl⟩
set_option maxHeartbeats 2000000 in
set_option maxRecDepth 100000 in
theorem rqFlags_at (c : Int) (w : World) : Calls Tryz.prog 113 #[.agg (parC c)] w fun e w' => e = .returned (.int .u8 0) ∧ Kept noBlock w w' := by
  unfold parC
  go_enter Tryz.func113, Tryz.ntmps113
  go_wp2_with fail
  have HB := Lib.hid (Blk.new_at (k := w.heap.size + 1) (w.alloc (.cells #[.int .u16 c, .slice none 0 0, .slice none 0 0, .bool false, .bool false, .int .i32 0, .bool false, .int .i64 0, .slice none 0 0, .bool false, .int .u16 0, .bool false, .int .i64 0] 141)) 255 #[.bool false, .int .u8 1, .bool false, .int .u8 2, .bool false, .int .u8 4, .bool false, .int .u8 8, .bool false, .int .u8 16, .bool false, .int .u8 32, .bool false, .int .u8 64] (by rw [sz_alloc]))
  have HK := Lib.hid (((Kept.refl noBlock w).alloc (.cells #[.int .u16 c, .slice none 0 0, .slice none 0 0, .bool false, .bool false, .int .i32 0, .bool false, .int .i64 0, .slice none 0 0, .bool false, .int .u16 0, .bool false, .int .i64 0] 141)).alloc (.cells #[.bool false, .int .u8 1, .bool false, .int .u8 2, .bool false, .int .u8 4, .bool false, .int .u8 8, .bool false, .int .u8 16, .bool false, .int .u8 32, .bool false, .int .u8 64] 255))
  generalize hw0 : ((w.alloc (.cells #[.int .u16 c, .slice none 0 0, .slice none 0 0, .bool false, .bool false, .int .i32 0, .bool false, .int .i64 0, .slice none 0 0, .bool false, .int .u16 0, .bool false, .int .i64 0] 141)).alloc (.cells #[.bool false, .int .u8 1, .bool false, .int .u8 2, .bool false, .int .u8 4, .bool false, .int .u8 8, .bool false, .int .u8 16, .bool false, .int .u8 32, .bool false, .int .u8 64] 255)) = w0 at *
  have HS := Lib.hid (Sl.made_at (sz := 2) (n := 7) HB.out flagL rfl rfl (by decide)).lo
  clear hw0
  generalize w.heap.size + 1 = gs at *
  go_loopg [3, 33] 7 (fun j v3 vi wr => ∃ i : Nat, i + j = 7 ∧ vi = .int .i64 i ∧ v3 = .int .u8 0 ∧ Kept noBlock w0 wr)
  case atStart => exact ⟨0, rfl, rfl, rfl, Kept.refl _ _⟩
  case round =>
    obtain ⟨i, hij, rfl, rfl, hk⟩ := hrel
    have HIJ := Lib.hid hij
    have HKR := Lib.hid hk
    by_cases hi : i < 7
    · obtain ⟨f0, f, f1⟩ := flagL_at i hi
      obtain ⟨g, off, hidx, hgl, -, h3⟩ := (SlK.keptNone HS.out hk).run_index flagsT (i := (i : Int)) (k := i) rfl hi
      have c0 : wr.cell? ⟨g, off, none⟩ = some (.bool false) := h3 0 _ f0
      have c1 : wr.cell? ⟨g, off + 1, none⟩ = some (.int .u8 f) := h3 1 _ f1
      clear hij hk h3 f0 f1 hgl
      go_wp2_with fail
      go_roundg (7 - (i + 1))
      case measure => have := HIJ.out; omega
      case rel => exact ⟨i + 1, by have := HIJ.out; omega, by go_num, rfl, (HKR.out.alloc _)⟩
    · obtain rfl : i = 7 := by omega
      clear hij hk
      go_wp2
      go_ret
      exact ⟨rfl, HK.out.trans HKR.out fun _ _ e => e⟩
end Go.Proofs.YtfnjoceolcdeoaaGreatDoor
namespace Go.Proofs.YtfnjoceolcdeoaaGreatDoor
set_option linter.unusedVariables false
open Go.RowKit

/-- A moment and a span. -/
def laterN (now span : Nat) : Nat := if now + span < 18446744073709551616 then now + span else 18446744073709551615
set_option maxHeartbeats 1000000 in
set_option maxRecDepth 100000 in
theorem cnLater_at (now span : Nat) (hn : now < 18446744073709551616) (hs : span < 18446744073709551616) (w : World) : Calls Tryz.prog 38 #[.int .u64 now, .int .u64 span] w fun e w' => e = .returned (.int .u64 ((laterN now span : Nat) : Int)) ∧ w = w' := by
  by_cases h : now + span < 18446744073709551616
  · have HR : Hid (((laterN now span : Nat) : Int) = (now : Int) + (span : Int)) := Lib.hid (by unfold laterN; rw [if_pos h]; omega)
    go_enter Tryz.func38, Tryz.ntmps38
    go_wp2
    go_ret
    rw [HR.out]
    exact ⟨rfl, rfl⟩
  · have HR : Hid (((laterN now span : Nat) : Int) = 18446744073709551615) := Lib.hid (by unfold laterN; rw [if_neg h]; omega)
    go_enter Tryz.func38, Tryz.ntmps38
    go_wp2
    go_ret
    rw [HR.out]
    exact ⟨rfl, rfl⟩
set_option maxHeartbeats 1000000 in
set_option maxRecDepth 100000 in
theorem poLater_at (now span : Nat) (hn : now < 18446744073709551616) (hs : span < 18446744073709551616) (w : World) : Calls Tryz.prog 42 #[.int .u64 now, .int .u64 span] w fun e w' => e = .returned (.int .u64 ((laterN now span : Nat) : Int)) ∧ w = w' := by
  by_cases h : now + span < 18446744073709551616
  · have HR : Hid (((laterN now span : Nat) : Int) = (now : Int) + (span : Int)) := Lib.hid (by unfold laterN; rw [if_pos h]; omega)
    go_enter Tryz.func42, Tryz.ntmps42
    go_wp2
    go_ret
    rw [HR.out]
    exact ⟨rfl, rfl⟩
  · have HR : Hid (((laterN now span : Nat) : Int) = 18446744073709551615) := Lib.hid (by unfold laterN; rw [if_neg h]; omega)
    go_enter Tryz.func42, Tryz.ntmps42
    go_wp2
    go_ret
    rw [HR.out]
    exact ⟨rfl, rfl⟩
set_option maxHeartbeats 1000000 in
set_option maxRecDepth 100000 in
theorem pCons_at (c : Nat) (hc : c ≤ 10) (w : World) : Calls Tryz.prog 112 #[.int .u16 c] w fun e w' => ∃ v', e = .returned (.tuple #[v', .int .i64 0]) ∧ w'.ownsRow w.heap.size 5 1 v' 2 (Lib.byteCells (putB c 2)) ∧ Kept noBlock w w' := by
  have HP := Lib.hid (oPut_at c 2 (by omega) (by decide) (by decide) w)
  go_enter Tryz.func112, Tryz.ntmps112
  go_wp2_with fail
  go_at_call 111
  refine HP.out.mono ?_
  rintro e w1 ⟨v', rfl, ho, hk⟩
  have HO := Lib.hid ho
  have HK := Lib.hid hk
  clear ho hk
  go_wp2
  go_ret2
  exact ⟨v', rfl, HO.out, HK.out⟩
end Go.Proofs.YtfnjoceolcdeoaaGreatDoor
namespace Go.Proofs.YtfnjoceolcdeoaaGreatDoor
set_option linter.unusedVariables false
open Go.RowKit

theorem cells13 {w : World} {g : Nat} {t : TypeId} {a0 a1 a2 a3 a4 a5 a6 a7 a8 a9 a10 a11 a12 : Value} (h : Blk w g t #[a0, a1, a2, a3, a4, a5, a6, a7, a8, a9, a10, a11, a12]) :
    w.cell? ⟨g, 0, none⟩ = some a0 ∧ w.cell? ⟨g, 1, none⟩ = some a1 ∧ w.cell? ⟨g, 2, none⟩ = some a2 ∧ w.cell? ⟨g, 3, none⟩ = some a3 ∧ w.cell? ⟨g, 4, none⟩ = some a4 ∧ w.cell? ⟨g, 5, none⟩ = some a5 ∧ w.cell? ⟨g, 6, none⟩ = some a6 ∧ w.cell? ⟨g, 7, none⟩ = some a7 ∧ w.cell? ⟨g, 8, none⟩ = some a8 ∧ w.cell? ⟨g, 9, none⟩ = some a9 ∧ w.cell? ⟨g, 10, none⟩ = some a10 ∧ w.cell? ⟨g, 11, none⟩ = some a11 ∧ w.cell? ⟨g, 12, none⟩ = some a12 :=
  ⟨h.cell 0, h.cell 1, h.cell 2, h.cell 3, h.cell 4, h.cell 5, h.cell 6, h.cell 7, h.cell 8, h.cell 9, h.cell 10, h.cell 11, h.cell 12⟩
/-- A writer behind a run of a consistency. -/
def runP (s : List UInt8 × Int) (c : Nat) : List UInt8 × Int := wrStep (wrStep s (putB c 2) 0) (putB 0 1) 0
set_option maxHeartbeats 4000000 in
set_option maxRecDepth 100000 in
theorem rwRun_at {w : World} {p : Nat} {s : List UInt8 × Int} (h : WrAt w p s) (c : Nat) (hc : c ≤ 10) (hb : s.1.length ≤ 10000000000000) :
    Calls Tryz.prog 79 #[.pointer (some ⟨p, 0, none⟩), .agg (parC c), .bool false] w fun e' w' => e' = .returned (.tuple #[]) ∧ WrAt w' p (runP s c) ∧ Kept (wrS p w) w w' := by
  have hlt := h.lt
  have HB := Lib.hid (Blk.new w 141 (parC c))
  have HK0 := Lib.hid ((Kept.refl noBlock w).alloc (.cells (parC c) 141))
  have H := Lib.hid (h.keptN HK0.out)
  unfold parC at HB HK0 H ⊢
  clear h
  go_enter Tryz.func79, Tryz.ntmps79
  go_wp2_with fail
  generalize hw0 : w.alloc (.cells #[.int .u16 (c : Int), .slice none 0 0, .slice none 0 0, .bool false, .bool false, .int .i32 0, .bool false, .int .i64 0, .slice none 0 0, .bool false, .int .u16 0, .bool false, .int .i64 0] 141) = w0 at *
  generalize hg : w.heap.size = g at *
  clear hw0
  go_at_call 112
  refine (pCons_at c hc w0).mono ?_
  rintro e w1 ⟨v1, rfl, ho1, hk1⟩
  obtain ⟨A1, c1, rfl, -, -⟩ := (Sl.of_own ho1).shape
  have HR1 := Lib.hid (rwPut_at (H.out.keptN hk1) (Sl.of_own ho1) 0 (by omega))
  have HB1 := Lib.hid (HB.out.kept hk1 (fun h => h))
  have HK1 := Lib.hid (HK0.out.trans hk1 fun _ _ e => e)
  clear ho1 hk1
  go_wp2_with fail
  go_at_call 76
  refine HR1.out.mono ?_
  rintro e w2 ⟨rfl, hw2, hk2⟩
  have hgp : g ≠ p := by omega
  have hb2 := HB1.out.wr hk2 hgp (by decide)
  have HB2 := Lib.hid hb2
  have HW2 := Lib.hid hw2
  have HK2 := Lib.hid (wrS_trans (p := p) HK1.out.of_none hk2)
  obtain ⟨y0, y1, y2, y3, y4, y5, y6, y7, y8, y9, y10, y11, y12⟩ := cells13 hb2
  clear hb2 hw2 hk2
  go_wp2_with fail
  go_at_call 113
  refine (rqFlags_at c w2).mono ?_
  rintro e w3 ⟨rfl, hk3⟩
  have hb3 := HB2.out.kept hk3 (fun h => h)
  have HB3 := Lib.hid hb3
  have HW3 := Lib.hid (HW2.out.keptN hk3)
  have HK3 := Lib.hid (wrS_trans HK2.out (hk3.of_none (S := wrS p w2)))
  clear y0 y1 y2 y3 y4 y5 y6 y7 y8 y9 y10 y11 y12
  obtain ⟨y0, y1, y2, y3, y4, y5, y6, y7, y8, y9, y10, y11, y12⟩ := cells13 hb3
  clear hb3 hk3
  go_wp2_with fail
  go_at_call 114
  refine (rwMust_at p w3).mono ?_
  rintro e w4 ⟨rfl, hw4⟩
  subst hw4
  have HN := Lib.hid (rwNumber_at HW3.out 0 1 (by decide) (by decide) (by decide) (by have := wrStep_len s (putB c 2) 0; rw [putB_len] at this; omega))
  go_wp2_with fail
  go_at_call 115
  refine HN.out.mono ?_
  rintro e w5 ⟨rfl, hw5, hk5⟩
  have hb5 := HB3.out.wr hk5 hgp (by decide)
  have HW5 : Hid (WrAt w5 p (runP s c)) := Lib.hid hw5
  have HK5 := Lib.hid (wrS_trans HK3.out hk5)
  clear y0 y1 y2 y3 y4 y5 y6 y7 y8 y9 y10 y11 y12
  obtain ⟨y0, y1, y2, y3, y4, y5, y6, y7, y8, y9, y10, y11, y12⟩ := cells13 hb5
  obtain ⟨A5, n5, c5, -, hbw, -⟩ := HW5.out
  have z1 := hbw.cell 1
  simp only [List.getElem?_toArray, List.getElem?_cons_zero, List.getElem?_cons_succ] at z1
  generalize (runP s c).2 = e5 at z1
  clear hb5 hbw hw5 hk5
  by_cases h0 : e5 = 0
  · subst h0
    go_wp2
    go_end0
    exact ⟨rfl, HW5.out, HK5.out⟩
  · have h0' : (e5 == 0) = false := by rw [beq_eq_false_iff_ne]; exact h0
    go_wp2
    (try simp only [Exit.inBlock, Exit.then])
    refine bodyPost_ret (results_none rfl _ _ _) rfl ?_
    exact ⟨rfl, HW5.out, HK5.out⟩
end Go.Proofs.YtfnjoceolcdeoaaGreatDoor
namespace Go.Proofs.YtfnjoceolcdeoaaGreatDoor
set_option linter.unusedVariables false
open Go.RowKit

/-- A request's cells. -/
def reqC (op : Int) (o : Value) (t : ByteArray) (cons : Int) (ev : Value) (tk : Int) (tb : Value) : Array Value := #[.int .u8 op, o, .string t, .slice none 0 0, .int .u16 cons, .slice none 0 0, .slice none 0 0, .bool false, .bool false, .int .i32 0, .bool false, .int .i64 0, .slice none 0 0, .bool false, .int .u16 0, .bool false, .int .i64 0, ev, .int .i64 tk, tb, .int .u8 0, .slice none 0 0]
/-- What a writer hands back. -/
def wrFin (s : List UInt8 × Int) : List UInt8 × Int := if s.2 = 0 then s else ([], s.2)
def PutPost (w : World) (s : List UInt8 × Int) (e : Ending) (w' : World) : Prop := ∃ A n c, e = .returned (.tuple #[.slice A n c, .int .i64 s.2]) ∧ n = s.1.length ∧ Sl w' 5 1 (.slice A n c) n (Lib.byteCells s.1) ∧ Kept noBlock w w'

set_option maxHeartbeats 2000000 in
set_option maxRecDepth 100000 in
theorem rqPut_opt (w : World) : Calls Tryz.prog 57 #[.agg (reqC 5 (.slice none 0 0) noStr 0 (.slice none 0 0) 0 (.slice none 0 0))] w (PutPost w ([], 0)) := by
  unfold reqC
  go_enter Tryz.func57, Tryz.ntmps57
  go_wp2
  go_ret2
  exact ⟨none, 0, 0, rfl, rfl, Sl.nil _ _ _, ((Kept.refl noBlock w).alloc _).alloc _⟩
end Go.Proofs.YtfnjoceolcdeoaaGreatDoor
